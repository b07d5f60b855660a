/- The walk of divide: quotient and remainder of two numbers. The walks of small and gcd. The walks of integers and fractions of the package exact. The walks of fractions: over, Int, New, Add. -/
import Derived.Test.YtodckaioeomccaaGreatPart19
import Derived.Test.YtodckaioeomccaaGreatPart12
import Derived.Test.YtodckaioeomccaaGreatPart13
import Derived.Test.YtodckaioeomccaaGreatPart03
import Derived.Deep.LoopGhost
namespace Go.Proofs.YtodckaioeomccaaGreat
open Go.RowKit
set_option linter.unusedVariables false
set_option linter.unusedSimpArgs false
theorem norm_shift {n k tb : Nat} (hk : dl n = k + 1) (ht : (digs B64 n)[k]? = some tb) :
  0 < tb ∧ tb < B64 ∧ dl (n * 2 ^ (64 - Lib.bitLen tb)) = k + 1 ∧ 9223372036854775808 ≤ (digs B64 (n * 2 ^ (64 - Lib.bitLen tb))).getD k 0 ∧ 64 - Lib.bitLen tb ≤ 63 ∧ Lib.bitLen tb ≤ 64 := by
 have htB := digs_lt B64_2 n tb (List.mem_of_getElem? ht)
 have hlen : (digs B64 n).length = k + 1 := hk
 have ht0 : tb ≠ 0 := by
  refine (digs_norm B64_2 n).last tb ?_
  rw [List.getLast?_eq_getElem?, hlen]
  exact ht
 obtain ⟨h1, h2, h3, h4⟩ := bitLen_spec htB ht0
 obtain ⟨s, hs⟩ : ∃ s, s = 64 - Lib.bitLen tb := ⟨_, rfl⟩
 rw [← hs]
 have hp : 0 < 2 ^ s := Nat.two_pow_pos s
 have e64 : 2 ^ Lib.bitLen tb * 2 ^ s = B64 := by rw [← Nat.pow_add, show Lib.bitLen tb + s = 64 by omega, two64]; rfl
 have e63 : 2 ^ (Lib.bitLen tb - 1) * 2 ^ s = 9223372036854775808 := by rw [← Nat.pow_add, show Lib.bitLen tb - 1 + s = 63 by omega]
 have hd := (digs_get_div B64_2 ht)
 have z : n / B64 ^ (k + 1) = 0 := digs_div_none B64_2 (by omega)
 rw [z, Nat.mul_zero, Nat.add_zero] at hd
 have hBk : 0 < B64 ^ k := Nat.pow_pos (by unfold B64; omega)
 have hn1 : tb * B64 ^ k ≤ n := by have := Nat.div_mul_le_self n (B64 ^ k); rwa [hd.2] at this
 have hn2 : n < (tb + 1) * B64 ^ k := by rw [← Nat.div_lt_iff_lt_mul hBk, hd.2]; omega
 have hV2 : n * 2 ^ s < B64 ^ (k + 1) := by
  have a1 : n * 2 ^ s < (tb + 1) * B64 ^ k * 2 ^ s := Nat.mul_lt_mul_of_pos_right hn2 hp
  have a2 : (tb + 1) * B64 ^ k * 2 ^ s ≤ 2 ^ Lib.bitLen tb * B64 ^ k * 2 ^ s := Nat.mul_le_mul_right _ (Nat.mul_le_mul_right _ h3)
  have a3 : 2 ^ Lib.bitLen tb * B64 ^ k * 2 ^ s = B64 ^ (k + 1) := by rw [Nat.pow_succ, ← e64, Nat.mul_right_comm, Nat.mul_comm]
  omega
 have hdl : dl (n * 2 ^ s) = k + 1 := by
  have b1 := (dl_le_iff (n * 2 ^ s) (k + 1)).2 hV2
  have b2 := dl_mono (Nat.le_mul_of_pos_right n hp)
  omega
 refine ⟨by omega, htB, hdl, ?_, by omega, h2⟩
 rw [getD_div]
 have c1 : n * 2 ^ s / B64 ^ k < B64 := by rw [Nat.div_lt_iff_lt_mul hBk, Nat.mul_comm B64, ← Nat.pow_succ]; exact hV2
 rw [Nat.mod_eq_of_lt c1, Nat.le_div_iff_mul_le hBk, ← e63]
 have c2 : 2 ^ (Lib.bitLen tb - 1) * B64 ^ k * 2 ^ s ≤ tb * B64 ^ k * 2 ^ s := Nat.mul_le_mul_right _ (Nat.mul_le_mul_right _ h4)
 have c3 : tb * B64 ^ k * 2 ^ s ≤ n * 2 ^ s := Nat.mul_le_mul_right _ hn1
 rw [Nat.mul_right_comm] at c2
 omega
theorem divide_step {cur Q sub' : List Nat} {j k M V d : Nat} (hQ : j < Q.length) (hjk : j + (k + 1) ≤ cur.length) (hV : V < B64 ^ k)
  (hM : M = V * val B64 (Q.drop (j + 1)) * B64 ^ (j + 1) + val B64 cur) (hlt : val B64 (cur.drop (j + 1)) < V)
  (hcx : ∀ x ∈ cur, x < B64) (hd : d = val B64 ((cur.drop j).take (k + 1)) / V) (hs : val B64 sub' = val B64 ((cur.drop j).take (k + 1)) % V) (hsl : sub'.length = k + 1) :
  val B64 ((cur.drop j).take (k + 1)) < V * B64 ∧ M = V * val B64 ((Q.set j d).drop j) * B64 ^ j + val B64 (cur.take j ++ (sub' ++ cur.drop (j + (k + 1)))) ∧ val B64 ((cur.take j ++ (sub' ++ cur.drop (j + (k + 1)))).drop j) < V := by
 have hV0 : 0 < V := by omega
 have hB : 0 < B64 := by unfold B64; omega
 have hz : val B64 (cur.drop (j + (k + 1))) = 0 := by
  have h1 := val_split' B64 (cur.drop (j + 1)) k
  rw [List.drop_drop] at h1
  rw [show j + (k + 1) = j + 1 + k by omega]
  rcases Nat.eq_zero_or_pos (val B64 (cur.drop (j + 1 + k))) with h0 | h0
  ·exact h0
  ·have : B64 ^ k * 1 ≤ B64 ^ k * val B64 (cur.drop (j + 1 + k)) := Nat.mul_le_mul_left _ h0
   omega
 have hsub : val B64 ((cur.drop j).take (k + 1)) = val B64 (cur.drop j) := by
  have h1 := val_split' B64 (cur.drop j) (k + 1)
  rw [List.drop_drop, hz] at h1
  omega
 have hdj := val_drop_getD B64 cur j
 have hcj : cur.getD j 0 < B64 := by
  have e := List.getElem?_eq_getElem (l := cur) (i := j) (by omega)
  rw [getD_of e]; exact hcx _ (List.getElem_mem _)
 have hlt2 : val B64 ((cur.drop j).take (k + 1)) < V * B64 := by
  rw [hsub, hdj]
  have : B64 * (val B64 (cur.drop (j + 1)) + 1) ≤ B64 * V := Nat.mul_le_mul_left _ hlt
  rw [Nat.mul_add, Nat.mul_one] at this
  rw [Nat.mul_comm V]; omega
 have htl : (cur.take j).length = j := by rw [List.length_take]; omega
 have hcur := val_split' B64 cur j
 have hc' : val B64 (cur.take j ++ (sub' ++ cur.drop (j + (k + 1)))) = val B64 (cur.take j) + B64 ^ j * val B64 sub' := by
  rw [val_append, htl, val_append, hz, Nat.mul_zero, Nat.add_zero]
 refine ⟨hlt2, ?_, ?_⟩
 ·rw [hM, hc', drop_set_self hQ, val, hcur, ← hsub, hs]
  have h1 := Nat.div_add_mod (val B64 ((cur.drop j).take (k + 1))) V
  rw [← hd] at h1
  have h2 : B64 ^ j * val B64 ((cur.drop j).take (k + 1)) = B64 ^ j * (V * d) + B64 ^ j * (val B64 ((cur.drop j).take (k + 1)) % V) := by rw [← Nat.mul_add, h1]
  have h3 : V * (d + B64 * val B64 (Q.drop (j + 1))) * B64 ^ j = B64 ^ j * (V * d) + V * val B64 (Q.drop (j + 1)) * B64 ^ (j + 1) := by
   rw [Nat.mul_add, Nat.add_mul, Nat.mul_comm (V * d), Nat.pow_succ]
   congr 1
   rw [Nat.mul_left_comm V B64, Nat.mul_comm B64, Nat.mul_assoc, Nat.mul_comm B64]
  omega
 ·rw [List.drop_append_of_le_length (by omega), List.drop_of_length_le (by omega), List.nil_append, val_append, hz, Nat.mul_zero, Nat.add_zero, hs]
  exact Nat.mod_lt _ hV0
theorem RowW.sub {w : World} {g : Nat} {xs : List Nat} (h : RowW w g 0 xs) (j n : Nat) : RowW w g j ((xs.drop j).take n) := fun i x hx => by
 rw [List.getElem?_take] at hx
 split at hx
 ·rw [List.getElem?_drop] at hx
  have := h (j + i) x hx
  rwa [Nat.zero_add] at this
 ·cases hx
theorem RowW.join {w w' : World} {g j n : Nat} {xs ys : List Nat} (h : RowW w g 0 xs) (ht : Turned g j n w w') (hy : RowW w' g j ys) (hl : ys.length = n) (hj : j + n ≤ xs.length) : RowW w' g 0 (xs.take j ++ (ys ++ xs.drop (j + n))) := fun i x hx => by
 have htl : (xs.take j).length = j := by rw [List.length_take]; omega
 rw [Nat.zero_add]
 by_cases h1 : i < j
 ·rw [List.getElem?_append_left (by omega), List.getElem?_take, if_pos h1] at hx
  have := h i x hx
  rw [Nat.zero_add] at this
  exact ⟨(ht.cell i (.inl h1)).trans this.1, (ht.frozen i).trans this.2⟩
 ·rw [List.getElem?_append_right (by omega), htl] at hx
  by_cases h2 : i - j < n
  ·rw [List.getElem?_append_left (by omega)] at hx
   have := hy (i - j) x hx
   rwa [show j + (i - j) = i by omega] at this
  ·rw [List.getElem?_append_right (by omega), hl, List.getElem?_drop, show j + n + (i - j - n) = i by omega] at hx
   have := h i x hx
   rw [Nat.zero_add] at this
   exact ⟨(ht.cell i (.inr (by omega))).trans this.1, (ht.frozen i).trans this.2⟩
theorem Turned.blk {g off n g' : Nat} {w w' : World} {xs : List Nat} (h : Turned g off n w w') (hb : BlkW w g' xs) (hne : g' ≠ g) : BlkW w' g' xs := (h.block g' hb.lt hne).trans hb
def DivPost (w : World) (m n : Nat) (e : Ending) (w' : World) : Prop := ∃ v1 v2, e = .returned (.tuple #[v1, v2]) ∧ RdN w' v1 (m / n) ∧ RdN w' v2 (m % n) ∧ Below w.heap.size w w'
theorem own_row {w : World} {base n : Nat} {v : Value} {xs : List Nat} (h : w.ownsRow base 270 1 v n (xs.map u64V)) (hn : 0 < n) :
  ∃ g cap, v = .slice (some ⟨g, 0, none⟩) n cap ∧ n ≤ cap ∧ cap ≤ maxLen ∧ base ≤ g ∧ g < w.heap.size ∧ RowW w g 0 xs := by
 have hl := h.1
 rw [List.length_map] at hl
 rcases h.2 with ⟨_, h0⟩ | ⟨g, cap, cur, rfl, hb, hg, h1, h2, h3, h4⟩
 ·omega
 ·refine ⟨g, cap, rfl, h1, h2, hb, (Array.getElem?_eq_some_iff.1 hg).1, fun i x hx => ?_⟩
  rw [Nat.zero_add]
  have hi := (List.getElem?_eq_some_iff.1 hx).1
  exact ⟨by rw [h.cellAt i (by omega), List.getElem?_map, hx]; rfl, h.frozenAt i⟩
theorem RdN.nil_ (w : World) : RdN w (.slice none 0 0) 0 := by unfold RdN; rw [digs_zero]; exact Rd.none_ _ _ _
set_option maxRecDepth 100000 in
set_option maxHeartbeats 8000000 in
theorem divide_any (va vb : Value) (m n : Nat) (w : World) (hP : RdN w va m) (hQ : RdN w vb n) (hn0 : n ≠ 0) (hm6 : dl m ≤ 900000) (hn6 : dl n ≤ 900000) :
  Calls Tryz.prog 227 #[va, vb] w fun e w' => DivPost w m n e w' := by
 have HCM := h0d (cmp_any va vb m n w hP hQ)
 have HP := h0d hP
 have HQ := h0d hQ
 obtain ⟨A1, k1, c1, rfl, e1, hk1, _, hm1, hc1⟩ := RdW.open_ hP
 obtain ⟨A2, k2, c2, rfl, e2, hk2, _, hm2, hc2⟩ := RdW.open_ hQ
 have hk16 : k1 ≤ 900000 := by unfold dl at hm6; omega
 have hk26 : k2 ≤ 900000 := by unfold dl at hn6; omega
 have HE1 := h0d e1
 have HE2 := h0d e2
 have HC2 := h0d hc2
 have HN0 := h0d hn0
 have hk2p : 0 < k2 := by have := dl_pos hn0; unfold dl at this; omega
 clear hP hQ e1 hc1 hc2 hm6 hn6
 by_cases hlt : m < n
 ·rw [cmpN_lt hlt] at HCM
  have HR : Hid (m / n = 0 ∧ m % n = m) := ⟨Nat.div_eq_of_lt hlt, Nat.mod_eq_of_lt hlt⟩
  clear hlt e2 hn0
  go_enter Tryz.func227, Tryz.ntmps227
  go_wp2_with (go_at_call 127; refine HCM.out.mono ?_; rintro e w2 ⟨rfl, hb2⟩; have HB2 := h0d hb2; clear hb2)
  go_ret2
  exact ⟨_, _, rfl, by rw [HR.out.1]; exact RdN.nil_ _, by rw [HR.out.2]; exact HP.out.below HB2.out, HB2.out⟩
 ·obtain ⟨cv, hcv⟩ : ∃ cv, cv = cmpN m n := ⟨_, rfl⟩
  rw [← hcv] at HCM
  have hcn2 : ¬ (cv < 0) := by rw [hcv]; unfold cmpN; rw [if_neg hlt]; split <;> omega
  have hcn : decide (cv < 0) = false := decide_eq_false hcn2
  have HLT := h0d hlt
  clear hcv hlt
  by_cases hk1' : k2 = 1
  ·obtain ⟨b2, f2, x, rfl, hb2, hx, hcx⟩ := HC2.out 0 (by omega)
   have hxB := digs_lt B64_2 n x (List.mem_of_getElem? hx)
   have hnx : n = x := by
    have : digs B64 n = [x] := by
     match hq : digs B64 n, (show (digs B64 n).length = 1 by omega), hx with
     | [y], _, hx => simp at hx; rw [hx]
    rw [← val_digs B64_2 n, this, val_one]
   rw [Nat.add_zero] at hcx
   have hBW := h0d (fun w' (hb : Below w.heap.size w w') => byWord_any _ m x w' (HP.out.below hb) (by omega) hxB (by have := HE1.out; unfold dl; omega))
   have HW := h0d (fun w' => word_any (m % x) w' (Nat.lt_of_lt_of_le (Nat.mod_lt _ (by omega)) (Nat.le_of_lt hxB)))
   have HNX := h0d hnx
   subst hk1'
   clear hx hxB hnx e2 hn0
   go_enter Tryz.func227, Tryz.ntmps227
   go_wp2_with (first | (go_at_call 127; refine HCM.out.mono ?_; rintro e w2 ⟨rfl, hb2⟩; have HB2 := h0d hb2; clear hb2; have hcx2 := (HB2.out.cell (p := ⟨b2, f2, none⟩) hb2).trans hcx) | (go_at_call 233; refine (hBW.out _ HB2.out).mono ?_; rintro e w3 ⟨⟨v3, rfl, hr3⟩, hb3⟩; have HR3 := h0d hr3; have HB3 := h0d hb3; clear hb3 hr3) | (go_at_call 209; refine (HW.out _).mono ?_; rintro e w4 ⟨⟨v4, rfl, hr4⟩, hb4⟩; have HR4 := h0d hr4; have HB4 := h0d hb4; clear hb4 hr4))
   go_ret2
   refine ⟨v3, v4, rfl, ?_, ?_, HB2.out.trans ((HB3.out.mono HB2.out.size).trans (HB4.out.mono (Nat.le_trans HB2.out.size HB3.out.size)))⟩
   ·rw [HNX.out]; exact HR3.out.below HB4.out
   ·rw [HNX.out]; exact HR4.out
  ·obtain ⟨k, rfl⟩ : ∃ k, k2 = k + 2 := ⟨k2 - 2, by omega⟩
   have hkb : ((k : Int) + 2 == 1) = false := by simp; omega
   obtain ⟨b2, f2, tb, rfl, hb2, hx, hcx⟩ := HC2.out (k + 1) (by omega)
   obtain ⟨n1, n2, n3, n4, n5, n6⟩ := norm_shift (show dl n = k + 1 + 1 from e2) hx
   have HLZ := h0d (fun w' => lz_any tb n2 w')
   have hse : (64 : Int) - (Lib.bitLen tb : Int) = ((64 - Lib.bitLen tb : Nat) : Int) := by omega
   rw [hse] at HLZ
   obtain ⟨s, hs⟩ : ∃ s, s = 64 - Lib.bitLen tb := ⟨_, rfl⟩
   rw [← hs] at HLZ n3 n4 n5
   obtain ⟨V, hV⟩ : ∃ V, V = n * 2 ^ s := ⟨_, rfl⟩
   obtain ⟨M, hM⟩ : ∃ M, M = m * 2 ^ s := ⟨_, rfl⟩
   have HLV := h0d (fun w' (hb : Below w.heap.size w w') => left_any _ n s w' (HQ.out.below hb) (by have := HE2.out; unfold dl; omega) (by omega))
   have HLM := h0d (fun w' (hb : Below w.heap.size w w') => left_any _ m s w' (HP.out.below hb) (by have := HE1.out; unfold dl; omega) (by omega))
   rw [← hV] at HLV n3 n4
   rw [← hM] at HLM
   have hVM : V ≤ M := by rw [hV, hM]; exact Nat.mul_le_mul_right _ (Nat.not_lt.1 HLT.out)
   obtain ⟨l, hl⟩ : ∃ l, l = dl M := ⟨_, rfl⟩
   have hkl : k + 2 ≤ l := by rw [hl, ← n3]; exact dl_mono hVM
   have hl9 : l ≤ 900001 := by
    have h1 : dl M ≤ dl m + dl (2 ^ s) := by rw [hM]; exact dl_mul _ _
    have h2 : dl (2 ^ s) ≤ 1 := dl_small (by
     have : 2 ^ s < 2 ^ 64 := Nat.pow_lt_pow_right (by omega) (by omega)
     rw [two64] at this; exact this)
    have h3 := HE1.out
    unfold dl at h1 h2 hl; omega
   have HV := h0d hV
   have HM := h0d hM
   have HDV := h0d n3
   have HTV := h0d n4
   have HVM := h0d hVM
   have HL := h0d hl
   have HX := h0d hx
   clear hx n1 n2 n3 n4 n6 hse hs hV hM hVM hl e2 hn0 hk1'
   go_enter Tryz.func227, Tryz.ntmps227
   go_upto_region 8 with (first | (go_at_call 127; refine HCM.out.mono ?_; rintro e w2 ⟨rfl, hb2'⟩; have HB2 := h0d hb2'; clear hb2'; have hcx2 := (HB2.out.cell (p := ⟨b2, f2 + (k + 1), none⟩) hb2).trans hcx) | (go_at_call 266; refine (HLZ.out _).mono ?_; rintro e w2' ⟨rfl, rfl⟩) | (go_at_call 267; refine (HLV.out _ HB2.out).mono ?_; rintro e w3 ⟨⟨vv, rfl, hr3⟩, hb3⟩; have HR3 := h0d hr3; have HB3 := h0d hb3; clear hb3 hr3))
   obtain ⟨Av, nv, cvv, rfl, ev, hkv, _, hmv, _⟩ := RdW.open_ HR3.out
   obtain rfl : k + 2 = nv := by have := HDV.out; unfold dl at this; omega
   have HBL3 : Hid (Below w.heap.size w w3) := HB2.out.trans (HB3.out.mono HB2.out.size)
   have HB4 : Hid (Below w.heap.size w (w3.alloc (.cells #[] 270))) := HBL3.out.alloc HBL3.out.size _
   clear ev hcx2
   go_cut [10] (fun v wx => ∃ g cap : Nat, v = .slice (some ⟨g, 0, none⟩) (l + 1) cap ∧ l + 1 ≤ cap ∧ cap ≤ maxLen ∧ w3.heap.size ≤ g ∧ g < wx.heap.size ∧ Hid (RowW wx g 0 (digs B64 M ++ [0])) ∧ Hid (Below w3.heap.size w3 wx))
   case first =>
    obtain ⟨i0, hi0, hz0, hz1, hz2⟩ := info_parts info118
    have hlp : 0 < l := by omega
    have HLE : Hid (∀ q, (digs B64 M).length = q → l = q) := fun q h => by rw [← h]; exact HL.out
    go_wp2_with fail
    refine (HLM.out _ HB4.out).mono ?_
    rintro e w5 ⟨⟨vM, rfl, hr5⟩, hb5⟩
    obtain ⟨A5, n5', c5, rfl, e5, _, _, hm5, hc5⟩ := RdW.open_ hr5
    obtain rfl := HLE.out _ e5
    obtain ⟨b5, f5, x5, rfl, _, _, _⟩ := hc5 0 hlp
    have HC5 := h0d (Rd.cells hr5)
    have HL5 : Hid (((digs B64 M).map u64V).length = l * 1) := by show _ = _; rw [List.length_map, e5, Nat.mul_one]
    have HB5 := h0d hb5
    have gr5 : (w3.alloc (.cells #[] 270)).grownBy w5 none := ⟨hb5.os, hb5.tape, hb5.output, hb5.size, fun b hb _ => hb5.block b hb⟩
    have HOW5 : Hid (w5.ownsRow w3.heap.size 270 1 (.slice (some ⟨w3.heap.size, 0, none⟩) 0 0) 0 []) := (World.ownsRow_made w3 #[] 0 (Nat.le_refl _) (by decide) rfl).kept gr5 (.inr (by simp [Value.ownBlock]))
    have HS5 : Hid (w3.heap.size + 1 ≤ w5.heap.size) := by have := hb5.size; show _ ≤ _; simpa using this
    clear hr5 hb5 e5 hc5 gr5
    go_wp2_with (first
     | (at_builtin; refine wpList_append_own _ rfl _ _ 25 rfl w3.heap.size 270 i0 (.int .u64 0) 1 8 Tryz.underlying25 hi0 hz0 hz1 hz2 rfl (by decide) _ 0 [] rfl HOW5.out ⟨b5, f5, none⟩ l c5 ((digs B64 M).map u64V) rfl HL5.out HC5.out (fun u hu => by obtain ⟨x, _, rfl⟩ := List.mem_map.1 hu; rfl) (by unfold maxLen; omega) (by omega) (by have := HS5.out; omega) ?_; intro v6 w6 hown6 hgrow6 _; have HOW6 := h0d (hown6.alloc (.cells #[.int .u64 0] 270)); have HG6 := h0d hgrow6; clear hown6 hgrow6)
     | (at_builtin; refine wpList_append_own _ rfl _ _ 25 rfl w3.heap.size 270 i0 (.int .u64 0) 1 8 Tryz.underlying25 hi0 hz0 hz1 hz2 rfl (by decide) v6 (0 + l) _ rfl HOW6.out ⟨w6.heap.size, 0, none⟩ 1 1 [.int .u64 0] rfl rfl (cells_new w6 #[.int .u64 0] 270 (0, 0)) (fun u hu => by rw [List.mem_singleton.1 hu]; rfl) (by unfold maxLen; omega) (by omega) (by have := HS5.out; have := HG6.out.size; simp; omega) ?_; intro v8 w8 hown8 hgrow8 _; have HOW8 := h0d hown8; have HG8 := h0d hgrow8; clear hown8 hgrow8))
    have hor := HOW8.out
    have hxs : ((digs B64 M ++ [0]).map u64V) = [] ++ (digs B64 M).map u64V ++ [.int .u64 0] := by rw [List.map_append, List.nil_append]; rfl
    rw [← hxs, Nat.zero_add] at hor
    have hBW : Below w3.heap.size w3 w8 := by
     refine (((((Below.refl _ w3).alloc (Nat.le_refl _) (.cells #[] 270)).trans (HB5.out.mono (by simp))).grown HG6.out (by have := HS5.out; omega) (fun g hg => by simp [Value.ownBlock, Act.eval] at hg; omega)).alloc (by have := HS5.out; have := HG6.out.size; omega) (.cells #[.int .u64 0] 270)).grown HG8.out (by have := HS5.out; have := HG6.out.size; simp; omega) (fun g hg => (HOW6.out.lt g hg).1)
    have HBW := h0d hBW
    have HOR := h0d hor
    clear hor hxs hBW
    obtain ⟨g, cap, rfl, hg1, hg2, hg3, hg4, hg5⟩ := own_row HOR.out (by omega)
    go_meet
    case rel => exact ⟨g, cap, rfl, hg1, hg2, hg3, hg4, hg5, HBW.out⟩
   case rest =>
    obtain ⟨g, cap, rfl, hg1, hg2, hg3, hg4, HROW, HBW4⟩ := hcut
    have hmk := make_words
    obtain ⟨nq, hnq⟩ : ∃ q, q = l + 1 - (k + 2) := ⟨_, rfl⟩
    have hnqi : (l : Int) + 1 - ((k : Int) + 2) = (nq : Int) := by omega
    have hnq1 : nq + (k + 2) ≤ l + 1 := by omega
    have hnq2 : l + 1 ≤ nq + (k + 2) := by omega
    have hcap' : cap ≤ 9223372036854775807 := by unfold maxLen at hg2; omega
    have HMK := hmk nq nq (Nat.le_refl _) (by omega)
    obtain ⟨C0, hC0⟩ : ∃ C, C = ((List.replicate nq 0).map u64V).toArray := ⟨_, rfl⟩
    rw [← hC0] at HMK
    have HC0 := h0d hC0
    have HG2 := h0d hg2
    clear hmk hC0 hnq hg2
    go_wp2_with fail
    go_loopw [13] (fun iv wr => ∃ (jj : Nat) (Q cur : List Nat), jj ≤ nq ∧ iv = .int .i64 ((jj : Int) - 1) ∧ Hid (Q.length = nq) ∧ Hid (∀ x ∈ Q, x < B64) ∧ Hid (cur.length = l + 1) ∧ Hid (∀ x ∈ cur, x < B64) ∧ Hid (BlkW wr wc.heap.size Q) ∧ Hid (RowW wr g 0 cur) ∧ Hid (Below w3.heap.size w3 wr) ∧ Hid (M = V * val B64 (Q.drop jj) * B64 ^ jj + val B64 cur) ∧ Hid (val B64 (cur.drop jj) < V)) (fun iv _ => (intOf iv + 1).toNat)
    case atStart =>
     have hl := HL.out
     unfold dl at hl
     refine ⟨nq, List.replicate nq 0, digs B64 M ++ [0], Nat.le_refl _, rfl, by show _ = _; simp, fun x hx => ?_, by show _ = _; simp; omega, fun x hx => ?_, by rw [HC0.out]; exact BlkW.new wc _, HROW.out.below hg4 ((Below.refl _ wc).alloc (Nat.le_refl _) _), HBW4.out.alloc HBW4.out.size _, ?_, ?_⟩
     ·rw [List.eq_of_mem_replicate hx]; unfold B64; omega
     ·rcases List.mem_append.1 hx with h | h
      ·exact digs_lt B64_2 M x h
      ·rw [List.mem_singleton.1 h]; unfold B64; omega
     ·show _ = _
      rw [List.drop_of_length_le (by simp), val_append, val_digs B64_2, val_one]; simp [val]
     ·show _ < _
      rw [List.drop_append_of_le_length (by omega), val_append, val_one, Nat.mul_zero, Nat.add_zero]
      refine Nat.lt_of_lt_of_le (val_lt (b := B64) (by unfold B64; omega) fun x hx => digs_lt B64_2 M x (List.mem_of_mem_drop hx)) ?_
      have hv := HDV.out
      unfold dl at hv
      have := pow_le_digs (b := B64) (n := V) B64_2 (by rintro rfl; rw [digs_zero] at hv; simp at hv)
      rw [hv] at this
      refine Nat.le_trans (Nat.pow_le_pow_right (by unfold B64; omega) ?_) this
      rw [List.length_drop]; omega
    case round =>
     obtain ⟨jj, Q, cur, hjj, rfl, HQL, HQX, HCL, HCX, HQB, HRW, HBWr, HMM, HLTV⟩ := hrel
     by_cases hj0 : jj = 0
     ·subst hj0
      have HVC := HLTV.out
      have HMM' := HMM.out
      rw [List.drop_zero] at HVC
      rw [List.drop_zero, Nat.pow_zero, Nat.mul_one] at HMM'
      have hs0 : 0 < 2 ^ s := Nat.two_pow_pos s
      have hsc := scaled_div (u := m) (y := n) hs0
      rw [← HM.out, ← HV.out] at hsc
      have HQV : Hid (val B64 Q = m / n) := by
       show _ = _
       rw [← hsc.1, HMM', Nat.mul_add_div (by omega), Nat.div_eq_of_lt HVC, Nat.add_zero]
      have HCV : Hid (val B64 cur / 2 ^ s = m % n) := by
       show _ = _
       rw [← hsc.2, HMM', Nat.mul_add_mod, Nat.mod_eq_of_lt HVC]
      have HC1 := h0d (cut_num _ Q wr (HQB.out.rd0 (n := nq) (cap := nq) HQL.out.symm (Nat.le_refl _) (by unfold maxLen; omega)) HQX.out)
      have HC2 := h0d (cut_num _ cur wr (HRW.out.rd HCL.out hg1 HG2.out) HCX.out)
      rw [HQV.out] at HC1
      have hcl : dl (val B64 cur) ≤ 1000000 := by
       have h1 : dl (val B64 cur) ≤ dl M := dl_mono (by omega)
       have := HL.out
       omega
      have HRT := h0d (fun v w' (h : RdN w' v (val B64 cur)) => right_any v _ s w' h hcl (by omega))
      rw [HCV.out] at HRT
      clear HVC HMM' hs0 hsc hcl
      go_wp2_with (first | (go_at_call 232; (first | (with_reducible refine HC1.out.mono ?_; rintro e w2 ⟨⟨v1, rfl, hr1⟩, rfl⟩; have HR1 := h0d hr1; clear hr1) | (with_reducible refine HC2.out.mono ?_; rintro e w2 ⟨⟨v2, rfl, hr2⟩, rfl⟩; have HR2 := h0d hr2; clear hr2))) | (go_at_call 269; refine (HRT.out _ _ HR2.out).mono ?_; rintro e w9 ⟨⟨v9, rfl, hr9⟩, hb9⟩; have HR9 := h0d hr9; have HB9 := h0d hb9; clear hr9 hb9))
      go_ret2
      have hb0 : Below w.heap.size w wr := HBL3.out.trans (HBWr.out.mono HBL3.out.size)
      exact ⟨v1, v9, rfl, HR1.out.below HB9.out, HR9.out, hb0.trans (HB9.out.mono hb0.size)⟩
     ·obtain ⟨j, rfl⟩ : ∃ j, jj = j + 1 := ⟨jj - 1, by omega⟩
      have hj : (((j + 1 : Nat) : Int) - 1) = (j : Int) := by omega
      rw [hj]
      have hgr : g < wr.heap.size := by
       have h0 := HRW.out 0 (cur[0]'(by have := HCL.out; omega)) (List.getElem?_eq_getElem _)
       exact World.block_lt_of_cell? wr ⟨g, 0 + 0, none⟩ h0.1
      have hsl : ((cur.drop j).take (k + 2 + 1)).length = k + 2 + 1 := by rw [List.length_take, List.length_drop]; have := HCL.out; omega
      have hsx : ∀ x ∈ (cur.drop j).take (k + 2 + 1), x < B64 := fun x hx => HCX.out x (List.mem_of_mem_drop (List.mem_of_mem_take hx))
      have hVB : V < B64 ^ (k + 2) := (dl_le_iff V (k + 2)).1 (by rw [HDV.out]; exact Nat.le_refl _)
      have hstep := fun sub' hs hsl' => divide_step (Q := Q) (sub' := sub') (j := j) (k := k + 2) (M := M) (V := V) (d := val B64 ((cur.drop j).take (k + 2 + 1)) / V) (by have := HQL.out; omega) (by have := HCL.out; omega) hVB HMM.out HLTV.out HCX.out rfl hs hsl'
      have hV0 : 0 < V := by have := HLTV.out; omega
      have hltd : val B64 ((cur.drop j).take (k + 2 + 1)) < V * B64 := (hstep (padded B64 (val B64 ((cur.drop j).take (k + 2 + 1)) % V) (k + 2 + 1)) (by
       rw [val_padded B64_2]
       refine Nat.mod_eq_of_lt (Nat.lt_of_lt_of_le (Nat.mod_lt _ hV0) (Nat.le_trans (Nat.le_of_lt hVB) (Nat.pow_le_pow_right (by unfold B64; omega) (by omega)))) ) (padded_length _ _ _)).1
      have hDG := digit_any g j (cap - j) ((cur.drop j).take (k + 2 + 1)) k (.slice Av (k + 2) cvv) V wr (HRW.out.sub j _) hsl hsx hgr (by omega) (by have := HG2.out; omega) (HR3.out.below HBWr.out) HDV.out (by omega) hltd HTV.out
      obtain ⟨dv, hdv⟩ : ∃ d, d = val B64 ((cur.drop j).take (k + 2 + 1)) / V := ⟨_, rfl⟩
      have hdvB : dv < B64 := by rw [hdv, Nat.div_lt_iff_lt_mul hV0, Nat.mul_comm]; exact hltd
      rw [← hdv] at hstep
      have HSTEP := h0d hstep
      have HDG : Hid (Calls Tryz.prog 268 #[.slice (some ⟨g, j, none⟩) (k + 2 + 1) (cap - j), .slice Av (k + 2) cvv] wr fun e w' => e = .returned (.int .u64 (dv : Int)) ∧ Hid (∃ us', us'.length = k + 2 + 1 ∧ (∀ x ∈ us', x < B64) ∧ val B64 us' = val B64 ((cur.drop j).take (k + 2 + 1)) % V ∧ RowW w' g j us' ∧ Turned g j (k + 2 + 1) wr w')) := hDG.mono fun e w' ⟨h1, h2⟩ => ⟨by rw [h1, hdv], h2⟩
      have HDVB := h0d hdvB
      have hjl : (j : Int) ≤ (l : Int) + 1 := by omega
      have hjkl : (j : Int) + ((k : Int) + 2) + 1 ≤ (l : Int) + 1 := by omega
      have hjkc : (j : Int) + ((k : Int) + 2) + 1 ≤ (cap : Int) := by omega
      have hjj2 : (j : Int) ≤ (j : Int) + ((k : Int) + 2) + 1 := by omega
      have hcj : ¬ (cap = j) := by omega
      clear hdv hdvB hltd hDG hstep hV0 hVB hsl hsx hj hj0
      have hlen : j + (k + 2) + 1 - j = k + 2 + 1 := by omega
      have hgne : wc.heap.size ≠ g := by omega
      have HJQ : Hid (j < Q.length) := by have := HQL.out; show _ < _; omega
      go_wp2_with (go_at_call 268; refine HDG.out.mono ?_; rintro e w2 ⟨rfl, HR⟩; obtain ⟨us', hu1, hu2, hu3, hu4, hu5⟩ := HR.out; have HU1 := h0d hu1; have HU2 := h0d hu2; have HU3 := h0d hu3; have HU4 := h0d hu4; have HU5 := h0d hu5; clear hu1 hu2 hu3 hu4 hu5; have HQ2 := h0d (HU5.out.blk HQB.out hgne); have hcg := HQ2.out.cell (i := j) (x := Q.getD j 0) (by rw [List.getD_eq_getElem?_getD, List.getElem?_eq_getElem HJQ.out]; rfl); have hfg := HQ2.out.frozen j)
      go_roundw
      case rel =>
       obtain ⟨_, st2, st3⟩ := HSTEP.out us' HU3.out HU1.out
       have hrow := HRW.out.join HU5.out HU4.out HU1.out (by have := HCL.out; omega)
       refine ⟨j, Q.set j dv, cur.take j ++ (us' ++ cur.drop (j + (k + 2 + 1))), by omega, rfl, by show _ = _; rw [List.length_set]; exact HQL.out, fun z hz => ?_, ?_, fun z hz => ?_, HQ2.out.set_ j dv, fun i x hx => ?_, ?_, st2, st3⟩
       ·rcases List.mem_or_eq_of_mem_set hz with h | h
        ·exact HQX.out z h
        ·rw [h]; exact HDVB.out
       ·show _ = _
        rw [List.length_append, List.length_append, List.length_take, List.length_drop, HU1.out, HCL.out]; omega
       ·rcases List.mem_append.1 hz with h | h
        ·exact HCX.out z (List.mem_of_mem_take h)
        ·rcases List.mem_append.1 h with h | h
         ·exact HU2.out z h
         ·exact HCX.out z (List.mem_of_mem_drop h)
       ·obtain ⟨r1, r2⟩ := hrow i x hx
        exact ⟨by rw [World.cell?_setCell_other w2 ⟨wc.heap.size, j, none⟩ ⟨g, 0 + i, none⟩ _ (by intro e; simp at e; try omega)]; exact r1, by rw [World.frozen?_setCell]; exact r2⟩
       ·exact (HBWr.out.trans (HU5.out.below hg3 HBWr.out.size)).setCell (by show _ ≤ wc.heap.size; exact HBW4.out.size) _
      case measure => simp [intOf]
end Go.Proofs.YtodckaioeomccaaGreat
namespace Go.Proofs.YtodckaioeomccaaGreat
open Go.RowKit
set_option linter.unusedVariables false
set_option linter.unusedSimpArgs false
theorem gcd_step (a b : Nat) : Nat.gcd a b = Nat.gcd b (a % b) := by rw [Nat.gcd_comm a b, Nat.gcd_rec b a, Nat.gcd_comm]
set_option maxRecDepth 100000 in
set_option maxHeartbeats 4000000 in
theorem small_any (va vb : Value) (m n : Nat) (w : World) (hP : RdN w va m) (hQ : RdN w vb n) (hm : dl m ≤ 1) (hn : dl n ≤ 1) (hn0 : n ≠ 0) :
    Calls Tryz.prog 265 #[va, vb] w fun e w' => e = .returned (.int .u64 ((Nat.gcd m n : Nat) : Int)) ∧ Below w.heap.size w w' := by
  obtain ⟨A1, k1, c1, rfl, e1, hk1, _, hm1, hc1⟩ := RdW.open_ hP
  obtain ⟨A2, k2, c2, rfl, e2, hk2, _, hm2, hc2⟩ := RdW.open_ hQ
  have hnB : n < B64 := by have := (dl_le_iff n 1).1 hn; rwa [Nat.pow_one] at this
  have hmB : m < B64 := by have := (dl_le_iff m 1).1 hm; rwa [Nat.pow_one] at this
  rw [digs_small B64_2 hn0 hnB] at e2 hc2
  obtain rfl : k2 = 1 := by simpa using e2.symm
  obtain ⟨b2, f2, y, rfl, hb2, hy, hcy⟩ := hc2 0 (by omega)
  obtain rfl : n = y := by simpa using hy
  obtain ⟨G, hG⟩ : ∃ G, G = Nat.gcd m n := ⟨_, rfl⟩
  rw [← hG]
  have HG := h0d hG
  have HNB := h0d hnB
  have HMB := h0d hmB
  rw [Nat.add_zero] at hcy
  have fin : Hid (∀ x y : Nat, y < x → True) := fun _ _ _ => trivial
  by_cases hm0 : m = 0
  · rw [hm0, digs_zero] at e1
    obtain rfl : k1 = 0 := by simpa using e1.symm
    have HM0 := h0d hm0
    clear hP hQ hm hn e1 hc1 e2 hc2 hy hG hm0 hnB hmB hn0
    go_enter Tryz.func265, Tryz.ntmps265
    go_wp2_with fail
    go_loopw [5, 6] (fun xv yv wr => ∃ x y : Nat, xv = .int .u64 (x : Int) ∧ yv = .int .u64 (y : Int) ∧ Hid (Nat.gcd x y = G) ∧ Hid (x < B64) ∧ Hid (y < B64) ∧ Hid (Below w.heap.size w wr)) (fun _ yv _ => (intOf yv).toNat)
    case atStart => exact ⟨0, n, rfl, rfl, by show _ = _; rw [HG.out, HM0.out], by show _ < _; unfold B64; omega, HNB.out, Below.refl _ _⟩
    case round =>
      obtain ⟨x, y, rfl, rfl, HGC, HX, HY, HBEL⟩ := hrel
      by_cases hy0 : y = 0
      · have HXG : Hid (x = G) := by show _ = _; rw [← HGC.out, hy0, Nat.gcd_zero_right]
        subst hy0
        go_wp2_with fail
        go_ret
        exact ⟨by rw [← HXG.out]; rfl, HBEL.out⟩
      · have hyp : (0 : Int) < (y : Int) := by omega
        have hyz : ((y : Int)) ≠ 0 := by omega
        have hyb : ((y : Int) == 0) = false := by simp; omega
        obtain ⟨r, hr⟩ : ∃ r, r = x % y := ⟨_, rfl⟩
        have hdr : ((x : Int).tmod (y : Int)) = (r : Int) := by rw [Int.tmod_eq_emod_of_nonneg (by omega), ← Int.natCast_emod, ← hr]
        have hdr2 : ((x : Int) % (y : Int)) = (r : Int) := by rw [← Int.natCast_emod, ← hr]
        have HGR : Hid (Nat.gcd y r = G) := by show _ = _; rw [hr, ← gcd_step]; exact HGC.out
        have HRY : Hid (r < y) := by show _ < _; rw [hr]; exact Nat.mod_lt _ (by omega)
        clear hr
        go_wp2_with fail
        refine seq_start (S := fun _ => True) (by kernel_rfl) (by kernel_rfl) trivial ?_
        repeat (first | refine tk0 (h := ?_) | refine tkG (h := ?_) | refine skG (h := ?_))
        refine seq_done (by kernel_rfl) ?_
        go_wp2_with fail
        go_roundw
        case rel => exact ⟨y, r, rfl, rfl, HGR.out, HY.out, by have := HRY.out; have := HY.out; show _ < _; omega, HBEL.out.drew⟩
        case measure => have := HRY.out; simp [intOf]; omega
  · rw [digs_small B64_2 hm0 hmB] at e1 hc1
    obtain rfl : k1 = 1 := by simpa using e1.symm
    obtain ⟨b1, f1, x, rfl, hb1, hx, hcx⟩ := hc1 0 (by omega)
    obtain rfl : m = x := by simpa using hx
    rw [Nat.add_zero] at hcx
    clear hP hQ hm hn e1 hc1 e2 hc2 hy hG hm0 hnB hmB hn0 hx
    go_enter Tryz.func265, Tryz.ntmps265
    go_wp2_with fail
    go_loopw [5, 6] (fun xv yv wr => ∃ x y : Nat, xv = .int .u64 (x : Int) ∧ yv = .int .u64 (y : Int) ∧ Hid (Nat.gcd x y = G) ∧ Hid (x < B64) ∧ Hid (y < B64) ∧ Hid (Below w.heap.size w wr)) (fun _ yv _ => (intOf yv).toNat)
    case atStart => exact ⟨m, n, rfl, rfl, HG.out.symm, HMB.out, HNB.out, Below.refl _ _⟩
    case round =>
      obtain ⟨x, y, rfl, rfl, HGC, HX, HY, HBEL⟩ := hrel
      by_cases hy0 : y = 0
      · have HXG : Hid (x = G) := by show _ = _; rw [← HGC.out, hy0, Nat.gcd_zero_right]
        subst hy0
        go_wp2_with fail
        go_ret
        exact ⟨by rw [← HXG.out]; rfl, HBEL.out⟩
      · have hyp : (0 : Int) < (y : Int) := by omega
        have hyz : ((y : Int)) ≠ 0 := by omega
        have hyb : ((y : Int) == 0) = false := by simp; omega
        obtain ⟨r, hr⟩ : ∃ r, r = x % y := ⟨_, rfl⟩
        have hdr : ((x : Int).tmod (y : Int)) = (r : Int) := by rw [Int.tmod_eq_emod_of_nonneg (by omega), ← Int.natCast_emod, ← hr]
        have hdr2 : ((x : Int) % (y : Int)) = (r : Int) := by rw [← Int.natCast_emod, ← hr]
        have HGR : Hid (Nat.gcd y r = G) := by show _ = _; rw [hr, ← gcd_step]; exact HGC.out
        have HRY : Hid (r < y) := by show _ < _; rw [hr]; exact Nat.mod_lt _ (by omega)
        clear hr
        go_wp2_with fail
        refine seq_start (S := fun _ => True) (by kernel_rfl) (by kernel_rfl) trivial ?_
        repeat (first | refine tk0 (h := ?_) | refine tkG (h := ?_) | refine skG (h := ?_))
        refine seq_done (by kernel_rfl) ?_
        go_wp2_with fail
        go_roundw
        case rel => exact ⟨y, r, rfl, rfl, HGR.out, HY.out, by have := HRY.out; have := HY.out; show _ < _; omega, HBEL.out.drew⟩
        case measure => have := HRY.out; simp [intOf]; omega
set_option maxRecDepth 100000 in
set_option maxHeartbeats 4000000 in
theorem gcd_any (va vb : Value) (m n : Nat) (w : World) (hP : RdN w va m) (hQ : RdN w vb n) (hm6 : dl m ≤ 900000) (hn6 : dl n ≤ 900000) :
    Calls Tryz.prog 225 #[va, vb] w fun e w' => (∃ v', e = .returned v' ∧ RdN w' v' (Nat.gcd m n)) ∧ Below w.heap.size w w' := by
  obtain ⟨G, hG⟩ : ∃ G, G = Nat.gcd m n := ⟨_, rfl⟩
  rw [← hG]
  have HG := h0d hG
  have HP := h0d hP
  have HQ := h0d hQ
  have HM6 := h0d hm6
  have HN6 := h0d hn6
  clear hG hP hQ hm6 hn6
  go_enter Tryz.func225, Tryz.ntmps225
  go_wp2_with fail
  go_loopg [0, 1] n (fun b va vb wr => ∃ a : Nat, Hid (RdN wr va a) ∧ Hid (RdN wr vb b) ∧ Hid (Nat.gcd a b = G) ∧ Hid (dl a ≤ 900000) ∧ Hid (dl b ≤ 900000) ∧ Hid (Below w.heap.size w wr))
  case atStart => exact ⟨m, HP.out, HQ.out, HG.out.symm, HM6.out, HN6.out, Below.refl _ _⟩
  case round =>
    obtain ⟨a, HA, HBn, HGC, HA6, HB6, HBEL⟩ := hrel
    obtain ⟨A1, k1, c1, rfl, e1, hk1, _, hm1, _⟩ := RdW.open_ HA.out
    obtain ⟨A2, k2, c2, rfl, e2, hk2, _, hm2, _⟩ := RdW.open_ HBn.out
    by_cases hb0 : gk = 0
    · have HAG : Hid (a = G) := by show _ = _; rw [← HGC.out, hb0, Nat.gcd_zero_right]
      rw [hb0, digs_zero] at e2
      obtain rfl : k2 = 0 := by simpa using e2.symm
      clear e1 e2 hb0
      go_wp2_with fail
      go_ret
      exact ⟨⟨_, rfl, by rw [← HAG.out]; exact HA.out⟩, HBEL.out⟩
    · have hk2p : 0 < k2 := by have := dl_pos hb0; unfold dl at this; omega
      have HG1 : Hid (Nat.gcd gk (a % gk) = G) := by show _ = _; rw [← gcd_step]; exact HGC.out
      have HB0 := h0d hb0
      have hk1a : dl a = k1 := e1
      have hk2a : dl gk = k2 := e2
      have HK1 := h0d hk1a
      have HK2 := h0d hk2a
      have HDIV := h0d (divide_any _ _ a gk wr HA.out HBn.out hb0 HA6.out HB6.out)
      by_cases h11 : k1 ≤ 1 ∧ k2 ≤ 1
      · have HSM := h0d (small_any _ _ a gk wr HA.out HBn.out (by omega) (by omega) hb0)
        have HGB : Hid (Nat.gcd a gk < B64) := by
          show _ < _
          have h1 := (dl_le_iff gk 1).1 (by omega)
          rw [Nat.pow_one] at h1
          exact Nat.lt_of_le_of_lt (Nat.gcd_le_right a (by omega)) h1
        have HW := h0d (fun w' => word_any (Nat.gcd a gk) w' HGB.out)
        rw [HGC.out] at HSM HW
        obtain ⟨h1, h2⟩ := h11
        clear e1 e2 hb0 hk1a hk2a
        go_wp2_with (first | (go_at_call 265; refine HSM.out.mono ?_; rintro e w2 ⟨rfl, hb2⟩; have HB2 := h0d hb2; clear hb2) | (go_at_call 209; refine (HW.out _).mono ?_; rintro e w3 ⟨⟨v3, rfl, hr3⟩, hb3⟩; have HR3 := h0d hr3; have HB3 := h0d hb3; clear hr3 hb3))
        go_ret
        exact ⟨⟨_, rfl, HR3.out⟩, HBEL.out.trans ((HB2.out.mono HBEL.out.size).trans (HB3.out.mono (Nat.le_trans HBEL.out.size HB2.out.size)))⟩
      · have hnext : ∀ e w', DivPost wr a gk e w' → Hid (∃ v1 v2, e = .returned (.tuple #[v1, v2]) ∧ RdN w' v2 (a % gk) ∧ Below wr.heap.size wr w') := fun e w' ⟨v1, v2, h1, _, h3, h4⟩ => ⟨v1, v2, h1, h3, h4⟩
        have HNX := h0d hnext
        have HM6 : Hid (dl (a % gk) ≤ 900000) := by
          show _ ≤ _
          have := dl_mono (Nat.le_of_lt (Nat.mod_lt a (Nat.pos_of_ne_zero hb0)))
          have := HB6.out
          omega
        have HML : Hid (a % gk < gk) := Nat.mod_lt a (Nat.pos_of_ne_zero hb0)
        clear e1 e2 hb0 hk1a hk2a hnext
        by_cases h1 : k1 ≤ 1
        all_goals
          have h1b := h1
          have h2b : k1 ≤ 1 → ¬ k2 ≤ 1 := fun h h' => h11 ⟨h, h'⟩
          clear h11
          first
            | (have h2c : ¬ k2 ≤ 1 := h2b h1
               clear h2b)
            | clear h2b
          go_wp2_with (go_at_call 227; refine HDIV.out.mono ?_; intro e w2 hd; have hd2 := HNX.out _ _ hd; clear hd; obtain ⟨v1, v2, rfl, hd3, hd4⟩ := hd2.out; have HD3 := h0d hd3; have HD4 := h0d hd4; clear hd2 hd3 hd4)
          go_roundg (a % gk)
          case measure => exact HML.out
          case rel => exact ⟨gk, HBn.out.below HD4.out, HD3.out, HG1.out, HB6.out, HM6.out, HBEL.out.trans (HD4.out.mono HBEL.out.size)⟩
end Go.Proofs.YtodckaioeomccaaGreat
namespace Go.Proofs.YtodckaioeomccaaGreat
open Go.RowKit
set_option linter.unusedVariables false
set_option linter.unusedSimpArgs false
theorem RdN.slice {w : World} {v : Value} {n : Nat} (h : RdN w v n) : ∃ A k c, v = .slice A k c := let ⟨A, c, h1, _⟩ := h; ⟨A, _, c, h1⟩
theorem res2 {W w' : World} {b t : Nat} {c0 c1 : Value} (h : W.heap[b]? = some (.cells #[c0, c1] t (0, 0))) (hb : Below W.heap.size W w') :
  w'.cell? ⟨b, 0, none⟩ = some c0 ∧ w'.cell? ⟨b, 1, none⟩ = some c1 ∧ w'.frozen? ⟨b, 0, none⟩ = false ∧ w'.frozen? ⟨b, 1, none⟩ = false := by
 have h' := (hb.block b (Array.getElem?_eq_some_iff.1 h).1).trans h
 exact ⟨cell_of_row w' b 0 _ t (0, 0) h', cell_of_row w' b 1 _ t (0, 0) h', frozen_of_row w' b 0 _ t h', frozen_of_row w' b 1 _ t h'⟩
theorem res3 {W w' : World} {b t : Nat} {c0 c1 c2 : Value} (h : W.heap[b]? = some (.cells #[c0, c1, c2] t (0, 0))) (hb : Below W.heap.size W w') :
  w'.cell? ⟨b, 0, none⟩ = some c0 ∧ w'.cell? ⟨b, 1, none⟩ = some c1 ∧ w'.cell? ⟨b, 2, none⟩ = some c2 ∧ w'.frozen? ⟨b, 0, none⟩ = false ∧ w'.frozen? ⟨b, 1, none⟩ = false ∧ w'.frozen? ⟨b, 2, none⟩ = false := by
 have h' := (hb.block b (Array.getElem?_eq_some_iff.1 h).1).trans h
 exact ⟨cell_of_row w' b 0 _ t (0, 0) h', cell_of_row w' b 1 _ t (0, 0) h', cell_of_row w' b 2 _ t (0, 0) h', frozen_of_row w' b 0 _ t h', frozen_of_row w' b 1 _ t h', frozen_of_row w' b 2 _ t h'⟩
theorem Rd.set_ {α : Type} {f : α → Value} {w : World} {S : Nat → Prop} {v : Value} {xs : List α} (h : Rd f w S v xs) {p : Addr} {c : Value} (hc : w.cell? p = some c) (hne : ∀ x, c ≠ f x) (u : Value) : Rd f (w.setCell p u) S v xs := by
 obtain ⟨A, cap, rfl, h1, h2, h3⟩ := h
 refine ⟨A, cap, rfl, h1, h2, fun hn => ?_⟩
 obtain ⟨b, off, rfl, hb, hcell⟩ := h3 hn
 refine ⟨b, off, rfl, hb, fun i hi => ?_⟩
 rw [World.cell?_setCell_other w p ⟨b, off + i, none⟩ u (fun e => by
  have h4 := hcell i hi
  rw [← e, hc] at h4
  exact hne _ (Option.some.inj h4))]
 exact hcell i hi
theorem Rd.set2 {α : Type} {f : α → Value} {w : World} {S : Nat → Prop} {v : Value} {xs : List α} (h : Rd f w S v xs) {b : Nat} {c0 c1 : Value} (h0 : w.cell? ⟨b, 0, none⟩ = some c0) (h1 : w.cell? ⟨b, 1, none⟩ = some c1) (n0 : ∀ x, c0 ≠ f x) (n1 : ∀ x, c1 ≠ f x) (u0 u1 : Value) :
  Rd f ((w.setCell ⟨b, 0, none⟩ u0).setCell ⟨b, 1, none⟩ u1) S v xs :=
 (h.set_ h0 n0 u0).set_ (c := c1) (by rw [World.cell?_setCell_other w ⟨b, 0, none⟩ ⟨b, 1, none⟩ u0 (by intro e; simp at e)]; exact h1) n1 u1
theorem Rd.set3 {α : Type} {f : α → Value} {w : World} {S : Nat → Prop} {v : Value} {xs : List α} (h : Rd f w S v xs) {b : Nat} {c0 c1 c2 : Value} (h0 : w.cell? ⟨b, 0, none⟩ = some c0) (h1 : w.cell? ⟨b, 1, none⟩ = some c1) (h2 : w.cell? ⟨b, 2, none⟩ = some c2) (n0 : ∀ x, c0 ≠ f x) (n1 : ∀ x, c1 ≠ f x) (n2 : ∀ x, c2 ≠ f x) (u0 u1 u2 : Value) :
  Rd f (((w.setCell ⟨b, 0, none⟩ u0).setCell ⟨b, 1, none⟩ u1).setCell ⟨b, 2, none⟩ u2) S v xs :=
 (h.set2 h0 h1 n0 n1 u0 u1).set_ (c := c2) (by
  rw [World.cell?_setCell_other (w.setCell ⟨b, 0, none⟩ u0) ⟨b, 1, none⟩ ⟨b, 2, none⟩ u1 (by intro e; simp at e), World.cell?_setCell_other w ⟨b, 0, none⟩ ⟨b, 2, none⟩ u0 (by intro e; simp at e)]; exact h2) n2 u2
theorem nwB (b : Bool) (k : Nat) : Value.bool b ≠ u64V k := by simp [u64V]
theorem nwS (A : Option Addr) (n c : Nat) (k : Nat) : Value.slice A n c ≠ u64V k := by simp [u64V]
theorem RdN.set2 {w : World} {v : Value} {n : Nat} (h : RdN w v n) {b : Nat} {c0 : Bool} {A : Option Addr} {m c : Nat} (h0 : w.cell? ⟨b, 0, none⟩ = some (.bool c0)) (h1 : w.cell? ⟨b, 1, none⟩ = some (.slice A m c)) (u0 u1 : Value) :
  RdN ((w.setCell ⟨b, 0, none⟩ u0).setCell ⟨b, 1, none⟩ u1) v n := Rd.set2 h h0 h1 (nwB _) (nwS _ _ _) u0 u1
theorem RdN.set3 {w : World} {v : Value} {n : Nat} (h : RdN w v n) {b : Nat} {c0 : Bool} {A A' : Option Addr} {m c m' c' : Nat} (h0 : w.cell? ⟨b, 0, none⟩ = some (.bool c0)) (h1 : w.cell? ⟨b, 1, none⟩ = some (.slice A m c)) (h2 : w.cell? ⟨b, 2, none⟩ = some (.slice A' m' c')) (u0 u1 u2 : Value) :
  RdN (((w.setCell ⟨b, 0, none⟩ u0).setCell ⟨b, 1, none⟩ u1).setCell ⟨b, 2, none⟩ u2) v n := Rd.set3 h h0 h1 h2 (nwB _) (nwS _ _ _) (nwS _ _ _) u0 u1 u2
theorem resL {W w' : World} {b t : Nat} {cs : Array Value} (h : W.heap[b]? = some (.cells cs t (0, 0))) (hb : Below W.heap.size W w') : ∀ i, w'.cell? ⟨b, i, none⟩ = cs[i]? ∧ w'.frozen? ⟨b, i, none⟩ = false := by
 have h' := (hb.block b (Array.getElem?_eq_some_iff.1 h).1).trans h
 exact fun i => ⟨cell_of_row w' b i _ t (0, 0) h', frozen_of_row w' b i _ t h'⟩
def RdZ (w : World) (v : Value) (z : Int) : Prop := ∃ a, v = .agg #[.bool (decide (z < 0)), a] ∧ RdN w a z.natAbs
theorem RdZ.below {w w' : World} {v : Value} {z : Int} (h : RdZ w v z) (hb : Below w.heap.size w w') : RdZ w' v z := let ⟨a, h1, h2⟩ := h; ⟨a, h1, h2.below hb⟩
def signed (neg : Bool) (n : Nat) : Int := if neg then -(n : Int) else n
theorem signed_abs (neg : Bool) (n : Nat) : (signed neg n).natAbs = n := by unfold signed; split <;> simp
theorem signed_neg (neg : Bool) (n : Nat) : decide (signed neg n < 0) = (neg && decide (0 < n)) := by
 unfold signed; cases neg <;> simp <;> omega
theorem under_none (v : Value) (w : World) (h : RdN w v 0) : Calls Tryz.prog 162 #[v] w fun e w' => (∃ v', e = .returned v' ∧ RdN w' v' 1) ∧ Below w.heap.size w w' := by
 have HW := h0d (word_any 1 w (by unfold B64; omega))
 obtain ⟨A, k, c, rfl, e1, hk, _, hm, _⟩ := RdW.open_ h
 rw [digs_zero] at e1
 obtain rfl : k = 0 := by simpa using e1.symm
 clear e1 h
 go_enter Tryz.func162, Tryz.ntmps162
 go_wp2_with (go_at_call 209; refine HW.out.mono ?_; rintro e w3 ⟨⟨v3, rfl, hr3⟩, hb3⟩; have HR3 := h0d hr3; have HB3 := h0d hb3; clear hr3 hb3)
 go_ret
 exact ⟨⟨_, rfl, HR3.out⟩, HB3.out⟩
theorem under_many (v : Value) (n : Nat) (w : World) (h : RdN w v n) (hn : n ≠ 0) : Calls Tryz.prog 162 #[v] w fun e w' => e = .returned v ∧ w = w' := by
 obtain ⟨A, k, c, rfl, e1, hk, _, hm, _⟩ := RdW.open_ h
 have hkp : 0 < k := by have := dl_pos hn; unfold dl at this; omega
 have hkb : ((k : Int) == 0) = false := by simp; omega
 clear e1
 go_enter Tryz.func162, Tryz.ntmps162
 go_wp2_with fail
 go_ret
 exact ⟨rfl, rfl⟩
def den1 (d : Nat) : Nat := if d = 1 then 0 else d
theorem under_any (v : Value) (d : Nat) (w : World) (hd : d ≠ 0) (h : RdN w v (den1 d)) : Calls Tryz.prog 162 #[v] w fun e w' => (∃ v', e = .returned v' ∧ RdN w' v' d) ∧ Below w.heap.size w w' := by
 unfold den1 at h
 by_cases h1 : d = 1
 ·rw [if_pos h1] at h
  rw [h1]
  exact under_none v w h
 ·rw [if_neg h1] at h
  exact (under_many v d w h hd).mono fun e w' ⟨he, hw⟩ => ⟨⟨v, he, hw ▸ h⟩, hw ▸ Below.refl _ _⟩
set_option maxHeartbeats 1000000 in
theorem whole_any (neg : Bool) (v : Value) (n : Nat) (w : World) (h : RdN w v n) : Calls Tryz.prog 199 #[.bool neg, v] w fun e w' => (∃ v', e = .returned v' ∧ RdZ w' v' (signed neg n)) ∧ Below w.heap.size w w' := by
 have H := h0d h
 obtain ⟨A, k, c, rfl, e1, hk, _, hm, _⟩ := RdW.open_ h
 have HZ : Hid ((neg && decide (0 < k)) = decide (signed neg n < 0)) := by
  show _ = _
  rw [signed_neg]
  congr 1
  rw [Bool.eq_iff_iff, decide_eq_true_iff, decide_eq_true_iff]
  have h1 : dl n = k := e1
  constructor
  ·intro h2
   rcases Nat.eq_zero_or_pos n with h0 | h0
   ·rw [h0, dl_zero] at h1; omega
   ·exact h0
  ·intro h2; have := dl_pos (show n ≠ 0 by omega); omega
 have HA := h0d (signed_abs neg n)
 clear h e1
 cases neg
 ·go_enter Tryz.func199, Tryz.ntmps199
  go_wp2_with fail
  exact bodyPost_ret (v := .agg #[.bool false, .slice A k c]) (by simp [results, Tryz.results199, go_sem]) rfl ⟨⟨_, rfl, _, by rw [← HZ.out]; rfl, by rw [HA.out]; exact H.out.below ((Below.refl _ w).alloc (Nat.le_refl _) _)⟩, (Below.refl _ w).alloc (Nat.le_refl _) _⟩
 ·go_enter Tryz.func199, Tryz.ntmps199
  go_wp2_with fail
  exact bodyPost_ret (v := .agg #[.bool (decide (0 < k)), .slice A k c]) (by simp [results, Tryz.results199, go_sem]) rfl ⟨⟨_, rfl, _, by rw [← HZ.out]; rfl, by rw [HA.out]; exact H.out.below ((Below.refl _ w).alloc (Nat.le_refl _) _)⟩, (Below.refl _ w).alloc (Nat.le_refl _) _⟩
set_option maxHeartbeats 1000000 in
theorem of_any (n : Int) (w : World) (h1 : -9223372036854775808 ≤ n) (h2 : n ≤ 9223372036854775807) : Calls Tryz.prog 136 #[.int .i64 n] w fun e w' => (∃ v', e = .returned v' ∧ RdZ w' v' n) ∧ Below w.heap.size w w' := by
 obtain ⟨k, hk⟩ : ∃ k : Nat, k = n.natAbs := ⟨_, rfl⟩
 have hkB : k < B64 := by unfold B64; omega
 have HK := h0d hk
 have HW := h0d (fun w' => word_any k w' hkB)
 by_cases h0 : n < 0
 ·have hd : decide (n < 0) = true := decide_eq_true h0
  have hc1 : IntKind.u64.wrap (-(IntKind.u64.wrap n)) = (k : Int) := by rw [IntKind.wrap_u64, IntKind.wrap_u64]; omega
  obtain ⟨m, hm⟩ : ∃ m : Nat, m = 18446744073709551616 - k := ⟨_, rfl⟩
  have hc2 : IntKind.u64.wrap n = (m : Int) := by rw [IntKind.wrap_u64]; unfold B64 at hkB; omega
  rw [hc2] at hc1
  have hN : Hid (decide (n < 0) = true) := hd
  have HRS : Hid (∀ w', Below (w.alloc (.cells #[.bool false, .slice none 0 0] 27)).heap.size (w.alloc (.cells #[.bool false, .slice none 0 0] 27)) w' → _) := fun w' h => res2 (heap_alloc_new w _) h
  clear hk hkB hm
  go_enter Tryz.func136, Tryz.ntmps136
  go_wp2_with (go_at_call 209; refine (HW.out _).mono ?_; rintro e w3 ⟨⟨v3, rfl, hr3⟩, hb3⟩; obtain ⟨A3, n3, c3, rfl⟩ := hr3.slice; have HR3 := h0d hr3; have HB3 := h0d hb3; obtain ⟨q0, q1, q2, q3⟩ := HRS.out _ hb3; clear hr3 hb3)
  have hbw : Below w.heap.size w w3 := ((Below.refl _ w).alloc (Nat.le_refl _) _).trans (HB3.out.mono (by simp))
  exact bodyPost_ret (v := .agg #[.bool true, .slice A3 n3 c3]) (by simp [results, Tryz.results136, go_sem, q0, q1]) rfl ⟨⟨_, rfl, _, by rw [hN.out], by rw [← HK.out]; exact HR3.out.set2 q0 q1 _ _⟩, (hbw.setCell (Nat.le_refl _) _).setCell (Nat.le_refl _) _⟩
 ·have hd : decide (n < 0) = false := decide_eq_false h0
  have hc2 : IntKind.u64.wrap n = (k : Int) := by rw [IntKind.wrap_u64]; unfold B64 at hkB; omega
  have hN : Hid (decide (n < 0) = false) := hd
  have HRS : Hid (∀ w', Below (w.alloc (.cells #[.bool false, .slice none 0 0] 27)).heap.size (w.alloc (.cells #[.bool false, .slice none 0 0] 27)) w' → _) := fun w' h => res2 (heap_alloc_new w _) h
  clear hk hkB
  go_enter Tryz.func136, Tryz.ntmps136
  go_wp2_with (go_at_call 209; refine (HW.out _).mono ?_; rintro e w3 ⟨⟨v3, rfl, hr3⟩, hb3⟩; obtain ⟨A3, n3, c3, rfl⟩ := hr3.slice; have HR3 := h0d hr3; have HB3 := h0d hb3; obtain ⟨q0, q1, q2, q3⟩ := HRS.out _ hb3; clear hr3 hb3)
  have hbw : Below w.heap.size w w3 := ((Below.refl _ w).alloc (Nat.le_refl _) _).trans (HB3.out.mono (by simp))
  exact bodyPost_ret (v := .agg #[.bool false, .slice A3 n3 c3]) (by simp [results, Tryz.results136, go_sem, q0, q1]) rfl ⟨⟨_, rfl, _, by rw [hN.out], by rw [← HK.out]; exact HR3.out.set2 q0 q1 _ _⟩, (hbw.setCell (Nat.le_refl _) _).setCell (Nat.le_refl _) _⟩
theorem signed_decide (z : Int) (n : Nat) : signed (decide (z < 0)) (z.natAbs * n) = z * n := by
 unfold signed
 by_cases h : z < 0
 ·rw [if_pos (by simpa using h), Int.natCast_mul, ← Int.neg_mul]
  congr 1; omega
 ·rw [if_neg (by simpa using h), Int.natCast_mul]
  congr 1; omega
set_option maxRecDepth 100000 in
set_option maxHeartbeats 1000000 in
theorem scaled_any (v vn : Value) (z : Int) (n : Nat) (w : World) (hv : RdZ w v z) (hn : RdN w vn n) (hz6 : dl z.natAbs ≤ 900000) (hn6 : dl n ≤ 900000) :
  Calls Tryz.prog 164 #[v, vn] w fun e w' => (∃ v', e = .returned v' ∧ RdZ w' v' (z * n)) ∧ Below w.heap.size w w' := by
 obtain ⟨a, rfl, ha⟩ := hv
 obtain ⟨Aa, ka, ca, rfl⟩ := ha.slice
 obtain ⟨ng, hng⟩ : ∃ b, b = decide (z < 0) := ⟨_, rfl⟩
 rw [← hng]
 have HSG : Hid (signed ng (z.natAbs * n) = z * n) := by show _ = _; rw [hng]; exact signed_decide z n
 have HTI := h0d (fun w' (hb : Below w.heap.size w w') => times_any _ vn z.natAbs n w' (ha.below hb) (hn.below hb) (by omega) (by omega))
 clear ha hn hng
 obtain ⟨W2, hW2⟩ : ∃ W2, W2 = ((w.alloc (Obj.cells #[Value.bool ng, Value.slice Aa ka ca] 27)).alloc (Obj.cells #[Value.bool false, Value.slice none 0 0] 27)) := ⟨_, rfl⟩
 have hb2w : Below w.heap.size w W2 := by rw [hW2]; exact ((Below.refl _ w).alloc (by simp <;> omega) _).alloc (by simp <;> omega) _
 have hsz2 : w.heap.size + 2 ≤ W2.heap.size := by rw [hW2]; simp
 have HARG0 : Hid (∀ w', Below W2.heap.size W2 w' → _) := fun w' h => resL (cs := #[Value.bool ng, Value.slice Aa ka ca]) (b := w.heap.size) (t := 27) (by rw [hW2, Below.heap_alloc _ _ _ (by simp <;> omega)]; have hx := heap_alloc_new w (.cells #[Value.bool ng, Value.slice Aa ka ca] 27); simpa using hx) h
 have HRES0 : Hid (∀ w', Below W2.heap.size W2 w' → _) := fun w' h => resL (cs := #[Value.bool false, Value.slice none 0 0]) (b := w.heap.size + 1) (t := 27) (by rw [hW2]; have hx := heap_alloc_new (w.alloc (Obj.cells #[Value.bool ng, Value.slice Aa ka ca] 27)) (.cells #[Value.bool false, Value.slice none 0 0] 27); simpa using hx) h
 have HB2W := h0d hb2w
 have HSZ2 := h0d hsz2
 have HW2 := h0d hW2
 have HBs : Hid (Below W2.heap.size W2 W2) := Below.refl _ _
 clear hW2 hb2w hsz2
 go_enter Tryz.func164, Tryz.ntmps164
 go_wp2_with fail
 rw [← HW2.out]
 have HBD1 : Hid (Below W2.heap.size W2 W2.drew) := HBs.out.drew
 have dd0 := HARG0.out _ HBD1.out
 refine seq_start (S := fun w' => w'.cell? ⟨w.heap.size, 0, none⟩ = some (Value.bool ng) ∧ w'.cell? ⟨w.heap.size, 1, none⟩ = some (Value.slice Aa ka ca)) (by kernel_rfl) (by kernel_rfl) (by exact ⟨(dd0 0).1, (dd0 1).1⟩) ?_
 clear dd0
 repeat (first | refine tk0 (h := ?_) | refine tkG (h := ?_) | refine skG (h := ?_))
 refine seq_op (by kernel_rfl) (by rfl) (fun K hK => ?_)
 go_simp
 refine (HTI.out _ (HB2W.out.trans (HBD1.out.mono HB2W.out.size))).mono ?_
 rintro e w3 ⟨⟨v3, rfl, hr3⟩, hbx⟩
 obtain ⟨A3, n3, c3, rfl⟩ := hr3.slice
 have HR3 := h0d hr3
 have HB_w3 : Hid (Below W2.heap.size W2 w3) := HBD1.out.trans (hbx.mono HBD1.out.size)
 have dd0 := HARG0.out _ HB_w3.out
 refine hK.out _ _ (by exact ⟨(dd0 0).1, (dd0 1).1⟩) ?_
 clear hK K dd0 hbx hr3
 repeat (first | refine tk0 (h := ?_) | refine tkG (h := ?_) | refine skG (h := ?_))
 refine seq_op (by kernel_rfl) (by rfl) (fun K hK => ?_)
 go_simp
 refine (whole_any _ _ _ _ HR3.out).mono ?_
 rintro e w4 ⟨⟨v4, rfl, hz4⟩, hbx⟩
 rw [HSG.out] at hz4
 obtain ⟨a4, rfl, hr4⟩ := hz4
 obtain ⟨A4, n4, c4, rfl⟩ := hr4.slice
 have HR4 := h0d hr4
 have HB_w4 : Hid (Below W2.heap.size W2 w4) := HB_w3.out.trans (hbx.mono HB_w3.out.size)
 have dd0 := HARG0.out _ HB_w4.out
 refine hK.out _ _ (by exact ⟨(dd0 0).1, (dd0 1).1⟩) ?_
 clear hK K dd0 hbx hr4
 repeat (first | refine tk0 (h := ?_) | refine tkG (h := ?_) | refine skG (h := ?_))
 refine seq_op (by kernel_rfl) (by rfl) (fun K hK => ?_)
 have qq := HRES0.out _ HB_w4.out
 have q0 := (qq 0).1
 have q1 := (qq 1).1
 have qf0 := (qq 0).2
 have qf1 := (qq 1).2
 simp only [List.getElem?_toArray, List.getElem?_cons_zero, List.getElem?_cons_succ] at q0 q1
 clear qq
 go_simp
 have dd0 := HARG0.out _ HB_w4.out
 refine hK.out _ _ (by go_simp; (first | done | exact ⟨(dd0 0).1, (dd0 1).1⟩)) ?_
 clear hK K dd0
 repeat (first | refine tk0 (h := ?_) | refine tkG (h := ?_) | refine skG (h := ?_))
 refine seq_done (by kernel_rfl) ?_
 go_wp2_with fail
 have hbw := HB2W.out.trans (HB_w4.out.mono HB2W.out.size)
 exact bodyPost_ret (v := .agg #[.bool (decide (z * n < 0)), .slice A4 n4 c4]) (by simp [results, Tryz.results164, go_sem, q0, q1]) rfl ⟨⟨_, rfl, _, rfl, HR4.out.set2 q0 q1 _ _⟩, (hbw.setCell (by simp <;> omega) _).setCell (by simp <;> omega) _⟩
theorem signed_sum {z y : Int} (h : decide (z < 0) = decide (y < 0)) : signed (decide (z < 0)) (z.natAbs + y.natAbs) = z + y := by
 unfold signed
 by_cases h1 : z < 0
 ·have h2 : y < 0 := by simpa [h1] using h
  rw [if_pos (by simpa using h1)]; omega
 ·have h2 : ¬ y < 0 := by simpa [h1] using h
  rw [if_neg (by simpa using h1)]; omega
theorem signed_diff {z y : Int} (h : decide (z < 0) ≠ decide (y < 0)) (hle : y.natAbs ≤ z.natAbs) : signed (decide (z < 0)) (z.natAbs - y.natAbs) = z + y := by
 unfold signed
 by_cases h1 : z < 0
 ·have h2 : ¬ y < 0 := by simpa [h1] using h
  rw [if_pos (by simpa using h1)]; omega
 ·have h2 : y < 0 := by simpa [h1] using h
  rw [if_neg (by simpa using h1)]; omega
set_option maxRecDepth 100000 in
set_option maxHeartbeats 4000000 in
theorem iplus_any (v u : Value) (z y : Int) (w : World) (hv : RdZ w v z) (hu : RdZ w u y) (hz6 : dl z.natAbs ≤ 900000) (hy6 : dl y.natAbs ≤ 900000) :
  Calls Tryz.prog 165 #[v, u] w fun e w' => (∃ v', e = .returned v' ∧ RdZ w' v' (z + y)) ∧ Below w.heap.size w w' := by
 obtain ⟨a, rfl, ha⟩ := hv
 obtain ⟨b, rfl, hb⟩ := hu
 obtain ⟨Aa, ka, ca, rfl⟩ := ha.slice
 obtain ⟨Ab, kb, cb, rfl⟩ := hb.slice
 obtain ⟨ng, hng⟩ : ∃ b, b = decide (z < 0) := ⟨_, rfl⟩
 obtain ⟨nh, hnh⟩ : ∃ b, b = decide (y < 0) := ⟨_, rfl⟩
 rw [← hng, ← hnh]
 have HPL := h0d (fun w' (h : Below w.heap.size w w') => plus_any _ _ z.natAbs y.natAbs w' (ha.below h) (hb.below h) (by omega) (by omega))
 have HCM := h0d (fun w' (h : Below w.heap.size w w') => cmp_any _ _ z.natAbs y.natAbs w' (ha.below h) (hb.below h))
 have HM1 := h0d (fun w' (h : Below w.heap.size w w') (hle : y.natAbs ≤ z.natAbs) => minus_any _ _ z.natAbs y.natAbs w' (ha.below h) (hb.below h) hle (by omega))
 have HM2 := h0d (fun w' (h : Below w.heap.size w w') (hle : z.natAbs ≤ y.natAbs) => minus_any _ _ y.natAbs z.natAbs w' (hb.below h) (ha.below h) hle (by omega))
 have HNG := h0d hng
 have HNH := h0d hnh
 clear ha hb hng hnh
 obtain ⟨W2, hW2⟩ : ∃ W2, W2 = (((w.alloc (Obj.cells #[Value.bool ng, Value.slice Aa ka ca] 27)).alloc (Obj.cells #[Value.bool nh, Value.slice Ab kb cb] 27)).alloc (Obj.cells #[Value.bool false, Value.slice none 0 0] 27)) := ⟨_, rfl⟩
 have hb2w : Below w.heap.size w W2 := by rw [hW2]; exact (((Below.refl _ w).alloc (by simp <;> omega) _).alloc (by simp <;> omega) _).alloc (by simp <;> omega) _
 have hsz2 : w.heap.size + 3 ≤ W2.heap.size := by rw [hW2]; simp
 have HARG0 : Hid (∀ w', Below W2.heap.size W2 w' → _) := fun w' h => resL (cs := #[Value.bool ng, Value.slice Aa ka ca]) (b := w.heap.size) (t := 27) (by rw [hW2, Below.heap_alloc _ _ _ (by simp <;> omega), Below.heap_alloc _ _ _ (by simp <;> omega)]; have hx := heap_alloc_new w (.cells #[Value.bool ng, Value.slice Aa ka ca] 27); simpa using hx) h
 have HARG1 : Hid (∀ w', Below W2.heap.size W2 w' → _) := fun w' h => resL (cs := #[Value.bool nh, Value.slice Ab kb cb]) (b := w.heap.size + 1) (t := 27) (by rw [hW2, Below.heap_alloc _ _ _ (by simp <;> omega)]; have hx := heap_alloc_new (w.alloc (Obj.cells #[Value.bool ng, Value.slice Aa ka ca] 27)) (.cells #[Value.bool nh, Value.slice Ab kb cb] 27); simpa using hx) h
 have HRES0 : Hid (∀ w', Below W2.heap.size W2 w' → _) := fun w' h => resL (cs := #[Value.bool false, Value.slice none 0 0]) (b := w.heap.size + 2) (t := 27) (by rw [hW2]; have hx := heap_alloc_new ((w.alloc (Obj.cells #[Value.bool ng, Value.slice Aa ka ca] 27)).alloc (Obj.cells #[Value.bool nh, Value.slice Ab kb cb] 27)) (.cells #[Value.bool false, Value.slice none 0 0] 27); simpa using hx) h
 have HB2W := h0d hb2w
 have HSZ2 := h0d hsz2
 have HW2 := h0d hW2
 have HBs : Hid (Below W2.heap.size W2 W2) := Below.refl _ _
 clear hW2 hb2w hsz2
 by_cases hE : ng = nh
 ·have hEb : (ng == nh) = true := by simp [hE]
  have HSG : Hid (signed ng (z.natAbs + y.natAbs) = z + y) := by show _ = _; rw [HNG.out]; exact signed_sum (by rw [← HNG.out, ← HNH.out, hE])
  clear hE
  go_enter Tryz.func165, Tryz.ntmps165
  go_wp2_with fail
  rw [← HW2.out]
  have HBD1 : Hid (Below W2.heap.size W2 W2.drew) := HBs.out.drew
  have dd0 := HARG0.out _ HBD1.out
  have dd1 := HARG1.out _ HBD1.out
  refine seq_start (S := fun w' => w'.cell? ⟨w.heap.size, 0, none⟩ = some (Value.bool ng) ∧ w'.cell? ⟨w.heap.size, 1, none⟩ = some (Value.slice Aa ka ca) ∧ w'.cell? ⟨w.heap.size + 1, 0, none⟩ = some (Value.bool nh) ∧ w'.cell? ⟨w.heap.size + 1, 1, none⟩ = some (Value.slice Ab kb cb)) (by kernel_rfl) (by kernel_rfl) (by exact ⟨(dd0 0).1, (dd0 1).1, (dd1 0).1, (dd1 1).1⟩) ?_
  clear dd0 dd1
  repeat (first | refine tk0 (h := ?_) | refine tkG (h := ?_) | refine skG (h := ?_))
  refine seq_op (by kernel_rfl) (by rfl) (fun K hK => ?_)
  go_simp
  refine (HPL.out _ (HB2W.out.trans (HBD1.out.mono HB2W.out.size))).mono ?_
  rintro e w3 ⟨⟨v3, rfl, hr3⟩, hbx⟩
  obtain ⟨A3, n3, c3, rfl⟩ := hr3.slice
  have HR3 := h0d hr3
  have HB_w3 : Hid (Below W2.heap.size W2 w3) := HBD1.out.trans (hbx.mono HBD1.out.size)
  have dd0 := HARG0.out _ HB_w3.out
  have dd1 := HARG1.out _ HB_w3.out
  refine hK.out _ _ (by exact ⟨(dd0 0).1, (dd0 1).1, (dd1 0).1, (dd1 1).1⟩) ?_
  clear hK K dd0 dd1 hbx hr3
  repeat (first | refine tk0 (h := ?_) | refine tkG (h := ?_) | refine skG (h := ?_))
  refine seq_op (by kernel_rfl) (by rfl) (fun K hK => ?_)
  go_simp
  refine (whole_any _ _ _ _ HR3.out).mono ?_
  rintro e w4 ⟨⟨v4, rfl, hz4⟩, hbx⟩
  rw [HSG.out] at hz4
  obtain ⟨a4, rfl, hr4⟩ := hz4
  obtain ⟨A4, n4, c4, rfl⟩ := hr4.slice
  have HR4 := h0d hr4
  have HB_w4 : Hid (Below W2.heap.size W2 w4) := HB_w3.out.trans (hbx.mono HB_w3.out.size)
  have dd0 := HARG0.out _ HB_w4.out
  have dd1 := HARG1.out _ HB_w4.out
  refine hK.out _ _ (by exact ⟨(dd0 0).1, (dd0 1).1, (dd1 0).1, (dd1 1).1⟩) ?_
  clear hK K dd0 dd1 hbx hr4
  repeat (first | refine tk0 (h := ?_) | refine tkG (h := ?_) | refine skG (h := ?_))
  refine seq_op (by kernel_rfl) (by rfl) (fun K hK => ?_)
  have qq := HRES0.out _ HB_w4.out
  have q0 := (qq 0).1
  have q1 := (qq 1).1
  have qf0 := (qq 0).2
  have qf1 := (qq 1).2
  simp only [List.getElem?_toArray, List.getElem?_cons_zero, List.getElem?_cons_succ] at q0 q1
  clear qq
  go_simp
  have dd0 := HARG0.out _ HB_w4.out
  have dd1 := HARG1.out _ HB_w4.out
  refine hK.out _ _ (by go_simp; (first | done | exact ⟨(dd0 0).1, (dd0 1).1, (dd1 0).1, (dd1 1).1⟩)) ?_
  clear hK K dd0 dd1
  repeat (first | refine tk0 (h := ?_) | refine tkG (h := ?_) | refine skG (h := ?_))
  refine seq_done (by kernel_rfl) ?_
  go_wp2_with fail
  have hbw := HB2W.out.trans (HB_w4.out.mono HB2W.out.size)
  exact bodyPost_ret (v := .agg #[.bool (decide (z + y < 0)), .slice A4 n4 c4]) (by simp [results, Tryz.results165, go_sem, q0, q1]) rfl ⟨⟨_, rfl, _, rfl, HR4.out.set2 q0 q1 _ _⟩, (hbw.setCell (by simp <;> omega) _).setCell (by simp <;> omega) _⟩
 ·have hEb : (ng == nh) = false := by simp [hE]
  have HE : Hid (decide (z < 0) ≠ decide (y < 0)) := by show _ ≠ _; rw [← HNG.out, ← HNH.out]; exact hE
  clear hE
  by_cases hle : y.natAbs ≤ z.natAbs
  ·have HSG : Hid (signed ng (z.natAbs - y.natAbs) = z + y) := by show _ = _; rw [HNG.out]; exact signed_diff HE.out hle
   have HLE := h0d hle
   obtain ⟨cv, hcv⟩ : ∃ c, c = cmpN z.natAbs y.natAbs := ⟨_, rfl⟩
   rw [← hcv] at HCM
   have hcn : 0 ≤ cv := by rw [hcv]; unfold cmpN; rw [if_neg (by omega)]; split <;> omega
   have hcb : decide (0 ≤ cv) = true := by simpa using hcn
   clear hle hcv
   go_enter Tryz.func165, Tryz.ntmps165
   go_wp2_with (go_at_call 127; refine (HCM.out _ (by rw [← HW2.out]; exact HB2W.out)).mono ?_; rintro e w5 ⟨rfl, hbx⟩; rw [← HW2.out] at hbx; have HB_w5 := h0d hbx; clear hbx)
   have HBD1 : Hid (Below W2.heap.size W2 w5.drew) := HB_w5.out.drew
   have dd0 := HARG0.out _ HBD1.out
   have dd1 := HARG1.out _ HBD1.out
   refine seq_start (S := fun w' => w'.cell? ⟨w.heap.size, 0, none⟩ = some (Value.bool ng) ∧ w'.cell? ⟨w.heap.size, 1, none⟩ = some (Value.slice Aa ka ca) ∧ w'.cell? ⟨w.heap.size + 1, 0, none⟩ = some (Value.bool nh) ∧ w'.cell? ⟨w.heap.size + 1, 1, none⟩ = some (Value.slice Ab kb cb)) (by kernel_rfl) (by kernel_rfl) (by exact ⟨(dd0 0).1, (dd0 1).1, (dd1 0).1, (dd1 1).1⟩) ?_
   clear dd0 dd1
   repeat (first | refine tk0 (h := ?_) | refine tkG (h := ?_) | refine skG (h := ?_))
   refine seq_op (by kernel_rfl) (by rfl) (fun K hK => ?_)
   go_simp
   refine (HM1.out _ (HB2W.out.trans (HBD1.out.mono HB2W.out.size)) HLE.out).mono ?_
   rintro e w3 ⟨⟨v3, rfl, hr3⟩, hbx⟩
   obtain ⟨A3, n3, c3, rfl⟩ := hr3.slice
   have HR3 := h0d hr3
   have HB_w3 : Hid (Below W2.heap.size W2 w3) := HBD1.out.trans (hbx.mono HBD1.out.size)
   have dd0 := HARG0.out _ HB_w3.out
   have dd1 := HARG1.out _ HB_w3.out
   refine hK.out _ _ (by exact ⟨(dd0 0).1, (dd0 1).1, (dd1 0).1, (dd1 1).1⟩) ?_
   clear hK K dd0 dd1 hbx hr3
   repeat (first | refine tk0 (h := ?_) | refine tkG (h := ?_) | refine skG (h := ?_))
   refine seq_op (by kernel_rfl) (by rfl) (fun K hK => ?_)
   go_simp
   refine (whole_any _ _ _ _ HR3.out).mono ?_
   rintro e w4 ⟨⟨v4, rfl, hz4⟩, hbx⟩
   rw [HSG.out] at hz4
   obtain ⟨a4, rfl, hr4⟩ := hz4
   obtain ⟨A4, n4, c4, rfl⟩ := hr4.slice
   have HR4 := h0d hr4
   have HB_w4 : Hid (Below W2.heap.size W2 w4) := HB_w3.out.trans (hbx.mono HB_w3.out.size)
   have dd0 := HARG0.out _ HB_w4.out
   have dd1 := HARG1.out _ HB_w4.out
   refine hK.out _ _ (by exact ⟨(dd0 0).1, (dd0 1).1, (dd1 0).1, (dd1 1).1⟩) ?_
   clear hK K dd0 dd1 hbx hr4
   repeat (first | refine tk0 (h := ?_) | refine tkG (h := ?_) | refine skG (h := ?_))
   refine seq_op (by kernel_rfl) (by rfl) (fun K hK => ?_)
   have qq := HRES0.out _ HB_w4.out
   have q0 := (qq 0).1
   have q1 := (qq 1).1
   have qf0 := (qq 0).2
   have qf1 := (qq 1).2
   simp only [List.getElem?_toArray, List.getElem?_cons_zero, List.getElem?_cons_succ] at q0 q1
   clear qq
   go_simp
   have dd0 := HARG0.out _ HB_w4.out
   have dd1 := HARG1.out _ HB_w4.out
   refine hK.out _ _ (by go_simp; (first | done | exact ⟨(dd0 0).1, (dd0 1).1, (dd1 0).1, (dd1 1).1⟩)) ?_
   clear hK K dd0 dd1
   repeat (first | refine tk0 (h := ?_) | refine tkG (h := ?_) | refine skG (h := ?_))
   refine seq_done (by kernel_rfl) ?_
   go_wp2_with fail
   have hbw := HB2W.out.trans (HB_w4.out.mono HB2W.out.size)
   exact bodyPost_ret (v := .agg #[.bool (decide (z + y < 0)), .slice A4 n4 c4]) (by simp [results, Tryz.results165, go_sem, q0, q1]) rfl ⟨⟨_, rfl, _, rfl, HR4.out.set2 q0 q1 _ _⟩, (hbw.setCell (by simp <;> omega) _).setCell (by simp <;> omega) _⟩
  ·have HSG : Hid (signed nh (y.natAbs - z.natAbs) = z + y) := by show _ = _; rw [HNH.out, Int.add_comm]; exact signed_diff (fun h => HE.out h.symm) (by omega)
   have HLE := h0d hle
   obtain ⟨cv, hcv⟩ : ∃ c, c = cmpN z.natAbs y.natAbs := ⟨_, rfl⟩
   rw [← hcv] at HCM
   have hcn : ¬ (0 ≤ cv) := by rw [hcv]; unfold cmpN; rw [if_pos (by omega)]; omega
   have hcb : decide (0 ≤ cv) = false := by simpa using hcn
   clear hle hcv
   go_enter Tryz.func165, Tryz.ntmps165
   go_wp2_with (go_at_call 127; refine (HCM.out _ (by rw [← HW2.out]; exact HB2W.out)).mono ?_; rintro e w5 ⟨rfl, hbx⟩; rw [← HW2.out] at hbx; have HB_w5 := h0d hbx; clear hbx)
   have HBD1 : Hid (Below W2.heap.size W2 w5.drew) := HB_w5.out.drew
   have dd0 := HARG0.out _ HBD1.out
   have dd1 := HARG1.out _ HBD1.out
   refine seq_start (S := fun w' => w'.cell? ⟨w.heap.size, 0, none⟩ = some (Value.bool ng) ∧ w'.cell? ⟨w.heap.size, 1, none⟩ = some (Value.slice Aa ka ca) ∧ w'.cell? ⟨w.heap.size + 1, 0, none⟩ = some (Value.bool nh) ∧ w'.cell? ⟨w.heap.size + 1, 1, none⟩ = some (Value.slice Ab kb cb)) (by kernel_rfl) (by kernel_rfl) (by exact ⟨(dd0 0).1, (dd0 1).1, (dd1 0).1, (dd1 1).1⟩) ?_
   clear dd0 dd1
   repeat (first | refine tk0 (h := ?_) | refine tkG (h := ?_) | refine skG (h := ?_))
   refine seq_op (by kernel_rfl) (by rfl) (fun K hK => ?_)
   go_simp
   refine (HM2.out _ (HB2W.out.trans (HBD1.out.mono HB2W.out.size)) (by have := HLE.out; omega)).mono ?_
   rintro e w3 ⟨⟨v3, rfl, hr3⟩, hbx⟩
   obtain ⟨A3, n3, c3, rfl⟩ := hr3.slice
   have HR3 := h0d hr3
   have HB_w3 : Hid (Below W2.heap.size W2 w3) := HBD1.out.trans (hbx.mono HBD1.out.size)
   have dd0 := HARG0.out _ HB_w3.out
   have dd1 := HARG1.out _ HB_w3.out
   refine hK.out _ _ (by exact ⟨(dd0 0).1, (dd0 1).1, (dd1 0).1, (dd1 1).1⟩) ?_
   clear hK K dd0 dd1 hbx hr3
   repeat (first | refine tk0 (h := ?_) | refine tkG (h := ?_) | refine skG (h := ?_))
   refine seq_op (by kernel_rfl) (by rfl) (fun K hK => ?_)
   go_simp
   refine (whole_any _ _ _ _ HR3.out).mono ?_
   rintro e w4 ⟨⟨v4, rfl, hz4⟩, hbx⟩
   rw [HSG.out] at hz4
   obtain ⟨a4, rfl, hr4⟩ := hz4
   obtain ⟨A4, n4, c4, rfl⟩ := hr4.slice
   have HR4 := h0d hr4
   have HB_w4 : Hid (Below W2.heap.size W2 w4) := HB_w3.out.trans (hbx.mono HB_w3.out.size)
   have dd0 := HARG0.out _ HB_w4.out
   have dd1 := HARG1.out _ HB_w4.out
   refine hK.out _ _ (by exact ⟨(dd0 0).1, (dd0 1).1, (dd1 0).1, (dd1 1).1⟩) ?_
   clear hK K dd0 dd1 hbx hr4
   repeat (first | refine tk0 (h := ?_) | refine tkG (h := ?_) | refine skG (h := ?_))
   refine seq_op (by kernel_rfl) (by rfl) (fun K hK => ?_)
   have qq := HRES0.out _ HB_w4.out
   have q0 := (qq 0).1
   have q1 := (qq 1).1
   have qf0 := (qq 0).2
   have qf1 := (qq 1).2
   simp only [List.getElem?_toArray, List.getElem?_cons_zero, List.getElem?_cons_succ] at q0 q1
   clear qq
   go_simp
   have dd0 := HARG0.out _ HB_w4.out
   have dd1 := HARG1.out _ HB_w4.out
   refine hK.out _ _ (by go_simp; (first | done | exact ⟨(dd0 0).1, (dd0 1).1, (dd1 0).1, (dd1 1).1⟩)) ?_
   clear hK K dd0 dd1
   repeat (first | refine tk0 (h := ?_) | refine tkG (h := ?_) | refine skG (h := ?_))
   refine seq_done (by kernel_rfl) ?_
   go_wp2_with fail
   have hbw := HB2W.out.trans (HB_w4.out.mono HB2W.out.size)
   exact bodyPost_ret (v := .agg #[.bool (decide (z + y < 0)), .slice A4 n4 c4]) (by simp [results, Tryz.results165, go_sem, q0, q1]) rfl ⟨⟨_, rfl, _, rfl, HR4.out.set2 q0 q1 _ _⟩, (hbw.setCell (by simp <;> omega) _).setCell (by simp <;> omega) _⟩
end Go.Proofs.YtodckaioeomccaaGreat
namespace Go.Proofs.YtodckaioeomccaaGreat
open Go.RowKit
set_option linter.unusedVariables false
set_option linter.unusedSimpArgs false
def RdQ (w : World) (v : Value) (x : Rat) : Prop := ∃ a b, v = .agg #[.bool (decide (x.num < 0)), a, b] ∧ RdN w a x.num.natAbs ∧ RdN w b (den1 x.den)
theorem RdQ.below {w w' : World} {v : Value} {x : Rat} (h : RdQ w v x) (hb : Below w.heap.size w w') : RdQ w' v x := let ⟨a, b, h1, h2, h3⟩ := h; ⟨a, b, h1, h2.below hb, h3.below hb⟩
theorem RdN.set1 {w : World} {v : Value} {n : Nat} (h : RdN w v n) {p : Addr} {A : Option Addr} {m c : Nat} (h0 : w.cell? p = some (.slice A m c)) (u : Value) : RdN (w.setCell p u) v n := Rd.set_ h h0 (nwS _ _ _) u
theorem mk_num {z : Int} {D : Nat} (hD : D ≠ 0) : (mkRat z D).num = z / (Nat.gcd z.natAbs D : Nat) := by
 rw [Rat.num_mkRat, if_neg hD, Nat.gcd_comm]
theorem mk_den {z : Int} {D : Nat} (hD : D ≠ 0) : (mkRat z D).den = D / Nat.gcd z.natAbs D := by
 rw [Rat.den_mkRat, if_neg hD, Nat.gcd_comm]
theorem mk_parts {z : Int} {D : Nat} (hD : D ≠ 0) : decide ((mkRat z D).num < 0) = decide (z < 0) ∧ (mkRat z D).num.natAbs = z.natAbs / Nat.gcd z.natAbs D ∧ (mkRat z D).den = D / Nat.gcd z.natAbs D := by
 obtain ⟨g, hg⟩ : ∃ g, g = Nat.gcd z.natAbs D := ⟨_, rfl⟩
 have hg0 : 0 < g := by rw [hg]; exact Nat.gcd_pos_of_pos_right _ (Nat.pos_of_ne_zero hD)
 have hdv : g ∣ z.natAbs := by rw [hg]; exact Nat.gcd_dvd_left _ _
 rw [mk_num hD, mk_den hD, ← hg]
 obtain ⟨m, hm⟩ := hdv
 refine ⟨?_, ?_, rfl⟩
 ·rw [decide_eq_decide]
  constructor
  ·intro h
   refine Int.not_le.1 fun h0 => ?_
   have := Int.ediv_nonneg h0 (show (0 : Int) ≤ (g : Int) by omega)
   omega
  ·intro h
   exact Int.ediv_neg_of_neg_of_pos h (by omega)
 ·by_cases h : z < 0
  ·have hz : z = -((g * m : Nat) : Int) := by omega
   have h5 : z / (g : Int) = -(m : Int) := by rw [hz, Int.natCast_mul, ← Int.mul_neg, Int.mul_ediv_cancel_left _ (by omega)]
   rw [h5, hm, Nat.mul_div_cancel_left _ hg0, Int.natAbs_neg]; rfl
  ·have hz : z = ((g * m : Nat) : Int) := by omega
   have h5 : z / (g : Int) = (m : Int) := by rw [hz, Int.natCast_mul, Int.mul_ediv_cancel_left _ (by omega)]
   rw [h5, hm, Nat.mul_div_cancel_left _ hg0]; rfl
set_option maxRecDepth 100000 in
set_option maxHeartbeats 4000000 in
theorem over_any (v vd : Value) (z : Int) (D : Nat) (w : World) (hv : RdZ w v z) (hd : RdN w vd D) (hD : D ≠ 0) (hz6 : dl z.natAbs ≤ 900000) (hd6 : dl D ≤ 900000) :
  Calls Tryz.prog 163 #[v, vd] w fun e w' => (∃ v', e = .returned v' ∧ RdQ w' v' (mkRat z D)) ∧ Below w.heap.size w w' := by
 obtain ⟨a, rfl, ha⟩ := hv
 obtain ⟨Aa, ka, ca, rfl⟩ := ha.slice
 obtain ⟨Ad, kd, cd, rfl⟩ := hd.slice
 obtain ⟨ng, hng⟩ : ∃ b, b = decide (z < 0) := ⟨_, rfl⟩
 obtain ⟨m1, m2, m3⟩ := mk_parts (z := z) hD
 rw [← hng] at m1 ⊢
 obtain ⟨X, hX⟩ : ∃ X, X = mkRat z D := ⟨_, rfl⟩
 rw [← hX] at m1 m2 m3 ⊢
 obtain ⟨g, hg⟩ : ∃ g, g = Nat.gcd z.natAbs D := ⟨_, rfl⟩
 rw [← hg] at m2 m3
 have hg0 : g ≠ 0 := by rw [hg]; exact Nat.pos_iff_ne_zero.1 (Nat.gcd_pos_of_pos_right _ (Nat.pos_of_ne_zero hD))
 have hg6 : dl g ≤ 900000 := by rw [hg]; exact Nat.le_trans (dl_mono (Nat.gcd_le_right _ (Nat.pos_of_ne_zero hD))) hd6
 have HA := h0d ha
 have HD := h0d hd
 have HGC : Hid (∀ w', Below w.heap.size w w' → Calls Tryz.prog 225 #[.slice Aa ka ca, .slice Ad kd cd] w' fun e w'' => (∃ v', e = .returned v' ∧ RdN w'' v' g) ∧ Below w'.heap.size w' w'') := fun w' h => by
  rw [hg]; exact gcd_any _ _ z.natAbs D w' (ha.below h) (hd.below h) hz6 hd6
 have M1 := h0d m1
 have M2 := h0d m2
 have M3 := h0d m3
 have HG0 := h0d hg0
 obtain ⟨W2, hW2⟩ : ∃ W2, W2 = (w.alloc (Obj.cells #[Value.bool ng, .slice Aa ka ca] 27)).alloc (Obj.cells #[Value.bool false, Value.slice none 0 0, Value.slice none 0 0] 32) := ⟨_, rfl⟩
 have hb2 : Below w.heap.size w W2 := by rw [hW2]; exact ((Below.refl _ _).alloc (Nat.le_refl _) _).alloc (by simp) _
 have hsz2 : w.heap.size + 2 ≤ W2.heap.size := by rw [hW2]; simp
 have HARG : Hid (∀ w', Below W2.heap.size W2 w' → _) := fun w' h => res2 (c0 := .bool ng) (c1 := .slice Aa ka ca) (b := w.heap.size) (t := 27) (by rw [hW2, Below.heap_alloc _ _ _ (by simp)]; exact heap_alloc_new w _) h
 have HRS : Hid (∀ w', Below W2.heap.size W2 w' → _) := fun w' h => res3 (c0 := .bool false) (c1 := .slice none 0 0) (c2 := .slice none 0 0) (b := w.heap.size + 1) (t := 32) (by rw [hW2]; have := heap_alloc_new (w.alloc (Obj.cells #[Value.bool ng, .slice Aa ka ca] 27)) (.cells #[Value.bool false, Value.slice none 0 0, Value.slice none 0 0] 32); simpa using this) h
 have HB2 := h0d hb2
 have HSZ := h0d hsz2
 have HW2 := h0d hW2
 clear ha hd hng hW2 hb2 m1 m2 m3 hX hg hg0 hsz2
 go_enter Tryz.func163, Tryz.ntmps163
 go_wp2_with fail
 rw [← HW2.out]
 refine (HGC.out _ HB2.out).mono ?_
 rintro e w3 ⟨⟨v3, rfl, hr3⟩, hb3⟩
 obtain ⟨A3, n3, c3, rfl⟩ := hr3.slice
 have HR3 := h0d hr3
 have HB3 := h0d hb3
 have HI3 := h0d (isOne_any _ g w3 hr3)
 obtain ⟨d0, d1, d2, d3⟩ := HARG.out _ hb3
 have HBW3 : Hid (Below w.heap.size w w3) := HB2.out.trans (hb3.mono HB2.out.size)
 clear hr3 hb3
 by_cases hg1 : g = 1
 ·have hgb : decide (g = 1) = true := decide_eq_true hg1
  rw [hgb] at HI3
  have HD1 := h0d (isOne_any _ D w3 (HD.out.below HBW3.out))
  have HX2 : Hid (X.num.natAbs = z.natAbs) := by show _ = _; rw [M2.out, hg1, Nat.div_one]
  have HX3 : Hid (X.den = D) := by show _ = _; rw [M3.out, hg1, Nat.div_one]
  obtain ⟨r0, r1, r2, r3, r4, r5⟩ := HRS.out _ HB3.out
  clear hgb hg1
  by_cases hD1 : D = 1
  ·have hDb : decide (D = 1) = true := decide_eq_true hD1
   have HE1 := h0d hD1
   rw [hDb] at HD1
   clear hDb hD1
   go_wp2_with (go_at_call 226; (first | (with_reducible refine HI3.out.mono ?_) | (with_reducible refine HD1.out.mono ?_)); rintro e w4 ⟨rfl, rfl⟩)
   exact bodyPost_ret (v := .agg #[.bool ng, .slice Aa ka ca, .slice none 0 0]) (by simp [results, Tryz.results163, go_sem, r0, r1, r2]) rfl ⟨⟨_, rfl, _, _, by rw [M1.out], by rw [HX2.out]; exact (HA.out.below HBW3.out).set3 r0 r1 r2 _ _ _, by rw [HX3.out, HE1.out]; exact RdN.nil_ _⟩, ((HBW3.out.setCell (by simp) _).setCell (by simp) _).setCell (by simp) _⟩
  ·have hDb : decide (D = 1) = false := decide_eq_false hD1
   have HE1 := h0d hD1
   rw [hDb] at HD1
   clear hDb hD1
   go_wp2_with (go_at_call 226; (first | (with_reducible refine HI3.out.mono ?_) | (with_reducible refine HD1.out.mono ?_)); rintro e w4 ⟨rfl, rfl⟩)
   exact bodyPost_ret (v := .agg #[.bool ng, .slice Aa ka ca, .slice Ad kd cd]) (by simp [results, Tryz.results163, go_sem, r0, r1, r2]) rfl ⟨⟨_, rfl, _, _, by rw [M1.out], by rw [HX2.out]; exact (HA.out.below HBW3.out).set3 r0 r1 r2 _ _ _, by rw [HX3.out]; unfold den1; rw [if_neg HE1.out]; exact (HD.out.below HBW3.out).set3 r0 r1 r2 _ _ _⟩, ((HBW3.out.setCell (by simp) _).setCell (by simp) _).setCell (by simp) _⟩
 ·have hgb : decide (g = 1) = false := decide_eq_false hg1
  rw [hgb] at HI3
  have HD1 := h0d (divide_any _ _ z.natAbs g w3 (HA.out.below HBW3.out) HR3.out HG0.out hz6 hg6)
  clear hgb hg1
  go_wp2_with (go_at_call 226; refine HI3.out.mono ?_; rintro e w4 ⟨rfl, rfl⟩)
  refine HD1.out.mono ?_
  rintro e w5 ⟨v5, u5, rfl, hr5, hs5, hb5⟩
  obtain ⟨A5, n5, c5, rfl⟩ := hr5.slice
  have HR5 := h0d hr5
  have HB5 : Hid (Below W2.heap.size W2 w5) := HB3.out.trans (hb5.mono HB3.out.size)
  have HBW5 : Hid (Below w.heap.size w w5) := HB2.out.trans (HB5.out.mono HB2.out.size)
  have HR35 := h0d (HR3.out.below hb5)
  obtain ⟨e0, e1, e2, e3⟩ := HARG.out _ HB5.out
  obtain ⟨r0, r1, r2, r3, r4, r5⟩ := HRS.out _ HB5.out
  clear hr5 hs5 hb5 d0 d1 d2 d3
  obtain ⟨W6, hW6⟩ : ∃ W6, W6 = w5.setCell ⟨w.heap.size, 1, none⟩ (.slice A5 n5 c5) := ⟨_, rfl⟩
  have HBW6 : Hid (Below w.heap.size w W6) := by rw [hW6]; exact HBW5.out.setCell (Nat.le_refl _) _
  have HD6 : Hid (RdN W6 (.slice Ad kd cd) D) := by rw [hW6]; exact (HD.out.below HBW5.out).set1 e1 _
  have HG6 : Hid (RdN W6 (.slice A3 n3 c3) g) := by rw [hW6]; exact HR35.out.set1 e1 _
  have HQ6 : Hid (RdN W6 (.slice A5 n5 c5) (z.natAbs / g)) := by rw [hW6]; exact HR5.out.set1 e1 _
  have h6 : W6.cell? ⟨w.heap.size, 0, none⟩ = some (.bool ng) := by rw [hW6, World.cell?_setCell_other w5 ⟨w.heap.size, 1, none⟩ ⟨w.heap.size, 0, none⟩ _ (by intro e; simp at e)]; exact e0
  have h7 : W6.cell? ⟨w.heap.size, 1, none⟩ = some (.slice A5 n5 c5) := by rw [hW6]; exact World.cell?_setCell_same w5 _ _ e1
  have k0 : W6.cell? ⟨w.heap.size + 1, 0, none⟩ = some (.bool false) := by rw [hW6, World.cell?_setCell_other w5 ⟨w.heap.size, 1, none⟩ ⟨w.heap.size + 1, 0, none⟩ _ (by intro e; simp at e)]; exact r0
  have k1 : W6.cell? ⟨w.heap.size + 1, 1, none⟩ = some (.slice none 0 0) := by rw [hW6, World.cell?_setCell_other w5 ⟨w.heap.size, 1, none⟩ ⟨w.heap.size + 1, 1, none⟩ _ (by intro e; simp at e)]; exact r1
  have k2 : W6.cell? ⟨w.heap.size + 1, 2, none⟩ = some (.slice none 0 0) := by rw [hW6, World.cell?_setCell_other w5 ⟨w.heap.size, 1, none⟩ ⟨w.heap.size + 1, 2, none⟩ _ (by intro e; simp at e)]; exact r2
  have k3 : W6.frozen? ⟨w.heap.size + 1, 0, none⟩ = false := by rw [hW6, World.frozen?_setCell]; exact r3
  have k4 : W6.frozen? ⟨w.heap.size + 1, 1, none⟩ = false := by rw [hW6, World.frozen?_setCell]; exact r4
  have k5 : W6.frozen? ⟨w.heap.size + 1, 2, none⟩ = false := by rw [hW6, World.frozen?_setCell]; exact r5
  have hl1 : w.heap.size + 2 ≤ W6.heap.size := by rw [hW6]; have h1 := HSZ.out; have h2 := HB5.out.size; simp; omega
  have HDV := h0d (divide_any _ _ D g W6 HD6.out HG6.out HG0.out hd6 hg6)
  have HW6 := h0d hW6
  have HK : Hid (∀ w', Below W6.heap.size W6 w' → w'.cell? ⟨w.heap.size, 0, none⟩ = some (.bool ng) ∧ w'.cell? ⟨w.heap.size, 1, none⟩ = some (.slice A5 n5 c5) ∧ w'.cell? ⟨w.heap.size + 1, 0, none⟩ = some (.bool false) ∧ w'.cell? ⟨w.heap.size + 1, 1, none⟩ = some (.slice none 0 0) ∧ w'.cell? ⟨w.heap.size + 1, 2, none⟩ = some (.slice none 0 0) ∧ w'.frozen? ⟨w.heap.size + 1, 0, none⟩ = false ∧ w'.frozen? ⟨w.heap.size + 1, 1, none⟩ = false ∧ w'.frozen? ⟨w.heap.size + 1, 2, none⟩ = false) := fun w' h =>
   ⟨(h.cell (p := ⟨w.heap.size, 0, none⟩) (by simp; omega)).trans h6, (h.cell (p := ⟨w.heap.size, 1, none⟩) (by simp; omega)).trans h7, (h.cell (p := ⟨w.heap.size + 1, 0, none⟩) (by simp; omega)).trans k0, (h.cell (p := ⟨w.heap.size + 1, 1, none⟩) (by simp; omega)).trans k1, (h.cell (p := ⟨w.heap.size + 1, 2, none⟩) (by simp; omega)).trans k2,
    (h.frozen (p := ⟨w.heap.size + 1, 0, none⟩) (by simp; omega)).trans k3, (h.frozen (p := ⟨w.heap.size + 1, 1, none⟩) (by simp; omega)).trans k4, (h.frozen (p := ⟨w.heap.size + 1, 2, none⟩) (by simp; omega)).trans k5⟩
  clear r0 r1 r2 r3 r4 r5 h6 h7 k0 k1 k2 k3 k4 k5 hW6
  go_wp2_with fail
  rw [← HW6.out]
  refine HDV.out.mono ?_
  rintro e w7 ⟨v7, u7, rfl, hr7, hs7, hb7⟩
  obtain ⟨A7, n7, c7, rfl⟩ := hr7.slice
  have HR7 := h0d hr7
  have HI7 := h0d (isOne_any _ (D / g) w7 hr7)
  obtain ⟨y0, y1, y2, y3, y4, y5, y6, y7⟩ := HK.out _ hb7
  have HBW7 : Hid (Below w.heap.size w w7) := HBW6.out.trans (hb7.mono HBW6.out.size)
  have HQ7 := h0d (HQ6.out.below hb7)
  rw [← M2.out] at HQ7
  rw [← M3.out] at HI7 HR7
  clear hr7 hs7 hb7 e0 e1 e2 e3
  by_cases hD1 : X.den = 1
  ·have hDb : decide (X.den = 1) = true := decide_eq_true hD1
   have HE1 := h0d hD1
   rw [hDb] at HI7
   clear hDb hD1
   go_wp2_with (go_at_call 226; refine HI7.out.mono ?_; rintro e w4 ⟨rfl, rfl⟩)
   exact bodyPost_ret (v := .agg #[.bool ng, .slice A5 n5 c5, .slice none 0 0]) (by simp [results, Tryz.results163, go_sem, y2, y3, y4]) rfl ⟨⟨_, rfl, _, _, by rw [M1.out], HQ7.out.set3 y2 y3 y4 _ _ _, by rw [HE1.out]; exact RdN.nil_ _⟩, ((HBW7.out.setCell (by simp) _).setCell (by simp) _).setCell (by simp) _⟩
  ·have hDb : decide (X.den = 1) = false := decide_eq_false hD1
   have HE1 := h0d hD1
   rw [hDb] at HI7
   clear hDb hD1
   go_wp2_with (go_at_call 226; refine HI7.out.mono ?_; rintro e w4 ⟨rfl, rfl⟩)
   exact bodyPost_ret (v := .agg #[.bool ng, .slice A5 n5 c5, .slice A7 n7 c7]) (by simp [results, Tryz.results163, go_sem, y2, y3, y4]) rfl ⟨⟨_, rfl, _, _, by rw [M1.out], HQ7.out.set3 y2 y3 y4 _ _ _, by unfold den1; rw [if_neg HE1.out]; exact HR7.out.set3 y2 y3 y4 _ _ _⟩, ((HBW7.out.setCell (by simp) _).setCell (by simp) _).setCell (by simp) _⟩
section
variable {P : Program} {ops : Array Oper} {Q : Exit → Act → World → Prop} {S : World → Prop}
def pull {α : Type} : Nat → List α → List α
 | 0, l => l
 | _ + 1, [] => []
 | n + 1, x :: l => match pull n l with
  | [] => [x]
  | y :: r => y :: x :: r
theorem pull_perm {α : Type} : ∀ (n : Nat) (l : List α), (pull n l).Perm l
 | 0, l => by simp [pull]
 | _ + 1, [] => by simp [pull]
 | n + 1, x :: l => by
  have h := pull_perm n l
  simp only [pull]
  split
  ·rename_i e; rw [e] at h; exact List.Perm.cons x h
  ·rename_i y r e; rw [e] at h; exact (List.Perm.swap x y r).trans (List.Perm.cons x h)
theorem seq_pull {l : List (Nat × Oper)} {a : Act} {w : World} (n : Nat) (h : Seq P ops Q S (pull n l) a w) : Seq P ops Q S l a w := seq_perm (pull_perm n l) h
end
def QS (k : Nat) (x : Rat) : Prop := dl x.num.natAbs ≤ k ∧ dl x.den ≤ k
theorem dl_two (z y : Int) : dl (z + y).natAbs ≤ max (dl z.natAbs) (dl y.natAbs) + 1 := Nat.le_trans (dl_mono (Int.natAbs_add_le z y)) (dl_add _ _)
theorem dl_imul (z : Int) (n : Nat) : dl (z * n).natAbs ≤ dl z.natAbs + dl n := by
 rw [Int.natAbs_mul, Int.natAbs_natCast]; exact dl_mul _ _
set_option maxRecDepth 100000 in
set_option maxHeartbeats 4000000 in
theorem add_any (v u : Value) (x y : Rat) (w : World) (hv : RdQ w v x) (hu : RdQ w u y) (hx6 : QS 100000 x) (hy6 : QS 100000 y) :
  Calls Tryz.prog 77 #[v, u] w fun e w' => (∃ v', e = .returned v' ∧ RdQ w' v' (x + y)) ∧ Below w.heap.size w w' := by
 obtain ⟨a, b, rfl, ha, hb⟩ := hv
 obtain ⟨c, d, rfl, hc, hd⟩ := hu
 obtain ⟨Aa, ka, ca, rfl⟩ := ha.slice
 obtain ⟨Ab, kb, cb, rfl⟩ := hb.slice
 obtain ⟨Ac, kc, cc, rfl⟩ := hc.slice
 obtain ⟨Ad, kd, cd, rfl⟩ := hd.slice
 obtain ⟨hx1, hx2⟩ := hx6
 obtain ⟨hy1, hy2⟩ := hy6
 have hxd := x.den_nz
 have hyd := y.den_nz
 have HADD : Hid (mkRat (x.num * y.den + y.num * x.den) (x.den * y.den) = x + y) := (Rat.add_def' x y).symm
 have HZX : Hid (∀ w', Below w.heap.size w w' → RdZ w' (.agg #[.bool (decide (x.num < 0)), .slice Aa ka ca]) x.num) := fun w' h => ⟨_, rfl, ha.below h⟩
 have HZY : Hid (∀ w', Below w.heap.size w w' → RdZ w' (.agg #[.bool (decide (y.num < 0)), .slice Ac kc cc]) y.num) := fun w' h => ⟨_, rfl, hc.below h⟩
 obtain ⟨ng, hng⟩ : ∃ b, b = decide (x.num < 0) := ⟨_, rfl⟩
 obtain ⟨nh, hnh⟩ : ∃ b, b = decide (y.num < 0) := ⟨_, rfl⟩
 rw [← hng] at HZX ⊢
 rw [← hnh] at HZY ⊢
 have HU1 := h0d (fun w' (h : Below w.heap.size w w') => under_any _ x.den w' hxd (hb.below h))
 have HU2 := h0d (fun w' (h : Below w.heap.size w w') => under_any _ y.den w' hyd (hd.below h))
 have hp1 := dl_imul x.num y.den
 have hp2 := dl_imul y.num x.den
 have hp3 := dl_two (x.num * y.den) (y.num * x.den)
 have hp4 := dl_mul x.den y.den
 have HP : Hid (dl (x.num * y.den).natAbs ≤ 900000 ∧ dl (y.num * x.den).natAbs ≤ 900000 ∧ dl (x.num * y.den + y.num * x.den).natAbs ≤ 900000 ∧ dl (x.den * y.den) ≤ 900000) := ⟨by omega, by omega, by omega, by omega⟩
 have HDE : Hid (x.den * y.den ≠ 0) := Nat.mul_ne_zero hxd hyd
 clear ha hb hc hd hng hnh hp1 hp2 hp3 hp4 hxd hyd
 obtain ⟨W2, hW2⟩ : ∃ W2, W2 = (((w.alloc (Obj.cells #[Value.bool ng, Value.slice Aa ka ca, Value.slice Ab kb cb] 32)).alloc (Obj.cells #[Value.bool nh, Value.slice Ac kc cc, Value.slice Ad kd cd] 32)).alloc (Obj.cells #[Value.bool false, Value.slice none 0 0, Value.slice none 0 0] 32)) := ⟨_, rfl⟩
 have hb2w : Below w.heap.size w W2 := by rw [hW2]; exact (((Below.refl _ w).alloc (by simp <;> omega) _).alloc (by simp <;> omega) _).alloc (by simp <;> omega) _
 have hsz2 : w.heap.size + 3 ≤ W2.heap.size := by rw [hW2]; simp
 have HARG0 : Hid (∀ w', Below W2.heap.size W2 w' → _) := fun w' h => resL (cs := #[Value.bool ng, Value.slice Aa ka ca, Value.slice Ab kb cb]) (b := w.heap.size) (t := 32) (by rw [hW2, Below.heap_alloc _ _ _ (by simp <;> omega), Below.heap_alloc _ _ _ (by simp <;> omega)]; have hx := heap_alloc_new w (.cells #[Value.bool ng, Value.slice Aa ka ca, Value.slice Ab kb cb] 32); simpa using hx) h
 have HARG1 : Hid (∀ w', Below W2.heap.size W2 w' → _) := fun w' h => resL (cs := #[Value.bool nh, Value.slice Ac kc cc, Value.slice Ad kd cd]) (b := w.heap.size + 1) (t := 32) (by rw [hW2, Below.heap_alloc _ _ _ (by simp <;> omega)]; have hx := heap_alloc_new (w.alloc (Obj.cells #[Value.bool ng, Value.slice Aa ka ca, Value.slice Ab kb cb] 32)) (.cells #[Value.bool nh, Value.slice Ac kc cc, Value.slice Ad kd cd] 32); simpa using hx) h
 have HRES0 : Hid (∀ w', Below W2.heap.size W2 w' → _) := fun w' h => resL (cs := #[Value.bool false, Value.slice none 0 0, Value.slice none 0 0]) (b := w.heap.size + 2) (t := 32) (by rw [hW2]; have hx := heap_alloc_new ((w.alloc (Obj.cells #[Value.bool ng, Value.slice Aa ka ca, Value.slice Ab kb cb] 32)).alloc (Obj.cells #[Value.bool nh, Value.slice Ac kc cc, Value.slice Ad kd cd] 32)) (.cells #[Value.bool false, Value.slice none 0 0, Value.slice none 0 0] 32); simpa using hx) h
 have HB2W := h0d hb2w
 have HSZ2 := h0d hsz2
 have HW2 := h0d hW2
 have HBs : Hid (Below W2.heap.size W2 W2) := Below.refl _ _
 clear hW2 hb2w hsz2
 go_enter Tryz.func77, Tryz.ntmps77
 go_wp2_with fail
 rw [← HW2.out]
 have HBD1 : Hid (Below W2.heap.size W2 W2.drew) := HBs.out.drew
 have dd0 := HARG0.out _ HBD1.out
 have dd1 := HARG1.out _ HBD1.out
 refine seq_start (S := fun w' => w'.cell? ⟨w.heap.size, 0, none⟩ = some (Value.bool ng) ∧ w'.cell? ⟨w.heap.size, 1, none⟩ = some (Value.slice Aa ka ca) ∧ w'.cell? ⟨w.heap.size, 2, none⟩ = some (Value.slice Ab kb cb) ∧ w'.cell? ⟨w.heap.size + 1, 0, none⟩ = some (Value.bool nh) ∧ w'.cell? ⟨w.heap.size + 1, 1, none⟩ = some (Value.slice Ac kc cc) ∧ w'.cell? ⟨w.heap.size + 1, 2, none⟩ = some (Value.slice Ad kd cd)) (by kernel_rfl) (by kernel_rfl) (by exact ⟨(dd0 0).1, (dd0 1).1, (dd0 2).1, (dd1 0).1, (dd1 1).1, (dd1 2).1⟩) ?_
 clear dd0 dd1
 repeat (first | refine tk0 (h := ?_) | refine tkG (h := ?_) | refine skG (h := ?_))
 refine seq_pull 1 ?_
 simp only [places, pull]
 (first
  | refine tk0 (h := ?_)
  | refine tkG (h := ?_)
  | refine skG (h := ?_))
 refine seq_pull 1 ?_
 simp only [places, pull]
 (first
  | refine tk0 (h := ?_)
  | refine tkG (h := ?_)
  | refine skG (h := ?_))
 refine seq_op (by kernel_rfl) (by rfl) (fun K hK => ?_)
 go_simp
 refine (HU1.out _ (HB2W.out.trans (HBD1.out.mono HB2W.out.size))).mono ?_
 rintro e w3 ⟨⟨v3, rfl, hr3⟩, hbx⟩
 obtain ⟨A3, n3, c3, rfl⟩ := hr3.slice
 have HR3 := h0d hr3
 have HB_w3 : Hid (Below W2.heap.size W2 w3) := HBD1.out.trans (hbx.mono HBD1.out.size)
 have dd0 := HARG0.out _ HB_w3.out
 have dd1 := HARG1.out _ HB_w3.out
 refine hK.out _ _ (by exact ⟨(dd0 0).1, (dd0 1).1, (dd0 2).1, (dd1 0).1, (dd1 1).1, (dd1 2).1⟩) ?_
 clear hK K dd0 dd1 hbx hr3
 repeat (first | refine tk0 (h := ?_) | refine tkG (h := ?_) | refine skG (h := ?_))
 refine seq_op (by kernel_rfl) (by rfl) (fun K hK => ?_)
 go_simp
 refine (HU2.out _ (HB2W.out.trans (HB_w3.out.mono HB2W.out.size))).mono ?_
 rintro e w4 ⟨⟨v4, rfl, hr4⟩, hbx⟩
 obtain ⟨A4, n4, c4, rfl⟩ := hr4.slice
 have HR4 := h0d hr4
 have HR34 := h0d (HR3.out.below hbx)
 have HB_w4 : Hid (Below W2.heap.size W2 w4) := HB_w3.out.trans (hbx.mono HB_w3.out.size)
 have dd0 := HARG0.out _ HB_w4.out
 have dd1 := HARG1.out _ HB_w4.out
 refine hK.out _ _ (by exact ⟨(dd0 0).1, (dd0 1).1, (dd0 2).1, (dd1 0).1, (dd1 1).1, (dd1 2).1⟩) ?_
 clear hK K dd0 dd1 hbx hr4
 repeat (first | refine tk0 (h := ?_) | refine tkG (h := ?_) | refine skG (h := ?_))
 refine seq_done (by kernel_rfl) ?_
 go_wp2_with fail
 have HBD2 : Hid (Below W2.heap.size W2 w4.drew) := HB_w4.out.drew
 have dd0 := HARG0.out _ HBD2.out
 have dd1 := HARG1.out _ HBD2.out
 refine seq_start (S := fun w' => w'.cell? ⟨w.heap.size, 0, none⟩ = some (Value.bool ng) ∧ w'.cell? ⟨w.heap.size, 1, none⟩ = some (Value.slice Aa ka ca) ∧ w'.cell? ⟨w.heap.size, 2, none⟩ = some (Value.slice Ab kb cb) ∧ w'.cell? ⟨w.heap.size + 1, 0, none⟩ = some (Value.bool nh) ∧ w'.cell? ⟨w.heap.size + 1, 1, none⟩ = some (Value.slice Ac kc cc) ∧ w'.cell? ⟨w.heap.size + 1, 2, none⟩ = some (Value.slice Ad kd cd)) (by kernel_rfl) (by kernel_rfl) (by exact ⟨(dd0 0).1, (dd0 1).1, (dd0 2).1, (dd1 0).1, (dd1 1).1, (dd1 2).1⟩) ?_
 clear dd0 dd1
 repeat (first | refine tk0 (h := ?_) | refine tkG (h := ?_) | refine skG (h := ?_))
 refine seq_pull 1 ?_
 simp only [places, pull]
 (first
  | refine tk0 (h := ?_)
  | refine tkG (h := ?_)
  | refine skG (h := ?_))
 refine seq_pull 1 ?_
 simp only [places, pull]
 (first
  | refine tk0 (h := ?_)
  | refine tkG (h := ?_)
  | refine skG (h := ?_))
 refine seq_pull 1 ?_
 simp only [places, pull]
 (first
  | refine tk0 (h := ?_)
  | refine tkG (h := ?_)
  | refine skG (h := ?_))
 refine seq_pull 3 ?_
 simp only [places, pull]
 (first
  | refine tk0 (h := ?_)
  | refine tkG (h := ?_)
  | refine skG (h := ?_))
 refine seq_pull 3 ?_
 simp only [places, pull]
 (first
  | refine tk0 (h := ?_)
  | refine tkG (h := ?_)
  | refine skG (h := ?_))
 refine seq_op (by kernel_rfl) (by rfl) (fun K hK => ?_)
 go_simp
 refine (scaled_any _ _ x.num y.den _ (HZX.out _ (HB2W.out.trans (HBD2.out.mono HB2W.out.size))) (HR4.out.below (by exact (Below.refl _ w4).drew)) (by omega) (by omega)).mono ?_
 rintro e w5 ⟨⟨v5, rfl, hz5⟩, hbx⟩
 obtain ⟨a5, rfl, hr5⟩ := hz5
 obtain ⟨A5, n5, c5, rfl⟩ := hr5.slice
 have HZ5 := h0d (show RdZ w5 _ (x.num * y.den) from ⟨_, rfl, hr5⟩)
 have HB45 : Hid (Below w4.heap.size w4 w5) := ((Below.refl _ w4).drew).trans hbx
 have HB_w5 : Hid (Below W2.heap.size W2 w5) := HBD2.out.trans (hbx.mono HBD2.out.size)
 have dd0 := HARG0.out _ HB_w5.out
 have dd1 := HARG1.out _ HB_w5.out
 refine hK.out _ _ (by exact ⟨(dd0 0).1, (dd0 1).1, (dd0 2).1, (dd1 0).1, (dd1 1).1, (dd1 2).1⟩) ?_
 clear hK K dd0 dd1 hbx hr5
 repeat (first | refine tk0 (h := ?_) | refine tkG (h := ?_) | refine skG (h := ?_))
 refine seq_op (by kernel_rfl) (by rfl) (fun K hK => ?_)
 go_simp
 refine (scaled_any _ _ y.num x.den _ (HZY.out _ (HB2W.out.trans (HB_w5.out.mono HB2W.out.size))) (HR34.out.below HB45.out) (by omega) (by omega)).mono ?_
 rintro e w6 ⟨⟨v6, rfl, hz6⟩, hbx⟩
 obtain ⟨a6, rfl, hr6⟩ := hz6
 obtain ⟨A6, n6, c6, rfl⟩ := hr6.slice
 have HZ6 := h0d (show RdZ w6 _ (y.num * x.den) from ⟨_, rfl, hr6⟩)
 have HZ56 := h0d (HZ5.out.below hbx)
 have HB46 : Hid (Below w4.heap.size w4 w6) := HB45.out.trans (hbx.mono HB45.out.size)
 have HB_w6 : Hid (Below W2.heap.size W2 w6) := HB_w5.out.trans (hbx.mono HB_w5.out.size)
 have dd0 := HARG0.out _ HB_w6.out
 have dd1 := HARG1.out _ HB_w6.out
 refine hK.out _ _ (by exact ⟨(dd0 0).1, (dd0 1).1, (dd0 2).1, (dd1 0).1, (dd1 1).1, (dd1 2).1⟩) ?_
 clear hK K dd0 dd1 hbx hr6
 repeat (first | refine tk0 (h := ?_) | refine tkG (h := ?_) | refine skG (h := ?_))
 refine seq_op (by kernel_rfl) (by rfl) (fun K hK => ?_)
 go_simp
 refine (iplus_any _ _ _ _ _ HZ56.out HZ6.out HP.out.1 HP.out.2.1).mono ?_
 rintro e w7 ⟨⟨v7, rfl, hz7⟩, hbx⟩
 obtain ⟨a7, rfl, hr7⟩ := hz7
 obtain ⟨A7, n7, c7, rfl⟩ := hr7.slice
 have HZ7 := h0d (show RdZ w7 _ (x.num * y.den + y.num * x.den) from ⟨_, rfl, hr7⟩)
 have HB47 : Hid (Below w4.heap.size w4 w7) := HB46.out.trans (hbx.mono HB46.out.size)
 have HB_w7 : Hid (Below W2.heap.size W2 w7) := HB_w6.out.trans (hbx.mono HB_w6.out.size)
 have dd0 := HARG0.out _ HB_w7.out
 have dd1 := HARG1.out _ HB_w7.out
 refine hK.out _ _ (by exact ⟨(dd0 0).1, (dd0 1).1, (dd0 2).1, (dd1 0).1, (dd1 1).1, (dd1 2).1⟩) ?_
 clear hK K dd0 dd1 hbx hr7
 repeat (first | refine tk0 (h := ?_) | refine tkG (h := ?_) | refine skG (h := ?_))
 refine seq_op (by kernel_rfl) (by rfl) (fun K hK => ?_)
 go_simp
 refine (times_any _ _ x.den y.den _ (HR34.out.below HB47.out) (HR4.out.below HB47.out) (by omega) (by omega)).mono ?_
 rintro e w8 ⟨⟨v8, rfl, hr8⟩, hbx⟩
 obtain ⟨A8, n8, c8, rfl⟩ := hr8.slice
 have HR8 := h0d hr8
 have HZ78 := h0d (HZ7.out.below hbx)
 have HB_w8 : Hid (Below W2.heap.size W2 w8) := HB_w7.out.trans (hbx.mono HB_w7.out.size)
 have dd0 := HARG0.out _ HB_w8.out
 have dd1 := HARG1.out _ HB_w8.out
 refine hK.out _ _ (by exact ⟨(dd0 0).1, (dd0 1).1, (dd0 2).1, (dd1 0).1, (dd1 1).1, (dd1 2).1⟩) ?_
 clear hK K dd0 dd1 hbx hr8
 repeat (first | refine tk0 (h := ?_) | refine tkG (h := ?_) | refine skG (h := ?_))
 refine seq_op (by kernel_rfl) (by rfl) (fun K hK => ?_)
 go_simp
 refine (over_any _ _ _ _ _ HZ78.out HR8.out HDE.out HP.out.2.2.1 HP.out.2.2.2).mono ?_
 rintro e w9 ⟨⟨v9, rfl, hz9⟩, hbx⟩
 rw [HADD.out] at hz9
 obtain ⟨a9, b9, rfl, hr9, hs9⟩ := hz9
 obtain ⟨A9, n9, c9, rfl⟩ := hr9.slice
 obtain ⟨B9, m9, k9, rfl⟩ := hs9.slice
 have HR9 := h0d hr9
 have HS9 := h0d hs9
 have HB_w9 : Hid (Below W2.heap.size W2 w9) := HB_w8.out.trans (hbx.mono HB_w8.out.size)
 have dd0 := HARG0.out _ HB_w9.out
 have dd1 := HARG1.out _ HB_w9.out
 refine hK.out _ _ (by exact ⟨(dd0 0).1, (dd0 1).1, (dd0 2).1, (dd1 0).1, (dd1 1).1, (dd1 2).1⟩) ?_
 clear hK K dd0 dd1 hbx hr9 hs9
 repeat (first | refine tk0 (h := ?_) | refine tkG (h := ?_) | refine skG (h := ?_))
 refine seq_op (by kernel_rfl) (by rfl) (fun K hK => ?_)
 have qq := HRES0.out _ HB_w9.out
 have q0 := (qq 0).1
 have q1 := (qq 1).1
 have q2 := (qq 2).1
 have qf0 := (qq 0).2
 have qf1 := (qq 1).2
 have qf2 := (qq 2).2
 simp only [List.getElem?_toArray, List.getElem?_cons_zero, List.getElem?_cons_succ] at q0 q1 q2
 clear qq
 go_simp
 have dd0 := HARG0.out _ HB_w9.out
 have dd1 := HARG1.out _ HB_w9.out
 refine hK.out _ _ (by go_simp; (first | done | exact ⟨(dd0 0).1, (dd0 1).1, (dd0 2).1, (dd1 0).1, (dd1 1).1, (dd1 2).1⟩)) ?_
 clear hK K dd0 dd1
 repeat (first | refine tk0 (h := ?_) | refine tkG (h := ?_) | refine skG (h := ?_))
 refine seq_done (by kernel_rfl) ?_
 go_wp2_with fail
 have hbw := HB2W.out.trans (HB_w9.out.mono HB2W.out.size)
 exact bodyPost_ret (v := .agg #[.bool (decide ((x + y).num < 0)), .slice A9 n9 c9, .slice B9 m9 k9]) (by simp [results, Tryz.results77, go_sem, q0, q1, q2]) rfl ⟨⟨_, rfl, _, _, rfl, HR9.out.set3 q0 q1 q2 _ _ _, HS9.out.set3 q0 q1 q2 _ _ _⟩, ((hbw.setCell (by simp <;> omega) _).setCell (by simp <;> omega) _).setCell (by simp <;> omega) _⟩
end Go.Proofs.YtodckaioeomccaaGreat
