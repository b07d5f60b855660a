/- Walks of the reference's natural numbers: Order, Sum, Difference. Walks of the reference's natural numbers: Difference, byWord. Walks of the reference's natural numbers: Product, byWord. -/
import Derived.Test.YtodckaioeomccaaGreatPart03
import Derived.Test.YtodckaioeomccaaGreatPart22
namespace Go.Proofs.YtodckaioeomccaaGreat
open Go.RowKit
set_option linter.unusedVariables false
set_option linter.unusedSimpArgs false
set_option maxRecDepth 100000 in
set_option maxHeartbeats 2000000 in
theorem rorder_any (va vb : Value) (m n : Nat) (w : World) (ha : RdM w va m) (hb : RdM w vb n) :
  Calls Tryz.prog 190 #[va, vb] w fun e w' => e = .returned (.int .i64 (cmpN m n)) ∧ Below w.heap.size w w' := by
 obtain ⟨A1, k1, c1, rfl, e1, _, _, _, hc1⟩ := RdV.open_ ha
 obtain ⟨A2, k2, c2, rfl, e2, _, _, _, hc2⟩ := RdV.open_ hb
 obtain ⟨r, hr⟩ : ∃ r, r = cmpN m n := ⟨_, rfl⟩
 rw [← hr]
 have HR := h0d hr
 have HC1 := h0d hc1
 have HC2 := h0d hc2
 have hlt1 := digs_lt B32_2 m
 have hlt2 := digs_lt B32_2 n
 have E1 := h0d e1
 have E2 := h0d e2
 have HLT1 := h0d hlt1
 have HLT2 := h0d hlt2
 clear ha hb hc1 hc2 hr hlt1 hlt2 e1 e2
 by_cases hk : k1 = k2
 ·subst hk
  go_enter Tryz.func190, Tryz.ntmps190
  go_wp2_with fail
  go_loopw [5] (fun iv wr => ∃ k : Nat, k ≤ k1 ∧ iv = .int .i64 ((k : Int) - 1) ∧ Hid ((digs B32 m).drop k = (digs B32 n).drop k) ∧ Below w.heap.size w wr) (fun iv _ => (intOf iv + 1).toNat)
  case atStart => exact ⟨k1, Nat.le_refl _, rfl, by show _ = _; rw [List.drop_of_length_le (by rw [E1.out]; exact Nat.le_refl _), List.drop_of_length_le (by rw [E2.out]; exact Nat.le_refl _)], Below.refl _ _⟩
  case round =>
   obtain ⟨k, hk, rfl, HD, hbel⟩ := hrel
   have HBEL := h0d hbel
   clear hbel
   by_cases hk0 : k = 0
   ·have hneg : ¬ ((k : Int) - 1 ≥ 0) := by omega
    have HQ : Hid (r = 0) := by
     show _ = _; rw [HR.out]
     refine cmpN_eq (digs_inj B32_2 ?_)
     have := HD.out
     rw [hk0, List.drop_zero, List.drop_zero] at this
     exact this
    clear hk0
    go_wp2_with fail
    go_ret
    exact ⟨by rw [HQ.out]; rfl, HBEL.out⟩
   ·obtain ⟨j, rfl⟩ : ∃ j, k = j + 1 := ⟨k - 1, by omega⟩
    have hj : (((j + 1 : Nat) : Int) - 1) = (j : Int) := by omega
    rw [hj]
    obtain ⟨b1, f1, x, rfl, hl1, hx, hcx⟩ := HC1.out j (by omega)
    obtain ⟨b2, f2, y, rfl, hl2, hy, hcy⟩ := HC2.out j (by omega)
    have hxB := HLT1.out x (List.mem_of_getElem? hx)
    have hyB := HLT2.out y (List.mem_of_getElem? hy)
    have hji : (j : Int) < (k1 : Int) := by omega
    have hj0 : (0 : Int) ≤ (j : Int) := by omega
    have HCL : Hid (∀ w', Below w.heap.size w w' → w'.cell? ⟨b1, f1 + j, none⟩ = some (.int .u32 (x : Int)) ∧ w'.cell? ⟨b2, f2 + j, none⟩ = some (.int .u32 (y : Int))) := fun w' h =>
     ⟨(h.cell (p := ⟨b1, _, none⟩) hl1).trans hcx, (h.cell (p := ⟨b2, _, none⟩) hl2).trans hcy⟩
    have HBD : Hid (Below w.heap.size w wr.drew) := HBEL.out.drew
    have HBD2 : Hid (Below w.heap.size w wr.drew.drew) := HBEL.out.drew.drew
    have HLS : Hid (x < y → r = -1) := fun h => by
     rw [HR.out]
     refine cmpN_lt ?_
     rw [← val_digs B32_2 m, ← val_digs B32_2 n]
     exact val_le_of B32_2 (by rw [E1.out, E2.out]) hx hy HLT1.out HD.out h
    have HGT : Hid (y < x → r = 1) := fun h => by
     rw [HR.out]
     refine cmpN_gt ?_
     rw [← val_digs B32_2 m, ← val_digs B32_2 n]
     exact val_le_of B32_2 (by rw [E1.out, E2.out]) hy hx HLT2.out HD.out.symm h
    have HEQ : Hid (x = y → (digs B32 m).drop j = (digs B32 n).drop j) := fun h => by
     subst h
     obtain ⟨h1, h2⟩ := List.getElem?_eq_some_iff.1 hx
     obtain ⟨h3, h4⟩ := List.getElem?_eq_some_iff.1 hy
     rw [List.drop_eq_getElem_cons h1, List.drop_eq_getElem_cons h3, HD.out, h2, h4]
    clear hx hy hcx hcy hj hk0 hxB hyB
    rcases Nat.lt_trichotomy x y with h | h | h
    ·have hb1 : decide (x < y) = true := decide_eq_true h
     have HQ := h0d (HLS.out h)
     clear h
     go_wp2_with fail
     refine seq_start (S := fun w' => w'.cell? ⟨b1, f1 + j, none⟩ = some (.int .u32 (x : Int)) ∧ w'.cell? ⟨b2, f2 + j, none⟩ = some (.int .u32 (y : Int))) (by kernel_rfl) (by kernel_rfl) (by exact HCL.out _ HBD.out) ?_
     repeat (first | refine tk0 (h := ?_) | refine tkG (h := ?_) | refine skG (h := ?_))
     refine seq_done (by kernel_rfl) ?_
     go_wp2_with fail
     go_ret
     exact ⟨by rw [HQ.out]; rfl, HBD.out⟩
    ·have hb1 : decide (x < y) = false := decide_eq_false (by omega)
     have hb2 : decide (y < x) = false := decide_eq_false (by omega)
     have HQ := h0d (HEQ.out h)
     clear h
     go_wp2_with fail
     refine seq_start (S := fun w' => w'.cell? ⟨b1, f1 + j, none⟩ = some (.int .u32 (x : Int)) ∧ w'.cell? ⟨b2, f2 + j, none⟩ = some (.int .u32 (y : Int))) (by kernel_rfl) (by kernel_rfl) (by exact HCL.out _ HBD.out) ?_
     repeat (first | refine tk0 (h := ?_) | refine tkG (h := ?_) | refine skG (h := ?_))
     refine seq_done (by kernel_rfl) ?_
     go_wp2_with fail
     refine seq_start (S := fun w' => w'.cell? ⟨b1, f1 + j, none⟩ = some (.int .u32 (x : Int)) ∧ w'.cell? ⟨b2, f2 + j, none⟩ = some (.int .u32 (y : Int))) (by kernel_rfl) (by kernel_rfl) (by exact HCL.out _ HBD2.out) ?_
     repeat (first | refine tk0 (h := ?_) | refine tkG (h := ?_) | refine skG (h := ?_))
     refine seq_done (by kernel_rfl) ?_
     go_wp2_with fail
     go_roundw
     case rel => exact ⟨j, by omega, rfl, HQ.out, HBD2.out⟩
     case measure => simp [intOf]
    ·have hb1 : decide (x < y) = false := decide_eq_false (by omega)
     have hb2 : decide (y < x) = true := decide_eq_true h
     have HQ := h0d (HGT.out h)
     clear h
     go_wp2_with fail
     refine seq_start (S := fun w' => w'.cell? ⟨b1, f1 + j, none⟩ = some (.int .u32 (x : Int)) ∧ w'.cell? ⟨b2, f2 + j, none⟩ = some (.int .u32 (y : Int))) (by kernel_rfl) (by kernel_rfl) (by exact HCL.out _ HBD.out) ?_
     repeat (first | refine tk0 (h := ?_) | refine tkG (h := ?_) | refine skG (h := ?_))
     refine seq_done (by kernel_rfl) ?_
     go_wp2_with fail
     refine seq_start (S := fun w' => w'.cell? ⟨b1, f1 + j, none⟩ = some (.int .u32 (x : Int)) ∧ w'.cell? ⟨b2, f2 + j, none⟩ = some (.int .u32 (y : Int))) (by kernel_rfl) (by kernel_rfl) (by exact HCL.out _ HBD2.out) ?_
     repeat (first | refine tk0 (h := ?_) | refine tkG (h := ?_) | refine skG (h := ?_))
     refine seq_done (by kernel_rfl) ?_
     go_wp2_with fail
     go_ret
     exact ⟨by rw [HQ.out]; rfl, HBD2.out⟩
 ·by_cases hlt : k1 < k2
  ·have hki : (k1 : Int) < (k2 : Int) := by omega
   have HQ : Hid (r = -1) := by show _ = _; rw [HR.out]; exact cmpN_lt (len_lt_val B32_2 (by rw [E1.out, E2.out]; exact hlt))
   clear hk
   go_enter Tryz.func190, Tryz.ntmps190
   go_wp2_with fail
   go_ret
   exact ⟨by rw [HQ.out]; rfl, Below.refl _ _⟩
  ·have hki : ¬ ((k1 : Int) < (k2 : Int)) := by omega
   have HQ : Hid (r = 1) := by show _ = _; rw [HR.out]; exact cmpN_gt (len_lt_val B32_2 (by rw [E1.out, E2.out]; omega))
   have hgt : k2 < k1 := by omega
   clear hk
   go_enter Tryz.func190, Tryz.ntmps190
   go_wp2_with fail
   go_ret
   exact ⟨by rw [HQ.out]; rfl, Below.refl _ _⟩
theorem info119 : (Tryz.prog.info? 271).map (fun i => (i.zero, i.size, i.bytes)) = some (some (.int .u32 0), 1, 4) := by kernel_rfl
def OwnV (w : World) (B : Nat) (v : Value) (xs : List Nat) : Prop := w.ownsRow B 271 1 v xs.length (xs.map u32V)
theorem OwnV.rd {w : World} {B : Nat} {v : Value} {xs : List Nat} (h : OwnV w B v xs) : RdV w v xs := (Rd.of_own (f := u32V) (xs := xs) h).mono fun _ _ => trivial
theorem OwnV.rdS {w : World} {B : Nat} {v : Value} {xs : List Nat} (h : OwnV w B v xs) : Rd u32V w (B ≤ ·) v xs := Rd.of_own (f := u32V) (xs := xs) h
theorem OwnV.made (w : World) : OwnV (w.alloc (.cells #[] 271)) w.heap.size (.slice (some ⟨w.heap.size, 0, none⟩) 0 0) [] := World.ownsRow_made w #[] 0 (Nat.le_refl _) (by decide) rfl
theorem OwnV.slice {w : World} {B : Nat} {v : Value} {xs : List Nat} (h : OwnV w B v xs) : ∃ A c, v = .slice A xs.length c := ownsRow_slice h
theorem getD_lt32 (n k : Nat) : (digs B32 n).getD k 0 < B32 := by
 by_cases h : k < (digs B32 n).length
 ·have e := List.getElem?_eq_getElem h
  rw [getD_of e]; exact digs_lt B32_2 n _ (List.getElem_mem h)
 ·rw [List.getD_eq_getElem?_getD, List.getElem?_eq_none (by omega)]; unfold B32; simp
theorem rsum_step {O am bn : List Nat} {k c B : Nat} (hk : O.length = k) (hB : 0 < B)
  (h : val B O + c * B ^ k = val B (am.take k) + val B (bn.take k)) :
  val B (O ++ [(c + am.getD k 0 + bn.getD k 0) % B]) + ((c + am.getD k 0 + bn.getD k 0) / B) * B ^ (k + 1) = val B (am.take (k + 1)) + val B (bn.take (k + 1)) := by
 obtain ⟨s, hs⟩ : ∃ s, s = c + am.getD k 0 + bn.getD k 0 := ⟨_, rfl⟩
 rw [← hs, val_append, val_one, val_take_getD B am, val_take_getD B bn, hk, Nat.pow_succ]
 have e := Nat.div_add_mod s B
 have e2 : B ^ k * (s % B) + s / B * (B ^ k * B) = s * B ^ k := by
  conv => rhs; rw [← e, Nat.add_mul, Nat.mul_comm (s % B)]
  rw [Nat.add_comm, Nat.mul_comm (B ^ k) B, ← Nat.mul_assoc, Nat.mul_comm (s / B) B]
 have e3 : s * B ^ k = c * B ^ k + am.getD k 0 * B ^ k + bn.getD k 0 * B ^ k := by rw [hs, Nat.add_mul, Nat.add_mul]
 omega
set_option maxRecDepth 100000 in
set_option maxHeartbeats 8000000 in
theorem rsum_any (va vb : Value) (m n : Nat) (w : World) (ha : RdM w va m) (hb : RdM w vb n) (hm : dm m ≤ 2000000) (hn : dm n ≤ 2000000) :
  Calls Tryz.prog 203 #[va, vb] w fun e w' => (∃ v', e = .returned v' ∧ RdM w' v' (m + n)) ∧ Below w.heap.size w w' := by
 obtain ⟨i0, hi0, hz0, hz1, hz2⟩ := info_parts info119
 obtain ⟨A1, k1, c1, rfl, e1, hk1, _, hm1, hc1⟩ := RdV.open_ ha
 obtain ⟨A2, k2, c2, rfl, e2, hk2, _, hm2, hc2⟩ := RdV.open_ hb
 have hk16 : k1 ≤ 2000000 := by unfold dm at hm; omega
 have hk26 : k2 ≤ 2000000 := by unfold dm at hn; omega
 have HE1 := h0d e1
 have HE2 := h0d e2
 have HC1 := h0d hc1
 have HC2 := h0d hc2
 clear ha hb hm hn e1 e2 hc1 hc2
 go_enter Tryz.func203, Tryz.ntmps203
 go_wp2_with fail
 go_loopw [5, 6, 7] (fun ov cv iv wr => ∃ (k c : Nat) (O : List Nat), (k ≤ k1 ∨ k ≤ k2) ∧ c ≤ 1 ∧ cv = .int .u64 (c : Int) ∧ iv = .int .i64 (k : Int) ∧ Hid (O.length = k) ∧ Hid (∀ x ∈ O, x < B32) ∧ Hid (OwnV wr w.heap.size ov O) ∧ Hid (Below w.heap.size w wr) ∧ Hid (val B32 O + c * B32 ^ k = val B32 ((digs B32 m).take k) + val B32 ((digs B32 n).take k))) (fun _ _ iv _ => max k1 k2 - (intOf iv).toNat)
 case atStart => exact ⟨0, 0, [], .inl (Nat.zero_le _), Nat.zero_le _, rfl, rfl, rfl, (by show ∀ x ∈ ([] : List Nat), x < B32; intro x hx; cases hx), OwnV.made w, (Below.refl _ w).alloc (Nat.le_refl _) _, rfl⟩
 case round =>
  obtain ⟨k, c, O, hk, hc, rfl, rfl, HOL, HOX, HOW, HBEL, HV⟩ := hrel
  obtain ⟨A5, c5, rfl⟩ := HOW.out.slice
  rw [HOL.out]
  by_cases hlk : k < k1 ∨ k < k2
  ·have hst := rsum_step (B := B32) (am := digs B32 m) (bn := digs B32 n) HOL.out (by unfold B32; omega) HV.out
   obtain ⟨x, hx⟩ : ∃ x, x = (digs B32 m).getD k 0 := ⟨_, rfl⟩
   obtain ⟨y, hy⟩ : ∃ y, y = (digs B32 n).getD k 0 := ⟨_, rfl⟩
   have hxB : x < B32 := by rw [hx]; exact getD_lt32 m k
   have hyB : y < B32 := by rw [hy]; exact getD_lt32 n k
   rw [← hx, ← hy] at hst
   obtain ⟨s, hs⟩ : ∃ s, s = (c + x + y) % B32 := ⟨_, rfl⟩
   obtain ⟨t, ht⟩ : ∃ t, t = (c + x + y) / B32 := ⟨_, rfl⟩
   rw [← hs, ← ht] at hst
   have hsB : s < B32 := by rw [hs]; exact Nat.mod_lt _ (by unfold B32; omega)
   have ht1 : t ≤ 1 := by rw [ht]; unfold B32 at *; omega
   have hw0 : IntKind.u64.wrap (x : Int) = (x : Int) := wrap_nat x (by unfold B32 at hxB; omega)
   have hw0y : IntKind.u64.wrap (y : Int) = (y : Int) := wrap_nat y (by unfold B32 at hyB; omega)
   obtain ⟨p, hp⟩ : ∃ p, p = c + x := ⟨_, rfl⟩
   have hw1 : IntKind.u64.wrap ((c : Int) + (x : Int)) = (p : Int) := by rw [hp, ← Int.natCast_add]; exact wrap_nat _ (by unfold B32 at hxB; omega)
   obtain ⟨q, hq⟩ : ∃ q, q = p + y := ⟨_, rfl⟩
   have hw2 : IntKind.u64.wrap ((p : Int) + (y : Int)) = (q : Int) := by rw [hq, ← Int.natCast_add]; exact wrap_nat _ (by unfold B32 at hxB hyB; omega)
   have hq' : q = c + x + y := by rw [hq, hp]
   have hc32 : IntKind.u32.wrap (q : Int) = (s : Int) := by rw [IntKind.wrap_u32, hs, hq']; unfold B32; omega
   have hsh : (q : Int) / 4294967296 = (t : Int) := by rw [ht, hq']; unfold B32; omega
   have HST := h0d hst
   have HSB := h0d hsB
   have hkm : k ≤ 2000000 := by omega
   by_cases hA : k < k1
   ·by_cases hBk : k < k2
    ·obtain ⟨b1, f1, x', rfl, hb1, hx', hcx⟩ := HC1.out k hA
     obtain rfl : x' = x := by rw [hx, getD_of hx']
     have hcx' := (HBEL.out.cell (p := ⟨b1, f1 + k, none⟩) hb1).trans hcx
     obtain ⟨b2, f2, y', rfl, hb2, hy', hcy⟩ := HC2.out k hBk
     obtain rfl : y' = y := by rw [hy, getD_of hy']
     have hcy' := (HBEL.out.cell (p := ⟨b2, f2 + k, none⟩) hb2).trans hcy
     clear hx' hcx hy' hcy  hst hs ht hxB hyB hsB hc hp hq hq' hx hy hk
     have HOW1 := h0d (World.ownsRow.alloc HOW.out (.cells #[.int .u32 (s : Int)] 271))
     rw [HOL.out] at HOW1
     have HBE1 : Hid (Below w.heap.size w (wr.alloc (.cells #[.int .u32 (s : Int)] 271))) := HBEL.out.alloc HBEL.out.size _
     go_wp2_with (at_builtin; refine wpList_append_own _ rfl _ _ 38 rfl w.heap.size 271 i0 (.int .u32 0) 1 4 Tryz.underlying38 hi0 hz0 hz1 hz2 rfl (by decide) _ k _ rfl HOW1.out ⟨wr.heap.size, 0, none⟩ 1 1 [.int .u32 (s : Int)] rfl rfl (cells_new wr #[.int .u32 (s : Int)] 271 (0, 0)) (fun u hu => by rw [List.mem_singleton.1 hu]; rfl) (by unfold maxLen; omega) (by omega) (by have := HBEL.out.size; simp; omega) ?_; intro v' w1 hown1 hgrow1 _; have HW1 := h0d hown1; have HG1 := h0d hgrow1; clear hown1 hgrow1)
     go_roundw
     case rel =>
      refine ⟨k + 1, t, O ++ [s], by omega, ht1, rfl, by go_num, by show _ = _; rw [List.length_append, HOL.out]; rfl, fun z hz => ?_, ?_, HBE1.out.grown HG1.out (by have := HBEL.out.size; simp; omega) (fun g hg => (HOW1.out.lt g hg).1), HST.out⟩
      ·rcases List.mem_append.1 hz with h | h
       ·exact HOX.out z h
       ·rw [List.mem_singleton.1 h]; exact HSB.out
      ·have h := HW1.out
       unfold OwnV
       rw [List.length_append, HOL.out, List.map_append]; exact h
     case measure => simp [intOf]; omega
    ·obtain ⟨b1, f1, x', rfl, hb1, hx', hcx⟩ := HC1.out k hA
     obtain rfl : x' = x := by rw [hx, getD_of hx']
     have hcx' := (HBEL.out.cell (p := ⟨b1, f1 + k, none⟩) hb1).trans hcx
     obtain rfl : y = 0 := by rw [hy, List.getD_eq_getElem?_getD, List.getElem?_eq_none (by have := HE2.out; omega)]; rfl
     obtain rfl : q = p := by rw [hq, Nat.add_zero]
     clear hx' hcx hw2  hst hs ht hxB hyB hsB hc hp hq hq' hx hy hk
     have HOW1 := h0d (World.ownsRow.alloc HOW.out (.cells #[.int .u32 (s : Int)] 271))
     rw [HOL.out] at HOW1
     have HBE1 : Hid (Below w.heap.size w (wr.alloc (.cells #[.int .u32 (s : Int)] 271))) := HBEL.out.alloc HBEL.out.size _
     go_wp2_with (at_builtin; refine wpList_append_own _ rfl _ _ 38 rfl w.heap.size 271 i0 (.int .u32 0) 1 4 Tryz.underlying38 hi0 hz0 hz1 hz2 rfl (by decide) _ k _ rfl HOW1.out ⟨wr.heap.size, 0, none⟩ 1 1 [.int .u32 (s : Int)] rfl rfl (cells_new wr #[.int .u32 (s : Int)] 271 (0, 0)) (fun u hu => by rw [List.mem_singleton.1 hu]; rfl) (by unfold maxLen; omega) (by omega) (by have := HBEL.out.size; simp; omega) ?_; intro v' w1 hown1 hgrow1 _; have HW1 := h0d hown1; have HG1 := h0d hgrow1; clear hown1 hgrow1)
     go_roundw
     case rel =>
      refine ⟨k + 1, t, O ++ [s], by omega, ht1, rfl, by go_num, by show _ = _; rw [List.length_append, HOL.out]; rfl, fun z hz => ?_, ?_, HBE1.out.grown HG1.out (by have := HBEL.out.size; simp; omega) (fun g hg => (HOW1.out.lt g hg).1), HST.out⟩
      ·rcases List.mem_append.1 hz with h | h
       ·exact HOX.out z h
       ·rw [List.mem_singleton.1 h]; exact HSB.out
      ·have h := HW1.out
       unfold OwnV
       rw [List.length_append, HOL.out, List.map_append]; exact h
     case measure => simp [intOf]; omega
   ·have hBk : k < k2 := by omega
    obtain rfl : x = 0 := by rw [hx, List.getD_eq_getElem?_getD, List.getElem?_eq_none (by have := HE1.out; omega)]; rfl
    obtain rfl : p = c := by rw [hp, Nat.add_zero]
    obtain ⟨b2, f2, y', rfl, hb2, hy', hcy⟩ := HC2.out k hBk
    obtain rfl : y' = y := by rw [hy, getD_of hy']
    have hcy' := (HBEL.out.cell (p := ⟨b2, f2 + k, none⟩) hb2).trans hcy
    clear hw1 hy' hcy  hst hs ht hxB hyB hsB hc hp hq hq' hx hy hk
    have HOW1 := h0d (World.ownsRow.alloc HOW.out (.cells #[.int .u32 (s : Int)] 271))
    rw [HOL.out] at HOW1
    have HBE1 : Hid (Below w.heap.size w (wr.alloc (.cells #[.int .u32 (s : Int)] 271))) := HBEL.out.alloc HBEL.out.size _
    go_wp2_with (at_builtin; refine wpList_append_own _ rfl _ _ 38 rfl w.heap.size 271 i0 (.int .u32 0) 1 4 Tryz.underlying38 hi0 hz0 hz1 hz2 rfl (by decide) _ k _ rfl HOW1.out ⟨wr.heap.size, 0, none⟩ 1 1 [.int .u32 (s : Int)] rfl rfl (cells_new wr #[.int .u32 (s : Int)] 271 (0, 0)) (fun u hu => by rw [List.mem_singleton.1 hu]; rfl) (by unfold maxLen; omega) (by omega) (by have := HBEL.out.size; simp; omega) ?_; intro v' w1 hown1 hgrow1 _; have HW1 := h0d hown1; have HG1 := h0d hgrow1; clear hown1 hgrow1)
    go_roundw
    case rel =>
     refine ⟨k + 1, t, O ++ [s], by omega, ht1, rfl, by go_num, by show _ = _; rw [List.length_append, HOL.out]; rfl, fun z hz => ?_, ?_, HBE1.out.grown HG1.out (by have := HBEL.out.size; simp; omega) (fun g hg => (HOW1.out.lt g hg).1), HST.out⟩
     ·rcases List.mem_append.1 hz with h | h
      ·exact HOX.out z h
      ·rw [List.mem_singleton.1 h]; exact HSB.out
     ·have h := HW1.out
      unfold OwnV
      rw [List.length_append, HOL.out, List.map_append]; exact h
    case measure => simp [intOf]; omega
  ·have hkk : ¬ k < k1 ∧ ¬ k < k2 := by omega
   obtain ⟨hn1, hn2⟩ := hkk
   have hkm : k ≤ 2000000 := by omega
   obtain ⟨xs, hxs⟩ : ∃ xs, xs = O ++ [c] := ⟨_, rfl⟩
   have HXX : Hid (∀ x ∈ xs, x < B32) := fun z hz => by
    rw [hxs] at hz
    rcases List.mem_append.1 hz with h | h
    ·exact HOX.out z h
    ·rw [List.mem_singleton.1 h]; unfold B32; omega
   have HXV : Hid (val B32 xs = m + n) := by
    show _ = _
    have h1 := HV.out
    rw [List.take_of_length_le (by rw [HE1.out]; omega), List.take_of_length_le (by rw [HE2.out]; omega), val_digs B32_2, val_digs B32_2] at h1
    rw [hxs, val_append, val_one, HOL.out, Nat.mul_comm (B32 ^ k)]; exact h1
   have hc32 : IntKind.u32.wrap (c : Int) = (c : Int) := by rw [IntKind.wrap_u32]; omega
   have HXS := h0d hxs
   have HOW1 := h0d (World.ownsRow.alloc HOW.out (.cells #[.int .u32 (c : Int)] 271))
   rw [HOL.out] at HOW1
   have HBE1 : Hid (Below w.heap.size w (wr.alloc (.cells #[.int .u32 (c : Int)] 271))) := HBEL.out.alloc HBEL.out.size _
   clear hxs hc hk hlk
   go_wp2_with (at_builtin; refine wpList_append_own _ rfl _ _ 38 rfl w.heap.size 271 i0 (.int .u32 0) 1 4 Tryz.underlying38 hi0 hz0 hz1 hz2 rfl (by decide) _ k _ rfl HOW1.out ⟨wr.heap.size, 0, none⟩ 1 1 [.int .u32 (c : Int)] rfl rfl (cells_new wr #[.int .u32 (c : Int)] 271 (0, 0)) (fun u hu => by rw [List.mem_singleton.1 hu]; rfl) (by unfold maxLen; omega) (by omega) (by have := HBEL.out.size; simp; omega) ?_; intro v' w1 hown1 hgrow1 _; have HW1 := h0d hown1; have HG1 := h0d hgrow1; clear hown1 hgrow1)
   have hOV : OwnV w1 w.heap.size v' xs := by
    have h := HW1.out
    unfold OwnV
    rw [HXS.out, List.length_append, HOL.out, List.map_append]; exact h
   refine (rcut_num v' xs w1 hOV.rd HXX.out).mono ?_
   rintro e w2 ⟨⟨v2, rfl, hr⟩, rfl⟩
   rw [HXV.out] at hr
   have HR := h0d hr
   clear hr hOV
   go_wp2_with fail
   go_ret
   exact ⟨⟨_, rfl, HR.out⟩, HBE1.out.grown HG1.out (by have := HBEL.out.size; simp; omega) (fun g hg => (HOW1.out.lt g hg).1)⟩
end Go.Proofs.YtodckaioeomccaaGreat
namespace Go.Proofs.YtodckaioeomccaaGreat
open Go.RowKit
set_option linter.unusedVariables false
set_option linter.unusedSimpArgs false
theorem rdiff_step {O am bn : List Nat} {k c x y B d e : Nat} (hk : O.length = k) (hx : am.getD k 0 = x) (hy : bn.getD k 0 = y) (hd : d + y + c = x + e * B)
  (h : val B O + val B (bn.take k) = val B (am.take k) + c * B ^ k) :
  val B (O ++ [d]) + val B (bn.take (k + 1)) = val B (am.take (k + 1)) + e * B ^ (k + 1) := by
 rw [val_append, val_one, val_take_getD B am, val_take_getD B bn, hx, hy, hk, Nat.pow_succ]
 have e1 : (d + y + c) * B ^ k = (x + e * B) * B ^ k := by rw [hd]
 rw [Nat.add_mul, Nat.add_mul, Nat.add_mul, Nat.mul_assoc e, Nat.mul_comm B] at e1
 rw [Nat.mul_comm (B ^ k) d]
 omega
set_option maxRecDepth 100000 in
set_option maxHeartbeats 8000000 in
theorem rdiff_own (va vb : Value) (m n : Nat) (w : World) (ha : RdM w va m) (hb : RdM w vb n) (hm : dm m ≤ 2000000) (hle : n ≤ m) :
  Calls Tryz.prog 204 #[va, vb] w fun e w' => (∃ v', e = .returned v' ∧ RdMS w' (w.heap.size ≤ ·) v' (m - n)) ∧ Below w.heap.size w w' := by
 obtain ⟨i0, hi0, hz0, hz1, hz2⟩ := info_parts info119
 have hdl := dm_mono hle
 obtain ⟨A1, k1, c1, rfl, e1, hk1, _, hm1, hc1⟩ := RdV.open_ ha
 obtain ⟨A2, k2, c2, rfl, e2, hk2, _, hm2, hc2⟩ := RdV.open_ hb
 have hk16 : k1 ≤ 2000000 := by unfold dm at hm; omega
 have hk21 : k2 ≤ k1 := by unfold dm at hdl; omega
 have HE1 := h0d e1
 have HE2 := h0d e2
 have HC1 := h0d hc1
 have HC2 := h0d hc2
 have HLE := h0d hle
 clear ha hb hm e1 e2 hc1 hc2 hle hdl
 go_enter Tryz.func204, Tryz.ntmps204
 go_wp2_with fail
 go_loopw [5, 6, 7] (fun ov cv iv wr => ∃ (k c : Nat) (O : List Nat), k ≤ k1 ∧ c ≤ 1 ∧ cv = .int .i64 (c : Int) ∧ iv = .int .i64 (k : Int) ∧ Hid (O.length = k) ∧ Hid (∀ x ∈ O, x < B32) ∧ Hid (OwnV wr w.heap.size ov O) ∧ Hid (Below w.heap.size w wr) ∧ Hid (val B32 O + val B32 ((digs B32 n).take k) = val B32 ((digs B32 m).take k) + c * B32 ^ k)) (fun _ _ iv _ => k1 - (intOf iv).toNat)
 case atStart => exact ⟨0, 0, [], Nat.zero_le _, Nat.zero_le _, rfl, rfl, rfl, (by show ∀ x ∈ ([] : List Nat), x < B32; intro x hx; cases hx), OwnV.made w, (Below.refl _ w).alloc (Nat.le_refl _) _, by show _ = _; simp [val]⟩
 case round =>
  obtain ⟨k, c, O, hk, hc, rfl, rfl, HOL, HOX, HOW, HBEL, HV⟩ := hrel
  obtain ⟨A5, c5, rfl⟩ := HOW.out.slice
  rw [HOL.out]
  by_cases hlk : k < k1
  ·obtain ⟨b1, f1, x, rfl, hb1, hx, hcx⟩ := HC1.out k hlk
   have hxB : x < 4294967296 := digs_lt B32_2 m x (List.mem_of_getElem? hx)
   have hcx' := (HBEL.out.cell (p := ⟨b1, f1 + k, none⟩) hb1).trans hcx
   obtain ⟨y, hy⟩ : ∃ y, y = (digs B32 n).getD k 0 := ⟨_, rfl⟩
   have hyB : y < 4294967296 := by rw [hy]; exact getD_lt32 n k
   obtain ⟨D1, hD1⟩ : ∃ D : Int, D = (x : Int) - (c : Int) := ⟨_, rfl⟩
   have hd1a : -1 ≤ D1 := by omega
   have hd1b : D1 ≤ 4294967296 := by omega
   have hD1' := hD1.symm
   have hST := fun d e hd => rdiff_step (d := d) (e := e) HOL.out (getD_of hx) hy.symm hd HV.out
   have HSTP := h0d hST
   clear hST
   by_cases hBk : k < k2
   ·obtain ⟨b2, f2, y', rfl, hb2, hy', hcy⟩ := HC2.out k hBk
    obtain rfl : y' = y := by rw [hy, getD_of hy']
    have hcy' := (HBEL.out.cell (p := ⟨b2, f2 + k, none⟩) hb2).trans hcy
    by_cases hneg : D1 - (y' : Int) < 0
    ·obtain ⟨s, hs⟩ : ∃ s : Nat, (s : Int) = D1 - y' + 4294967296 := ⟨(D1 - y' + 4294967296).toNat, by omega⟩
     have HST := h0d (HSTP.out s 1 (by unfold B32; omega))
     have HSB : Hid (s < B32) := by show _ < _; unfold B32; omega
     have hc32 : IntKind.u32.wrap (s : Int) = (s : Int) := by rw [IntKind.wrap_u32]; omega
     obtain ⟨D2, hD2⟩ : ∃ D : Int, D = D1 - (y' : Int) := ⟨_, rfl⟩
     have hd2a : -4294967297 ≤ D2 := by omega
     have hd2b : D2 < 0 := by omega
     have hD2' := hD2.symm
     have hs' : D2 + 4294967296 = (s : Int) := by omega
     clear hD2 hs
     clear hD1 hx hcx hy hy' hcy hneg HSTP
     have HOW1 := h0d (World.ownsRow.alloc HOW.out (.cells #[.int .u32 (s : Int)] 271))
     rw [HOL.out] at HOW1
     have HBE1 : Hid (Below w.heap.size w (wr.alloc (.cells #[.int .u32 (s : Int)] 271))) := HBEL.out.alloc HBEL.out.size _
     go_wp2_with (at_builtin; refine wpList_append_own _ rfl _ _ 38 rfl w.heap.size 271 i0 (.int .u32 0) 1 4 Tryz.underlying38 hi0 hz0 hz1 hz2 rfl (by decide) _ k _ rfl HOW1.out ⟨wr.heap.size, 0, none⟩ 1 1 [.int .u32 (s : Int)] rfl rfl (cells_new wr #[.int .u32 (s : Int)] 271 (0, 0)) (fun u hu => by rw [List.mem_singleton.1 hu]; rfl) (by unfold maxLen; omega) (by omega) (by have := HBEL.out.size; simp; omega) ?_; intro v' w1 hown1 hgrow1 _; have HW1 := h0d hown1; have HG1 := h0d hgrow1; clear hown1 hgrow1)
     go_roundw
     case rel =>
      refine ⟨k + 1, 1, O ++ [s], by omega, by omega, rfl, by go_num, by show _ = _; rw [List.length_append, HOL.out]; rfl, fun z hz => ?_, ?_, HBE1.out.grown HG1.out (by have := HBEL.out.size; simp; omega) (fun g hg => (HOW1.out.lt g hg).1), HST.out⟩
      ·rcases List.mem_append.1 hz with h | h
       ·exact HOX.out z h
       ·rw [List.mem_singleton.1 h]; exact HSB.out
      ·have h := HW1.out
       unfold OwnV
       rw [List.length_append, HOL.out, List.map_append]; exact h
     case measure => simp [intOf]; omega
    ·obtain ⟨s, hs⟩ : ∃ s : Nat, (s : Int) = D1 - y' := ⟨(D1 - y').toNat, by omega⟩
     have HST := h0d (HSTP.out s 0 (by omega))
     have HSB : Hid (s < B32) := by show _ < _; unfold B32; omega
     have hc32 : IntKind.u32.wrap (s : Int) = (s : Int) := by rw [IntKind.wrap_u32]; omega
     have hs' : D1 - (y' : Int) = (s : Int) := hs.symm
     have hsn : ¬ ((s : Int) < 0) := by omega
     clear hs
     clear hD1 hx hcx hy hy' hcy hneg HSTP
     have HOW1 := h0d (World.ownsRow.alloc HOW.out (.cells #[.int .u32 (s : Int)] 271))
     rw [HOL.out] at HOW1
     have HBE1 : Hid (Below w.heap.size w (wr.alloc (.cells #[.int .u32 (s : Int)] 271))) := HBEL.out.alloc HBEL.out.size _
     go_wp2_with (at_builtin; refine wpList_append_own _ rfl _ _ 38 rfl w.heap.size 271 i0 (.int .u32 0) 1 4 Tryz.underlying38 hi0 hz0 hz1 hz2 rfl (by decide) _ k _ rfl HOW1.out ⟨wr.heap.size, 0, none⟩ 1 1 [.int .u32 (s : Int)] rfl rfl (cells_new wr #[.int .u32 (s : Int)] 271 (0, 0)) (fun u hu => by rw [List.mem_singleton.1 hu]; rfl) (by unfold maxLen; omega) (by omega) (by have := HBEL.out.size; simp; omega) ?_; intro v' w1 hown1 hgrow1 _; have HW1 := h0d hown1; have HG1 := h0d hgrow1; clear hown1 hgrow1)
     go_roundw
     case rel =>
      refine ⟨k + 1, 0, O ++ [s], by omega, by omega, rfl, by go_num, by show _ = _; rw [List.length_append, HOL.out]; rfl, fun z hz => ?_, ?_, HBE1.out.grown HG1.out (by have := HBEL.out.size; simp; omega) (fun g hg => (HOW1.out.lt g hg).1), HST.out⟩
      ·rcases List.mem_append.1 hz with h | h
       ·exact HOX.out z h
       ·rw [List.mem_singleton.1 h]; exact HSB.out
      ·have h := HW1.out
       unfold OwnV
       rw [List.length_append, HOL.out, List.map_append]; exact h
     case measure => simp [intOf]; omega
   ·obtain rfl : y = 0 := by rw [hy, List.getD_eq_getElem?_getD, List.getElem?_eq_none (by have := HE2.out; omega)]; rfl
    by_cases hneg : D1 < 0
    ·obtain ⟨s, hs⟩ : ∃ s : Nat, (s : Int) = D1 + 4294967296 := ⟨(D1 + 4294967296).toNat, by omega⟩
     have HST := h0d (HSTP.out s 1 (by unfold B32; omega))
     have HSB : Hid (s < B32) := by show _ < _; unfold B32; omega
     have hc32 : IntKind.u32.wrap (s : Int) = (s : Int) := by rw [IntKind.wrap_u32]; omega
     have hs' : D1 + 4294967296 = (s : Int) := hs.symm
     clear hs
     clear hD1 hx hcx hy HSTP
     have HOW1 := h0d (World.ownsRow.alloc HOW.out (.cells #[.int .u32 (s : Int)] 271))
     rw [HOL.out] at HOW1
     have HBE1 : Hid (Below w.heap.size w (wr.alloc (.cells #[.int .u32 (s : Int)] 271))) := HBEL.out.alloc HBEL.out.size _
     go_wp2_with (at_builtin; refine wpList_append_own _ rfl _ _ 38 rfl w.heap.size 271 i0 (.int .u32 0) 1 4 Tryz.underlying38 hi0 hz0 hz1 hz2 rfl (by decide) _ k _ rfl HOW1.out ⟨wr.heap.size, 0, none⟩ 1 1 [.int .u32 (s : Int)] rfl rfl (cells_new wr #[.int .u32 (s : Int)] 271 (0, 0)) (fun u hu => by rw [List.mem_singleton.1 hu]; rfl) (by unfold maxLen; omega) (by omega) (by have := HBEL.out.size; simp; omega) ?_; intro v' w1 hown1 hgrow1 _; have HW1 := h0d hown1; have HG1 := h0d hgrow1; clear hown1 hgrow1)
     go_roundw
     case rel =>
      refine ⟨k + 1, 1, O ++ [s], by omega, by omega, rfl, by go_num, by show _ = _; rw [List.length_append, HOL.out]; rfl, fun z hz => ?_, ?_, HBE1.out.grown HG1.out (by have := HBEL.out.size; simp; omega) (fun g hg => (HOW1.out.lt g hg).1), HST.out⟩
      ·rcases List.mem_append.1 hz with h | h
       ·exact HOX.out z h
       ·rw [List.mem_singleton.1 h]; exact HSB.out
      ·have h := HW1.out
       unfold OwnV
       rw [List.length_append, HOL.out, List.map_append]; exact h
     case measure => simp [intOf]; omega
    ·obtain ⟨s, hs⟩ : ∃ s : Nat, (s : Int) = D1 := ⟨(D1).toNat, by omega⟩
     have HST := h0d (HSTP.out s 0 (by omega))
     have HSB : Hid (s < B32) := by show _ < _; unfold B32; omega
     have hc32 : IntKind.u32.wrap (s : Int) = (s : Int) := by rw [IntKind.wrap_u32]; omega
     obtain rfl : D1 = (s : Int) := hs.symm
     clear hs
     clear hD1 hx hcx hy HSTP
     have HOW1 := h0d (World.ownsRow.alloc HOW.out (.cells #[.int .u32 (s : Int)] 271))
     rw [HOL.out] at HOW1
     have HBE1 : Hid (Below w.heap.size w (wr.alloc (.cells #[.int .u32 (s : Int)] 271))) := HBEL.out.alloc HBEL.out.size _
     go_wp2_with (at_builtin; refine wpList_append_own _ rfl _ _ 38 rfl w.heap.size 271 i0 (.int .u32 0) 1 4 Tryz.underlying38 hi0 hz0 hz1 hz2 rfl (by decide) _ k _ rfl HOW1.out ⟨wr.heap.size, 0, none⟩ 1 1 [.int .u32 (s : Int)] rfl rfl (cells_new wr #[.int .u32 (s : Int)] 271 (0, 0)) (fun u hu => by rw [List.mem_singleton.1 hu]; rfl) (by unfold maxLen; omega) (by omega) (by have := HBEL.out.size; simp; omega) ?_; intro v' w1 hown1 hgrow1 _; have HW1 := h0d hown1; have HG1 := h0d hgrow1; clear hown1 hgrow1)
     go_roundw
     case rel =>
      refine ⟨k + 1, 0, O ++ [s], by omega, by omega, rfl, by go_num, by show _ = _; rw [List.length_append, HOL.out]; rfl, fun z hz => ?_, ?_, HBE1.out.grown HG1.out (by have := HBEL.out.size; simp; omega) (fun g hg => (HOW1.out.lt g hg).1), HST.out⟩
      ·rcases List.mem_append.1 hz with h | h
       ·exact HOX.out z h
       ·rw [List.mem_singleton.1 h]; exact HSB.out
      ·have h := HW1.out
       unfold OwnV
       rw [List.length_append, HOL.out, List.map_append]; exact h
     case measure => simp [intOf]; omega
  ·obtain rfl : k = k1 := by omega
   have HXV : Hid (val B32 O = m - n) := by
    show _ = _
    have h1 := HV.out
    rw [List.take_of_length_le (by rw [HE2.out]; omega), List.take_of_length_le (by rw [HE1.out]; omega), val_digs B32_2, val_digs B32_2] at h1
    have h2 := val_lt (b := B32) (by unfold B32; omega) HOX.out
    rw [HOL.out] at h2
    have h3 := HLE.out
    have hc0 : c = 0 := by
     rcases Nat.eq_zero_or_pos c with h0 | h0
     ·exact h0
     ·have : c = 1 := by omega
      subst this; omega
    subst hc0; omega
   have HCUT := h0d (rcut_numS _ _ O wr HOW.out.rdS HOX.out)
   rw [HXV.out, HOL.out] at HCUT
   clear hc hlk
   go_wp2_with (go_at_call 245; refine HCUT.out.mono ?_; rintro e w2 ⟨⟨v', rfl, hr⟩, rfl⟩; have HR := h0d hr; clear hr)
   go_ret
   exact ⟨⟨_, rfl, HR.out⟩, HBEL.out⟩
theorem rdiff_any (va vb : Value) (m n : Nat) (w : World) (ha : RdM w va m) (hb : RdM w vb n) (hm : dm m ≤ 2000000) (hle : n ≤ m) :
  Calls Tryz.prog 204 #[va, vb] w fun e w' => (∃ v', e = .returned v' ∧ RdM w' v' (m - n)) ∧ Below w.heap.size w w' :=
 (rdiff_own va vb m n w ha hb hm hle).mono fun e w' ⟨⟨v', h1, h2⟩, h3⟩ => ⟨⟨v', h1, h2.all⟩, h3⟩
end Go.Proofs.YtodckaioeomccaaGreat
namespace Go.Proofs.YtodckaioeomccaaGreat
open Go.RowKit
set_option linter.unusedVariables false
set_option linter.unusedSimpArgs false
def BlkV (w : World) (g : Nat) (xs : List Nat) : Prop := w.heap[g]? = some (.cells (xs.map u32V).toArray 271 (0, 0))
theorem BlkV.lt {w : World} {g : Nat} {xs : List Nat} (h : BlkV w g xs) : g < w.heap.size := (Array.getElem?_eq_some_iff.1 h).1
theorem BlkV.cell {w : World} {g : Nat} {xs : List Nat} {i x : Nat} (h : BlkV w g xs) (hx : xs[i]? = some x) : w.cell? ⟨g, i, none⟩ = some (.int .u32 (x : Int)) := by
 rw [cell_of_row w g i _ 271 (0, 0) h, List.getElem?_toArray, List.getElem?_map, hx]; rfl
theorem BlkV.frozen {w : World} {g : Nat} {xs : List Nat} (h : BlkV w g xs) (i : Nat) : w.frozen? ⟨g, i, none⟩ = false := frozen_of_row w g i _ 271 h
theorem BlkV.set_ {w : World} {g : Nat} {xs : List Nat} (h : BlkV w g xs) (i y : Nat) : BlkV (w.setCell ⟨g, i, none⟩ (.int .u32 (y : Int))) g (xs.set i y) := by
 have := heap_setCell_same w g i _ 271 (.int .u32 (y : Int)) h
 unfold BlkV
 rw [this]
 congr 1
 rw [List.map_set, List.setIfInBounds_toArray]; rfl
theorem BlkV.drew {w : World} {g : Nat} {xs : List Nat} (h : BlkV w g xs) : BlkV w.drew g xs := h
theorem BlkV.below {w w' : World} {g : Nat} {xs : List Nat} (h : BlkV w g xs) (hb : Below w.heap.size w w') : BlkV w' g xs := (hb.block g h.lt).trans h
theorem madeWords32 (n : Nat) : (madeCells (Value.int .u32 0).cells (n * 1)) = ((List.replicate n 0).map u32V).toArray := by
 rw [Nat.mul_one]
 apply Array.ext'
 have : ∀ x : Nat, x % 1 = 0 := fun x => Nat.mod_one x
 simp [madeCells, Value.cells, u32V, this]
 refine List.ext_getElem (by simp) fun i h1 h2 => by simp
theorem BlkV.new (w : World) (xs : List Nat) : BlkV (w.alloc (.cells (xs.map u32V).toArray 271)) w.heap.size xs := heap_alloc_new w _
theorem BlkV.own {w : World} {g base n : Nat} {xs : List Nat} (h : BlkV w g xs) (hb : base ≤ g) (hn : n ≤ xs.length) (hm : xs.length ≤ maxLen) : w.ownsRow base 271 1 (.slice (some ⟨g, 0, none⟩) n xs.length) n ((xs.take n).map u32V) :=
 ⟨by simp; omega, .inr ⟨g, xs.length, _, rfl, hb, h, by omega, hm, by simp, by simp⟩⟩
theorem BlkV.rd {w : World} {g off n cap : Nat} {xs : List Nat} (h : BlkV w g xs) (hn : off + n ≤ xs.length) (hc : n ≤ cap) (hm : cap ≤ maxLen) : RdV w (.slice (some ⟨g, off, none⟩) n cap) ((xs.drop off).take n) := by
 have hl : ((xs.drop off).take n).length = n := by simp; omega
 refine ⟨some ⟨g, off, none⟩, cap, by rw [hl], by omega, hm, fun _ => ⟨g, off, rfl, trivial, fun i hi => ?_⟩⟩
 rw [hl] at hi
 rw [h.cell (i := off + i) (x := xs[off + i]'(by omega)) (List.getElem?_eq_getElem (by omega))]
 simp [u32V]
theorem BlkV.rd0 {w : World} {g n cap : Nat} {xs : List Nat} (h : BlkV w g xs) (hn : n = xs.length) (hc : n ≤ cap) (hm : cap ≤ maxLen) : RdV w (.slice (some ⟨g, 0, none⟩) n cap) xs := by
 have := h.rd (off := 0) (n := n) (by omega) hc hm
 rwa [List.drop_zero, List.take_of_length_le (by omega)] at this
theorem BlkV.rd0S {w : World} {g n cap B : Nat} {xs : List Nat} (h : BlkV w g xs) (hB : B ≤ g) (hn : n = xs.length) (hc : n ≤ cap) (hm : cap ≤ maxLen) : Rd u32V w (B ≤ ·) (.slice (some ⟨g, 0, none⟩) n cap) xs := by
 refine ⟨some ⟨g, 0, none⟩, cap, by rw [hn], by omega, hm, fun _ => ⟨g, 0, rfl, hB, fun i hi => ?_⟩⟩
 rw [h.cell (i := 0 + i) (x := xs[i]) (by rw [Nat.zero_add]; exact List.getElem?_eq_getElem hi)]; rfl
theorem make_words32 (n c : Nat) (hnc : n ≤ c) (hc : c ≤ 4000000) (w : World) :
  (Instr.makeSlice 38 (.int .i64 (n : Int)) (.int .i64 (c : Int))).run Tryz.prog w = .ok (.slice (some ⟨w.heap.size, 0, none⟩) n c) (w.alloc (.cells ((List.replicate c 0).map u32V).toArray 271)) := by
 obtain ⟨i0, hi, hz0, hz1, hz2⟩ := info_parts info119
 rw [run_make_rowN 38 271 i0 (.int .u32 0) Tryz.underlying38 hi hz0 .i64 .i64 n c hnc (by rw [hz2]; omega) (by omega) w, hz1, madeWords32]
set_option maxRecDepth 100000 in
set_option maxHeartbeats 8000000 in
theorem rprod_own (va vb : Value) (m n : Nat) (w : World) (hP : RdM w va m) (hQ : RdM w vb n) (hm6 : dm m ≤ 1900000) (hn6 : dm n ≤ 1900000) :
  Calls Tryz.prog 201 #[va, vb] w fun e w' => (∃ v', e = .returned v' ∧ RdMS w' (w.heap.size ≤ ·) v' (m * n)) ∧ Below w.heap.size w w' := by
 have hmk := make_words32
 obtain ⟨A1, k1, c1, rfl, e1, hk1, _, hm1, hc1⟩ := RdV.open_ hP
 obtain ⟨A2, k2, c2, rfl, e2, hk2, _, hm2, hc2⟩ := RdV.open_ hQ
 have hk16 : k1 ≤ 1900000 := by unfold dm at hm6; omega
 have hk26 : k2 ≤ 1900000 := by unfold dm at hn6; omega
 have HE1 := h0d e1
 have HE2 := h0d e2
 have HC1 := h0d hc1
 have HC2 := h0d hc2
 have HMK := hmk (k1 + k2) (k1 + k2) (Nat.le_refl _) (by omega)
 obtain ⟨C0, hC0⟩ : ∃ C, C = ((List.replicate (k1 + k2) 0).map u32V).toArray := ⟨_, rfl⟩
 rw [← hC0, show ((k1 + k2 : Nat) : Int) = (k1 : Int) + (k2 : Int) by omega] at HMK
 have HB0 : Hid (BlkV (w.alloc (.cells C0 271)) w.heap.size (List.replicate (k1 + k2) 0)) := by rw [hC0]; exact BlkV.new w _
 clear hmk e1 e2 hc1 hc2 hP hQ hm6 hn6 hC0
 go_enter Tryz.func201, Tryz.ntmps201
 go_wp2_with fail
 go_loopw [6] (fun iv wr => ∃ (i : Nat) (O : List Nat), i ≤ k1 ∧ iv = .int .i64 (i : Int) ∧ Hid (O.length = k1 + k2) ∧ Hid (∀ x ∈ O, x < B32) ∧ Hid (∀ j, i + k2 ≤ j → O.getD j 0 = 0) ∧ Hid (BlkV wr w.heap.size O) ∧ Hid (Below w.heap.size w wr) ∧ Hid (val B32 O = val B32 ((digs B32 m).take i) * n)) (fun iv _ => k1 - (intOf iv).toNat)
 case atStart =>
  refine ⟨0, List.replicate (k1 + k2) 0, Nat.zero_le _, rfl, by show _ = _; simp, fun x hx => ?_, fun j hj => ?_, HB0, (Below.refl _ w).alloc (Nat.le_refl _) _, ?_⟩
  ·rw [List.eq_of_mem_replicate hx]; unfold B32; omega
  ·rw [List.getD_eq_getElem?_getD, List.getElem?_replicate]; split <;> rfl
  ·show _ = _
   rw [val_replicate]; simp [val]
 case round =>
  obtain ⟨i, O, hi, rfl, HOL, HOX, HOZ, HBW, HBEL, HV⟩ := hrel
  by_cases hlt : i < k1
  ·obtain ⟨b1, f1, x, rfl, hb1, hx, hcx⟩ := HC1.out i hlt
   have hxB := digs_lt B32_2 m x (List.mem_of_getElem? hx)
   have HCX : Hid (∀ w', Below w.heap.size w w' → w'.cell? ⟨b1, f1 + i, none⟩ = some (.int .u32 (x : Int))) := fun w' h => (h.cell (p := ⟨b1, f1 + i, none⟩) hb1).trans hcx
   have HX := h0d hx
   have HXB := h0d hxB
   obtain ⟨V, hV⟩ : ∃ V, V = val B32 ((digs B32 m).take i) := ⟨_, rfl⟩
   have HVe := h0d hV
   rw [← hV] at HV
   clear hV hx hcx hxB
   go_wp2_with fail
   go_loopw [7, 8] (fun cv kv wr => ∃ (k c : Nat) (P : List Nat), k ≤ k2 ∧ cv = .int .u64 (c : Int) ∧ kv = .int .i64 (k : Int) ∧ Hid (c < B32) ∧ Hid (P.length = k1 + k2) ∧ Hid (∀ x ∈ P, x < B32) ∧ Hid (∀ j, i + k2 ≤ j → P.getD j 0 = 0) ∧ Hid (BlkV wr w.heap.size P) ∧ Hid (Below w.heap.size w wr) ∧ Hid (val B32 P + c * B32 ^ (i + k) = V * n + x * val B32 ((digs B32 n).take k) * B32 ^ i)) (fun _ kv _ => k2 - (intOf kv).toNat)
   case atStart =>
    exact ⟨0, 0, O, Nat.zero_le _, rfl, rfl, by show _ < _; unfold B32; omega, HOL, HOX, HOZ, HBW, HBEL, by show _ = _; rw [HV.out]; simp [val]⟩
   case round =>
    clear HBEL HBW HV HOL HOX HOZ
    obtain ⟨k, c, P, hk, rfl, rfl, HCB, HOL, HOX, HOZ, HBW, HBEL, HV⟩ := hrel
    by_cases hlk : k < k2
    ·obtain ⟨b2, f2, y, rfl, hb2, hy, hcy⟩ := HC2.out k hlk
     have hyB := digs_lt B32_2 n y (List.mem_of_getElem? hy)
     have HCY : Hid (∀ w', Below w.heap.size w w' → w'.cell? ⟨b2, f2 + k, none⟩ = some (.int .u32 (y : Int))) := fun w' h => (h.cell (p := ⟨b2, f2 + k, none⟩) hb2).trans hcy
     have hpl : i + k < P.length := by have := HOL.out; omega
     obtain ⟨o, ho⟩ : ∃ o, P.getD (i + k) 0 = o := ⟨_, rfl⟩
     have hoB : o < B32 := by
      rw [← ho, List.getD_eq_getElem?_getD, List.getElem?_eq_getElem hpl]
      exact HOX.out _ (List.getElem_mem hpl)
     have hst := times_step (B := B32) hpl hy ho HV.out
     have hTL := times_lt HXB.out hyB hoB HCB.out
     obtain ⟨p, hp⟩ : ∃ p, p = x * y := ⟨_, rfl⟩
     obtain ⟨T, hT⟩ : ∃ T, T = p + o + c := ⟨_, rfl⟩
     rw [← hp, ← hT] at hst hTL
     have hpB : p ≤ 18446744065119617025 := by
      have h1 : x * y ≤ 4294967295 * 4294967295 := Nat.mul_le_mul (by have := HXB.out; unfold B32 at this; omega) (by unfold B32 at hyB; omega)
      omega
     obtain ⟨q, hq⟩ : ∃ q, q = c + p := ⟨_, rfl⟩
     have hcB := HCB.out
     have hxBo := HXB.out
     unfold B32 at hcB hoB hxBo hyB
     have hw0 : IntKind.u64.wrap (x : Int) = (x : Int) := wrap_nat x (by omega)
     have hw0y : IntKind.u64.wrap (y : Int) = (y : Int) := wrap_nat y (by omega)
     have hw0o : IntKind.u64.wrap (o : Int) = (o : Int) := wrap_nat o (by omega)
     have hw1 : IntKind.u64.wrap ((x : Int) * (y : Int)) = (p : Int) := by rw [← Int.natCast_mul, ← hp]; exact wrap_nat _ (by omega)
     have hw2 : IntKind.u64.wrap ((c : Int) + (p : Int)) = (q : Int) := by rw [hq, ← Int.natCast_add]; exact wrap_nat _ (by omega)
     have hw3 : IntKind.u64.wrap ((q : Int) + (o : Int)) = (T : Int) := by rw [hT, hq, ← Int.natCast_add, show c + p + o = p + o + c by omega]; exact wrap_nat _ (by omega)
     obtain ⟨s, hs⟩ : ∃ h, h = T % B32 := ⟨_, rfl⟩
     obtain ⟨t, ht⟩ : ∃ h, h = T / B32 := ⟨_, rfl⟩
     rw [← hs, ← ht] at hst
     rw [← ht] at hTL
     have hc32 : IntKind.u32.wrap (T : Int) = (s : Int) := by rw [IntKind.wrap_u32, hs]; unfold B32; omega
     have hsh : (T : Int) / 4294967296 = (t : Int) := by rw [ht]; unfold B32; omega
     have hsB : s < B32 := by rw [hs]; exact Nat.mod_lt _ (by unfold B32; omega)
     have hik : (i : Int) + (k : Int) < (k1 : Int) + (k2 : Int) := by omega
     have hwik : IntKind.i64.wrap ((i : Int) + (k : Int)) = (i : Int) + (k : Int) := IntWalk.i64_in _ (by omega)
     have hik0 : (0 : Int) ≤ (i : Int) + (k : Int) := by omega
     have hikn : ((i : Int) + (k : Int)).toNat = i + k := by omega
     have HCO : Hid (∀ w' : World, w'.heap[w.heap.size]? = wr.heap[w.heap.size]? → w'.cell? ⟨w.heap.size, i + k, none⟩ = some (.int .u32 (o : Int)) ∧ w'.frozen? ⟨w.heap.size, i + k, none⟩ = false) := fun w' h => by
      have hB : BlkV w' w.heap.size P := h.trans HBW.out
      exact ⟨hB.cell (i := i + k) (x := o) (by rw [← ho, List.getD_eq_getElem?_getD, List.getElem?_eq_getElem hpl]; rfl), hB.frozen (i + k)⟩
     have HTL := h0d hTL
     have HSB := h0d hsB
     have HST := h0d hst
     have hbd : Below w.heap.size w wr.drew := HBEL.out.drew
     have d1 := HCX.out _ hbd
     have d2 := HCY.out _ hbd
     obtain ⟨d3, d4⟩ := HCO.out wr.drew rfl
     clear hy hcy hst hs ht hT hq hp ho hTL hsB hpl hyB hoB hcB hxBo hpB hbd
     go_wp2_with fail
     refine seq_start (S := fun w' => w'.cell? ⟨b1, f1 + i, none⟩ = some (.int .u32 (x : Int)) ∧ w'.cell? ⟨b2, f2 + k, none⟩ = some (.int .u32 (y : Int)) ∧ w'.cell? ⟨w.heap.size, i + k, none⟩ = some (.int .u32 (o : Int))) (by kernel_rfl) (by kernel_rfl) (by exact ⟨d1, d2, d3⟩) ?_
     repeat (first | refine tk0 (h := ?_) | refine tkG (h := ?_) | refine skG (h := ?_))
     refine seq_done (by kernel_rfl) ?_
     clear hw0 hw0y hw0o hw1 hw2 hw3 hwik hikn
     go_wp2_with fail
     go_roundw
     case rel =>
      refine ⟨k + 1, t, P.set (i + k) s, by omega, rfl, by go_num, HTL.out, by show _ = _; rw [List.length_set]; exact HOL.out, fun z hz => ?_, fun j hj => ?_, (HBW.out.set_ (i + k) s).drew, (HBEL.out.setCell (Nat.le_refl _) _).drew, HST.out⟩
      ·rcases List.mem_or_eq_of_mem_set hz with h | h
       ·exact HOX.out z h
       ·rw [h]; exact HSB.out
      ·rw [List.getD_eq_getElem?_getD, List.getElem?_set_ne (by omega), ← List.getD_eq_getElem?_getD]; exact HOZ.out j hj
     case measure => simp [intOf]; omega
    ·obtain rfl : k = k2 := by omega
     have hpl : i + k < P.length := by have := HOL.out; omega
     have ho := HOZ.out (i + k) (Nat.le_refl _)
     have hrow := times_row (B := B32) hpl HE2.out.symm ho (val_digs B32_2 n) HV.out
     have hcg := HBW.out.cell (i := i + k) (x := 0) (by rw [← ho, List.getD_eq_getElem?_getD, List.getElem?_eq_getElem hpl]; rfl)
     have hfg := HBW.out.frozen (i + k)
     have hik : (i : Int) + (k : Int) < (k1 : Int) + (k : Int) := by omega
     have hc32 : IntKind.u32.wrap (c : Int) = (c : Int) := by have := HCB.out; unfold B32 at this; rw [IntKind.wrap_u32]; omega
     have HROW : Hid (val B32 (P.set (i + k) c) = val B32 ((digs B32 m).take (i + 1)) * n) := by
      show _ = _
      rw [hrow, val_take B32 HX.out, HVe.out]
     clear hpl ho hrow
     go_wp2_with fail
     go_roundw
     case rel =>
      refine ⟨i + 1, P.set (i + k) c, by omega, by go_num, by show _ = _; rw [List.length_set]; exact HOL.out, fun z hz => ?_, fun j hj => ?_, HBW.out.set_ (i + k) c, HBEL.out.setCell (Nat.le_refl _) _, HROW.out⟩
      ·rcases List.mem_or_eq_of_mem_set hz with h | h
       ·exact HOX.out z h
       ·rw [h]; exact HCB.out
      ·rw [List.getD_eq_getElem?_getD, List.getElem?_set_ne (by omega), ← List.getD_eq_getElem?_getD]; exact HOZ.out j (by omega)
     case measure => simp [intOf]; omega
  ·obtain rfl : i = k1 := by omega
   have HVV : Hid (val B32 O = m * n) := by
    show _ = _
    rw [HV.out, List.take_of_length_le (by rw [HE1.out]; exact Nat.le_refl _), val_digs B32_2]
   have HCUT := h0d (rcut_numS _ _ O wr (HBW.out.rd0S (Nat.le_refl _) (n := i + k2) (cap := i + k2) (HOL.out.symm) (Nat.le_refl _) (by unfold maxLen; omega)) HOX.out)
   rw [HVV.out] at HCUT
   go_wp2_with (go_at_call 245; refine HCUT.out.mono ?_; rintro e w2 ⟨⟨v', rfl, hr⟩, rfl⟩; have HR := h0d hr; clear hr)
   go_ret
   exact ⟨⟨_, rfl, HR.out⟩, HBEL.out⟩
theorem rprod_any (va vb : Value) (m n : Nat) (w : World) (hP : RdM w va m) (hQ : RdM w vb n) (hm6 : dm m ≤ 1900000) (hn6 : dm n ≤ 1900000) :
  Calls Tryz.prog 201 #[va, vb] w fun e w' => (∃ v', e = .returned v' ∧ RdM w' v' (m * n)) ∧ Below w.heap.size w w' :=
 (rprod_own va vb m n w hP hQ hm6 hn6).mono fun e w' ⟨⟨v', h1, h2⟩, h3⟩ => ⟨⟨v', h1, h2.all⟩, h3⟩
set_option maxRecDepth 100000 in
set_option maxHeartbeats 4000000 in
theorem rbyWord_any (va : Value) (m d : Nat) (w : World) (hP : RdM w va m) (hd : 0 < d) (hdB : d < B32) (hm6 : dm m ≤ 1900000) :
  Calls Tryz.prog 246 #[va, .int .u32 (d : Int)] w fun e w' => (∃ v', e = .returned (.tuple #[v', .int .u32 ((m % d : Nat) : Int)]) ∧ RdM w' v' (m / d)) ∧ Below w.heap.size w w' := by
 have hmk := make_words32
 obtain ⟨A1, k1, c1, rfl, e1, hk1, _, hm1, hc1⟩ := RdV.open_ hP
 have hk16 : k1 ≤ 1900000 := by unfold dm at hm6; omega
 have HE1 := h0d e1
 have HC1 := h0d hc1
 have HMK := hmk k1 k1 (Nat.le_refl _) (by omega)
 obtain ⟨C0, hC0⟩ : ∃ C, C = ((List.replicate k1 0).map u32V).toArray := ⟨_, rfl⟩
 rw [← hC0] at HMK
 have HB0 : Hid (BlkV (w.alloc (.cells C0 271)) w.heap.size (List.replicate k1 0)) := by rw [hC0]; exact BlkV.new w _
 have HD := h0d hd
 have HDB := h0d hdB
 have hdn : ¬ (d = 0) := by omega
 have hwd : IntKind.u64.wrap (d : Int) = (d : Int) := wrap_nat d (by unfold B32 at hdB; omega)
 clear hmk e1 hc1 hP hC0 hm6 hd hdB
 go_enter Tryz.func246, Tryz.ntmps246
 go_wp2_with fail
 go_loopw [7, 8] (fun rv iv wr => ∃ (k r : Nat) (O : List Nat), k ≤ k1 ∧ rv = .int .u64 (r : Int) ∧ iv = .int .i64 ((k : Int) - 1) ∧ Hid (r < d) ∧ Hid (O.length = k1) ∧ Hid (∀ x ∈ O, x < B32) ∧ Hid (BlkV wr w.heap.size O) ∧ Hid (Below w.heap.size w wr) ∧ Hid (val B32 ((digs B32 m).drop k) = val B32 (O.drop k) * d + r)) (fun _ iv _ => (intOf iv + 1).toNat)
 case atStart =>
  refine ⟨k1, 0, List.replicate k1 0, Nat.le_refl _, rfl, rfl, HD.out, by show _ = _; simp, fun x hx => ?_, HB0, (Below.refl _ w).alloc (Nat.le_refl _) _, ?_⟩
  ·rw [List.eq_of_mem_replicate hx]; unfold B32; omega
  ·show _ = _
   rw [List.drop_of_length_le (by rw [HE1.out]; exact Nat.le_refl _), List.drop_of_length_le (by simp)]; simp [val]
 case round =>
  obtain ⟨k, r, O, hk, rfl, rfl, HRD, HOL, HOX, HBW, HBEL, HV⟩ := hrel
  by_cases hk0 : k = 0
  ·subst hk0
   have HV0 : Hid (val B32 O = m / d ∧ r = m % d) := by
    have h1 := HV.out
    rw [List.drop_zero, List.drop_zero, val_digs B32_2] at h1
    have h2 := HRD.out
    have := HD.out
    exact ⟨by rw [h1, Nat.mul_comm, Nat.mul_add_div this, Nat.div_eq_of_lt h2, Nat.add_zero], by rw [h1, Nat.mul_comm, Nat.mul_add_mod, Nat.mod_eq_of_lt h2]⟩
   have HCUT := h0d (rcut_num _ O wr (HBW.out.rd0 (n := k1) (cap := k1) (HOL.out.symm) (Nat.le_refl _) (by unfold maxLen; omega)) HOX.out)
   rw [HV0.out.1] at HCUT
   have hr32 : IntKind.u32.wrap (r : Int) = (r : Int) := by have := HRD.out; have := HDB.out; unfold B32 at this; rw [IntKind.wrap_u32]; omega
   go_wp2_with (go_at_call 245; refine HCUT.out.mono ?_; rintro e w2 ⟨⟨v', rfl, hr⟩, rfl⟩; have HR := h0d hr; clear hr)
   go_ret2
   exact ⟨⟨_, by rw [← HV0.out.2]; rfl, HR.out⟩, HBEL.out⟩
  ·obtain ⟨j, rfl⟩ : ∃ j, k = j + 1 := ⟨k - 1, by omega⟩
   have hj : (((j + 1 : Nat) : Int) - 1) = (j : Int) := by omega
   rw [hj]
   obtain ⟨b1, f1, x, rfl, hb1, hx, hcx⟩ := HC1.out j (by omega)
   have hxB := digs_lt B32_2 m x (List.mem_of_getElem? hx)
   have hcx' := (HBEL.out.cell (p := ⟨b1, f1 + j, none⟩) hb1).trans hcx
   have hst := byWord_step (B := B32) (O := O) (k := j) (r := r) (d := d) (by have := HOL.out; omega) hx HD.out HV.out
   obtain ⟨T, hT⟩ : ∃ T, T = r * B32 + x := ⟨_, rfl⟩
   rw [← hT] at hst
   obtain ⟨s, hs⟩ : ∃ s, s = T / d := ⟨_, rfl⟩
   obtain ⟨t, ht⟩ : ∃ t, t = T % d := ⟨_, rfl⟩
   rw [← hs, ← ht] at hst
   have htd : t < d := by rw [ht]; exact Nat.mod_lt _ HD.out
   have hTB : T < d * B32 := by
    have : (r + 1) * B32 ≤ d * B32 := Nat.mul_le_mul_right _ HRD.out
    rw [Nat.add_mul, Nat.one_mul] at this
    omega
   have hsB : s < B32 := by rw [hs, Nat.div_lt_iff_lt_mul HD.out, Nat.mul_comm]; exact hTB
   have hdBo := HDB.out
   have hrd := HRD.out
   unfold B32 at hxB hT hdBo hTB hsB
   obtain ⟨R, hR⟩ : ∃ R, R = r * 4294967296 := ⟨_, rfl⟩
   have hwR : IntKind.u64.wrap ((r : Int) * 4294967296) = (R : Int) := by rw [show (r : Int) * 4294967296 = (R : Int) by omega]; exact wrap_nat R (by omega)
   have hwx : IntKind.u64.wrap (x : Int) = (x : Int) := wrap_nat x (by omega)
   have hor : bits .or .u64 (R : Int) (x : Int) = (T : Int) := by
    rw [bits_or_u64_nat _ _ (by omega) (by omega), hT, hR, show (4294967296 : Nat) = 2 ^ 32 by decide, Nat.mul_comm, ← Nat.two_pow_add_eq_or_of_lt (by omega)]
   have hdq : IntKind.u64.wrap ((T : Int) / (d : Int)) = (s : Int) := by rw [← Int.natCast_ediv, ← hs]; exact wrap_nat _ (by omega)
   have hdr : ((T : Int) % (d : Int)) = (t : Int) := by rw [← Int.natCast_emod, ← ht]
   have hs32 : IntKind.u32.wrap (s : Int) = (s : Int) := by rw [IntKind.wrap_u32]; omega
   have hcg := HBW.out.cell (i := j) (x := O.getD j 0) (by rw [List.getD_eq_getElem?_getD, List.getElem?_eq_getElem (by have := HOL.out; omega)]; rfl)
   have hfg := HBW.out.frozen j
   have HTD := h0d htd
   have HSB : Hid (s < B32) := hsB
   have HSTP := h0d hst
   have hk1i : (j : Int) < (k1 : Int) := by omega
   clear hx hcx hst hs ht hxB hsB htd hk0 hj hT hR hTB hdBo hrd
   go_wp2_with fail
   go_roundw
   case rel =>
    refine ⟨j, t, O.set j s, by omega, by first | rfl | exact val_int hdr, rfl, HTD.out, by show _ = _; rw [List.length_set]; exact HOL.out, fun z hz => ?_, HBW.out.set_ j s, HBEL.out.setCell (Nat.le_refl _) _, HSTP.out⟩
    rcases List.mem_or_eq_of_mem_set hz with h | h
    ·exact HOX.out z h
    ·rw [h]; exact HSB.out
   case measure => simp [intOf]
end Go.Proofs.YtodckaioeomccaaGreat
