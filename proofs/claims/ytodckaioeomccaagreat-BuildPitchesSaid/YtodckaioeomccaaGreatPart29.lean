/- Walk of the reference's natural numbers: Quotient. Walks of the reference's fractions: Divisor, Frac, Whole, under, Zero. Walks of the reference's fractions: Whole, under, Zero, Add. -/
import Derived.Test.YtodckaioeomccaaGreatPart24
import Derived.Test.YtodckaioeomccaaGreatPart15
import Derived.Deep.DeepCutAuto
import Derived.Deep.CutBlock
import Derived.Test.YtodckaioeomccaaGreatPart03
namespace Go.Proofs.YtodckaioeomccaaGreat
open Go.RowKit
set_option linter.unusedVariables false
set_option linter.unusedSimpArgs false
theorem digs_drop {b : Nat} (hb : 2 ≤ b) : ∀ (j n : Nat), (digs b n).drop j = digs b (n / b ^ j)
 | 0, n => by simp
 | j + 1, n => by
  by_cases h : n = 0
  ·rw [h, digs_zero, Nat.zero_div, digs_zero]; simp
  ·rw [digs_pos hb h, List.drop_succ_cons, digs_drop hb j, Nat.div_div_eq_div_mul, ← Nat.pow_succ']
theorem val_take_mod {n j : Nat} : val B32 ((digs B32 n).take j) = n % B32 ^ j := by
 have h1 := val_split' B32 (digs B32 n) j
 rw [val_digs B32_2, digs_drop B32_2, val_digs B32_2] at h1
 have h2 := Nat.div_add_mod n (B32 ^ j)
 omega
theorem Rd.drop32 {w : World} {S : Nat → Prop} {b off n cap : Nat} {xs : List Nat} (h : Rd u32V w S (.slice (some ⟨b, off, none⟩) n cap) xs) {j : Nat} (hj : j ≤ n) : Rd u32V w S (.slice (some ⟨b, off + j, none⟩) (n - j) (cap - j)) (xs.drop j) := by
 obtain ⟨A', cap', he, h1, h2, h3⟩ := h
 simp only [Value.slice.injEq] at he
 obtain ⟨rfl, rfl, rfl⟩ := he
 refine ⟨some ⟨b, off + j, none⟩, cap - j, by rw [List.length_drop], by rw [List.length_drop]; omega, by omega, fun hn => ?_⟩
 obtain ⟨b', off', he, hb, hc⟩ := h3 (fun e => hn (by rw [e]; simp))
 simp only [Option.some.injEq, Addr.mk.injEq] at he
 obtain ⟨rfl, rfl, _⟩ := he
 refine ⟨b, off + j, rfl, hb, fun i hi => ?_⟩
 rw [List.length_drop] at hi
 have := hc (j + i) (by omega)
 rw [Nat.add_assoc, this, List.getElem_drop]
theorem top_guess {P V k : Nat} (hk : dm V = k + 1) : 0 < V / B32 ^ k ∧ P / V ≤ (P / B32 ^ k) / (V / B32 ^ k) := by
 have hV := (dm_le_iff V k)
 have hW : 0 < V / B32 ^ k := by
  refine Nat.div_pos ?_ (Nat.pow_pos (by unfold B32; omega))
  refine Nat.not_lt.1 fun h => ?_
  have := hV.2 h
  omega
 refine ⟨hW, est_hi (E := B32 ^ k) (lo := P % B32 ^ k) (lv := V % B32 ^ k) ?_ (Nat.mod_lt _ (Nat.pow_pos (by unfold B32; omega))) ?_ hW⟩
 ·rw [Nat.mul_comm]; exact (Nat.div_add_mod _ _).symm
 ·rw [Nat.mul_comm]; exact (Nat.div_add_mod _ _).symm
theorem quot_step {O : List Nat} {j A V R q : Nat} (hj : j < O.length) (hV : 0 < V) (hA : A = V * val B32 (O.drop (j + 1)) * B32 ^ (j + 1) + R) (hq : q = R / B32 ^ j / V) :
  A = V * val B32 ((O.set j q).drop j) * B32 ^ j + (R % B32 ^ j + B32 ^ j * (R / B32 ^ j - V * q)) ∧ R % B32 ^ j + B32 ^ j * (R / B32 ^ j - V * q) < V * B32 ^ j := by
 have hx : (O.set j q)[j]? = some q := by rw [List.getElem?_set_self hj]
 have hd : (O.set j q).drop (j + 1) = O.drop (j + 1) := by rw [List.drop_set]; simp
 rw [val_drop B32 hx, hd]
 have h1 := Nat.div_add_mod R (B32 ^ j)
 have h2 := Nat.mod_lt R (Nat.pow_pos (n := j) (show 0 < B32 by unfold B32; omega))
 obtain ⟨P, hP⟩ : ∃ P, P = R / B32 ^ j := ⟨_, rfl⟩
 rw [← hP] at h1 hq ⊢
 have h3 := Nat.div_add_mod P V
 rw [← hq] at h3
 have h4 := Nat.mod_lt P hV
 obtain ⟨r, hr⟩ : ∃ r, r = P % V := ⟨_, rfl⟩
 rw [← hr] at h3 h4
 have h5 : P - V * q = r := by omega
 rw [h5]
 obtain ⟨E, hE⟩ : ∃ E, E = B32 ^ j := ⟨_, rfl⟩
 obtain ⟨t, ht⟩ : ∃ t, t = R % B32 ^ j := ⟨_, rfl⟩
 rw [← ht] at h1 h2 ⊢
 rw [← hE] at h1 h2 ⊢
 rw [Nat.pow_succ, ← hE] at hA
 constructor
 ·rw [hA, ← h1, ← h3]
  simp only [Nat.mul_add, Nat.add_mul]
  obtain ⟨S, hS⟩ : ∃ S, S = val B32 (O.drop (j + 1)) := ⟨_, rfl⟩
  rw [← hS]
  have e1 : V * S * (E * B32) = V * (B32 * S) * E := by
   rw [Nat.mul_comm B32 S, ← Nat.mul_assoc V S, Nat.mul_assoc (V * S), Nat.mul_comm B32 E]
  have e2 : E * (V * q) = V * q * E := Nat.mul_comm _ _
  omega
 ·have h6 : E * (r + 1) ≤ E * V := Nat.mul_le_mul_left _ h4
  rw [Nat.mul_add, Nat.mul_one, Nat.mul_comm E V] at h6
  omega
theorem quot_skip {O : List Nat} {j A V R : Nat} (hj : j < O.length) (hz : O.getD j 0 = 0) (hA : A = V * val B32 (O.drop (j + 1)) * B32 ^ (j + 1) + R) (hq : R / B32 ^ j < V) :
  A = V * val B32 (O.drop j) * B32 ^ j + R ∧ R < V * B32 ^ j := by
 have hx : O[j]? = some 0 := by rw [List.getElem?_eq_getElem hj] ; rw [List.getD_eq_getElem?_getD, List.getElem?_eq_getElem hj] at hz; simpa using hz
 rw [val_drop B32 hx]
 constructor
 ·rw [hA, Nat.zero_add, Nat.pow_succ]
  congr 1
  rw [Nat.mul_comm B32 (val _ _), ← Nat.mul_assoc V, ← Nat.mul_assoc, Nat.mul_right_comm]
 ·rwa [Nat.div_lt_iff_lt_mul (Nat.pow_pos (by unfold B32; omega))] at hq
def RDivPost (w : World) (m n : Nat) (e : Ending) (w' : World) : Prop := ∃ v1 v2, e = .returned (.tuple #[v1, v2]) ∧ RdM w' v1 (m / n) ∧ RdM w' v2 (m % n) ∧ Below w.heap.size w w'
set_option maxRecDepth 100000 in
set_option maxHeartbeats 16000000 in
theorem rquot_any (va vb : Value) (m n : Nat) (w : World) (hP : RdM w va m) (hQ : RdM w vb n) (hn0 : n ≠ 0) (hm6 : dm m ≤ 1800000) (hn6 : dm n ≤ 1800000) :
  Calls Tryz.prog 244 #[va, vb] w fun e w' => RDivPost w m n e w' := by
 have HCM := h0d (rorder_any va vb m n w hP hQ)
 have HP := h0d hP
 have HQ := h0d hQ
 obtain ⟨A1, k1, c1, rfl, e1, hk1, _, hm1, hc1⟩ := RdV.open_ hP
 obtain ⟨A2, k2, c2, rfl, e2, hk2, _, hm2, hc2⟩ := RdV.open_ hQ
 have hk16 : k1 ≤ 1800000 := by unfold dm at hm6; omega
 have hk26 : k2 ≤ 1800000 := by unfold dm at hn6; omega
 have HE1 := h0d e1
 have HE2 := h0d e2
 have HC2 := h0d hc2
 have HN0 := h0d hn0
 have hk2p : 0 < k2 := by have := dm_pos hn0; unfold dm at this; omega
 clear hP hQ e1 hc1 hc2 hm6 hn6
 by_cases hlt : m < n
 ·rw [cmpN_lt hlt] at HCM
  have HR : Hid (m / n = 0 ∧ m % n = m) := ⟨Nat.div_eq_of_lt hlt, Nat.mod_eq_of_lt hlt⟩
  clear hlt e2 hn0
  go_enter Tryz.func244, Tryz.ntmps244
  go_wp2_with (go_at_call 190; refine HCM.out.mono ?_; rintro e w2 ⟨rfl, hb2⟩; have HB2 := h0d hb2; clear hb2)
  go_ret2
  exact ⟨_, _, rfl, by rw [HR.out.1]; exact RdM.nil_ _, by rw [HR.out.2]; exact HP.out.below HB2.out, HB2.out⟩
 ·obtain ⟨cv, hcv⟩ : ∃ cv, cv = cmpN m n := ⟨_, rfl⟩
  rw [← hcv] at HCM
  have hcn2 : ¬ (cv < 0) := by rw [hcv]; unfold cmpN; rw [if_neg hlt]; split <;> omega
  have hcn : decide (cv < 0) = false := decide_eq_false hcn2
  have HLT := h0d hlt
  clear hcv hlt
  by_cases hk1' : k2 = 1
  ·obtain ⟨b2, f2, x, rfl, hb2, hx, hcx⟩ := HC2.out 0 (by omega)
   have hxB := digs_lt B32_2 n x (List.mem_of_getElem? hx)
   have hnx : n = x := by
    have : digs B32 n = [x] := by
     match hq : digs B32 n, (show (digs B32 n).length = 1 by omega), hx with
     | [y], _, hx => simp at hx; rw [hx]
    rw [← val_digs B32_2 n, this, val_one]
   rw [Nat.add_zero] at hcx
   have hrl : m % x < x := Nat.mod_lt _ (by omega)
   obtain ⟨rr, hrr⟩ : ∃ r, r = m % x := ⟨_, rfl⟩
   have hBW := h0d (fun w' (hb : Below w.heap.size w w') => rbyWord_any _ m x w' (HP.out.below hb) (by omega) hxB (by have := HE1.out; unfold dm; omega))
   have hrB : rr < 4294967296 := by unfold B32 at hxB; omega
   rw [← hrr] at hBW
   have HW := h0d (fun w' => rnat_any rr w' (by unfold B64; omega))
   have hwr : IntKind.u64.wrap (rr : Int) = (rr : Int) := wrap_nat rr (by omega)
   have HNX := h0d hnx
   have HRR := h0d hrr
   subst hk1'
   clear hx hxB hnx e2 hn0 hrr hrl
   go_enter Tryz.func244, Tryz.ntmps244
   go_wp2_with (first | (go_at_call 190; refine HCM.out.mono ?_; rintro e w2 ⟨rfl, hb2⟩; have HB2 := h0d hb2; clear hb2; have hcx2 := (HB2.out.cell (p := ⟨b2, f2, none⟩) hb2).trans hcx) | (go_at_call 246; refine (hBW.out _ HB2.out).mono ?_; rintro e w3 ⟨⟨v3, rfl, hr3⟩, hb3⟩; have HR3 := h0d hr3; have HB3 := h0d hb3; clear hb3 hr3) | (go_at_call 188; refine (HW.out _).mono ?_; rintro e w4 ⟨⟨v4, rfl, hr4⟩, hb4⟩; have HR4 := h0d hr4; have HB4 := h0d hb4; clear hb4 hr4))
   go_ret2
   refine ⟨v3, v4, rfl, ?_, ?_, HB2.out.trans ((HB3.out.mono HB2.out.size).trans (HB4.out.mono (Nat.le_trans HB2.out.size HB3.out.size)))⟩
   ·rw [HNX.out]; exact HR3.out.below HB4.out
   ·rw [HNX.out, ← HRR.out]; exact HR4.out
  ·have hkb : ((k2 : Int) == 1) = false := by simp; omega
   obtain ⟨κ, hκ⟩ : ∃ k, k2 = k + 1 := ⟨k2 - 1, by omega⟩
   obtain ⟨b2, f2, tb, rfl, hb2, hx, hcx⟩ := HC2.out κ (by omega)
   obtain ⟨t1, t2, t3⟩ := bl_top (n := n) (k := κ) (by unfold dm; omega) hx
   have t4 : bl tb ≤ 32 := bl_le (by rw [two32]; exact t3)
   have t5 : 1 ≤ bl tb := by rw [bl_half t2]; omega
   obtain ⟨s, hs⟩ : ∃ s, s = 32 - bl tb := ⟨_, rfl⟩
   obtain ⟨Bn, hBn⟩ : ∃ b, b = bl n := ⟨_, rfl⟩
   have HBI := h0d (fun w' (hb : Below w.heap.size w w') => rbits_any _ n w' (HQ.out.below hb) (by have := HE2.out; unfold dm; omega))
   rw [← hBn] at HBI t1
   have hsi : 32 * (k2 : Int) - (Bn : Int) = (s : Int) := by omega
   have hs31 : s ≤ 31 := by omega
   obtain ⟨V, hV⟩ : ∃ V, V = n * 2 ^ s := ⟨_, rfl⟩
   obtain ⟨A, hA⟩ : ∃ A, A = m * 2 ^ s := ⟨_, rfl⟩
   have HLV := h0d (fun w' (hb : Below w.heap.size w w') => rraised_own _ n s w' (HQ.out.below hb) (by have := HE2.out; unfold dm; omega) (by omega))
   have HLM := h0d (fun w' (hb : Below w.heap.size w w') => rraised_own _ m s w' (HP.out.below hb) (by have := HE1.out; unfold dm; omega) (by omega))
   rw [← hV] at HLV
   rw [← hA] at HLM
   have h2s : dm (2 ^ s) ≤ 1 := (dm_le_iff _ 1).2 (by
    rw [Nat.pow_one, ← two32]; exact Nat.pow_lt_pow_right (by omega) (by omega))
   have hV0 : 0 < V := by rw [hV]; exact Nat.mul_pos (by omega) (Nat.two_pow_pos s)
   have hdV : dm V ≤ k2 + 1 := by
    have := dm_mul n (2 ^ s)
    have h3 : dm n = k2 := e2
    rw [← hV] at this; omega
   have hdV0 : dm V ≠ 0 := by have := dm_pos (show V ≠ 0 by omega); omega
   have hkk : k2 ≤ k1 := by
    have h1 := dm_mono (Nat.not_lt.1 HLT.out)
    have h3 : dm n = k2 := e2
    have h4 : dm m = k1 := HE1.out
    omega
   have hA1 : A < B32 ^ (k1 + 1) := by
    have h1 := dm_mul m (2 ^ s)
    have h4 : dm m = k1 := HE1.out
    rw [← hA] at h1
    exact (dm_le_iff A (k1 + 1)).1 (by omega)
   have HV := h0d hV
   have HA := h0d hA
   have HA1 := h0d hA1
   obtain ⟨kv, hkv⟩ : ∃ k, dm V = k + 1 := ⟨dm V - 1, by omega⟩
   have HKV := h0d hkv
   have hkv1 : kv ≤ k2 := by omega
   have hmk := make_words32
   obtain ⟨L, hL⟩ : ∃ L, L = k1 + 2 - (kv + 1) := ⟨_, rfl⟩
   have hLi : (k1 : Int) - ((kv : Int) + 1) + 2 = (L : Int) := by omega
   have HLL : Hid (L + kv + 1 = k1 + 2) := by show _ = _; omega
   have hL6 : L ≤ 1800002 := by omega
   have HMK := hmk L L (Nat.le_refl _) (by omega)
   obtain ⟨C0, hC0⟩ : ∃ C, C = ((List.replicate L 0).map u32V).toArray := ⟨_, rfl⟩
   rw [← hC0] at HMK
   have HC0 := h0d hC0
   clear hmk hC0 hx hcx t1 t2 t3 t4 t5 hs hBn h2s hdV hdV0 hV hA hA1 hkv hL e2 hn0 hk1' hκ
   go_enter Tryz.func244, Tryz.ntmps244
   go_upto_region 8 with (first | (go_at_call 190; refine HCM.out.mono ?_; rintro e w2 ⟨rfl, hb2'⟩; have HB2 := h0d hb2'; clear hb2') | (go_at_call 280; refine (HBI.out _ HB2.out).mono ?_; rintro e w2' ⟨rfl, rfl⟩) | (go_at_call 281; first | ((with_reducible refine (HLV.out _ HB2.out).mono ?_); rintro e w3 ⟨⟨vv, rfl, hr3⟩, hb3⟩; have HR3 := h0d hr3; have HB3 := h0d hb3; clear hb3 hr3; have HBL3 : Hid (Below w.heap.size w w3) := HB2.out.trans (HB3.out.mono HB2.out.size)) | ((with_reducible refine (HLM.out _ HBL3.out).mono ?_); rintro e w4 ⟨⟨vr, rfl, hr4⟩, hb4⟩; have HR4 := h0d hr4; have HB4 := h0d hb4; clear hb4 hr4)))
   obtain ⟨Av, nv, cvv, rfl, ev, hkvv, _, hmv, hcv⟩ := RdV.open_ HR3.out.all
   obtain rfl : kv + 1 = nv := by have := HKV.out; unfold dm at this; omega
   obtain ⟨bv, fv, W, rfl, hbv, hxv, hcvW⟩ := hcv kv (by omega)
   have hWV : V / B32 ^ kv = W := by
    have := (digs_get_div B32_2 hxv).2
    rw [digs_div_none (i := kv + 1) B32_2 (by omega), Nat.mul_zero, Nat.add_zero] at this
    exact this
   have hWB := digs_lt B32_2 V W (List.mem_of_getElem? hxv)
   have HWV := h0d hWV
   have HWB := h0d hWB
   have HCW := h0d hcvW
   have HBVL := h0d hbv
   have HR3b : Hid (RdMS w4 (· ≠ w4.heap.size) (.slice (some ⟨bv, fv, none⟩) (kv + 1) cvv) V) := (Rd.lt (RdMS.below HR3.out HB4.out)).mono fun k hk => by omega
   have HR4b : Hid (RdMS w4 (· ≠ w4.heap.size) vr A) := (Rd.lt HR4.out).mono fun k hk => by omega
   have HBL4 : Hid (Below w.heap.size w w4) := HBL3.out.trans (HB4.out.mono HBL3.out.size)
   have HCW4 : Hid (bv < w4.heap.size ∧ w4.cell? ⟨bv, fv + kv, none⟩ = some (.int .u32 (W : Int))) := ⟨Nat.lt_of_lt_of_le hbv HB4.out.size, (HB4.out.cell (p := ⟨bv, fv + kv, none⟩) hbv).trans hcvW⟩
   clear ev hcv hxv hWV hWB hcvW hbv
   go_wp2_with fail
   have HBO : Hid (BlkV (w4.alloc (.cells C0 271)) w4.heap.size (List.replicate L 0)) := by rw [HC0.out]; exact BlkV.new w4 _
   go_loopw [10, 13] (fun rv iv wr => ∃ (jj R : Nat) (O : List Nat), jj ≤ L ∧ iv = .int .i64 ((jj : Int) - 1) ∧ Hid (O.length = L) ∧ Hid (∀ x ∈ O, x < B32) ∧ Hid (∀ i, i < jj → O.getD i 0 = 0) ∧ Hid (BlkV wr w4.heap.size O) ∧ Hid (RdMS wr (· ≠ w4.heap.size) rv R) ∧ Hid (Below w4.heap.size w4 wr) ∧ Hid (A = V * val B32 (O.drop jj) * B32 ^ jj + R) ∧ Hid (R < V * B32 ^ jj)) (fun _ iv _ => (intOf iv + 1).toNat)
   case atStart =>
    refine ⟨L, A, List.replicate L 0, Nat.le_refl _, rfl, by show _ = _; simp, fun x hx => ?_, fun i _ => ?_, HBO, HR4b.out.below ((Below.refl _ w4).alloc (Nat.le_refl _) _), (Below.refl _ w4).alloc (Nat.le_refl _) _, ?_, ?_⟩
    ·rw [List.eq_of_mem_replicate hx]; unfold B32; omega
    ·rw [List.getD_eq_getElem?_getD, List.getElem?_replicate]; split <;> rfl
    ·show _ = _
     rw [List.drop_of_length_le (by simp)]; simp [val]
    ·show _ < _
     refine Nat.lt_of_lt_of_le HA1.out ?_
     have h1 : B32 ^ kv ≤ V := by
      refine Nat.not_lt.1 fun h => ?_
      have := (dm_le_iff V kv).2 h
      have := HKV.out
      omega
     have h2 := Nat.mul_le_mul_right (B32 ^ L) h1
     rw [← Nat.pow_add] at h2
     have h3 := HLL.out
     rw [show kv + L = k1 + 1 by omega] at h2
     exact h2
   case round =>
    obtain ⟨jj, R, O, hjj, rfl, HOL, HOX, HOZ, HOB, HRR, HBE, HAV, HRL⟩ := hrel
    obtain ⟨Ar, kr, cr, rfl, er, hkr, hkr9, hmr, hcr⟩ := RdV.open_ HRR.out.all
    have HER := h0d er
    have HBW0 : Hid (Below w.heap.size w wr) := HBL4.out.trans (HBE.out.mono HBL4.out.size)
    by_cases hj0 : jj = 0
    ·subst hj0
     have hA := HAV.out
     have hR := HRL.out
     rw [List.drop_zero, Nat.pow_zero, Nat.mul_one] at hA
     rw [Nat.pow_zero, Nat.mul_one] at hR
     have hs0 : 0 < 2 ^ s := Nat.two_pow_pos s
     have hsc := scaled_div (u := m) (y := n) hs0
     rw [← HA.out, ← HV.out] at hsc
     have HQV : Hid (val B32 O = m / n) := by
      show _ = _
      rw [← hsc.1, hA, Nat.mul_add_div hV0, Nat.div_eq_of_lt hR, Nat.add_zero]
     have HCV : Hid (R / 2 ^ s = m % n) := by
      show _ = _
      rw [← hsc.2, hA, Nat.mul_add_mod, Nat.mod_eq_of_lt hR]
     have HC1 := h0d (rcut_num _ O wr (HOB.out.rd0 (n := L) (cap := L) HOL.out.symm (Nat.le_refl _) (by unfold maxLen; omega)) HOX.out)
     rw [HQV.out] at HC1
     have hcl : dm R ≤ 2000000 := by
      have h1 : dm R ≤ k1 + 1 := (dm_le_iff R (k1 + 1)).2 (Nat.lt_of_le_of_lt (by omega) HA1.out)
      omega
     have HRT := h0d (rlowered_any _ R s wr HRR.out.all hcl (by omega))
     rw [HCV.out] at HRT
     clear hA hR hs0 hsc hcl er hcr
     go_wp2_with (first | (go_at_call 245; refine HC1.out.mono ?_; rintro e w2 ⟨⟨v1, rfl, hr1⟩, rfl⟩; have HR1 := h0d hr1; clear hr1) | (go_at_call 282; refine HRT.out.mono ?_; rintro e w9 ⟨⟨v9, rfl, hr9⟩, hb9⟩; have HR9 := h0d hr9; have HB9 := h0d hb9; clear hr9 hb9))
     go_ret2
     exact ⟨v1, v9, rfl, HR1.out.below HB9.out, HR9.out, HBW0.out.trans (HB9.out.mono HBW0.out.size)⟩
    ·obtain ⟨j, rfl⟩ : ∃ j, jj = j + 1 := ⟨jj - 1, by omega⟩
     have hj : (((j + 1 : Nat) : Int) - 1) = (j : Int) := by omega
     rw [hj]
     have HOJ : Hid (j < O.length) := by have := HOL.out; show _ < _; omega
     have HB1 : Hid (Below wr.heap.size wr (wr.alloc (.cells #[] 271))) := (Below.refl _ wr).alloc (Nat.le_refl _) _
     have HRV : Hid (RdM (wr.alloc (.cells #[] 271)) (.slice (some ⟨bv, fv, none⟩) (kv + 1) cvv) V) := ((HR3b.out.below HBE.out).below HB1.out).all
     have HSKIP := h0d (fun h => quot_skip HOJ.out (HOZ.out j (by omega)) HAV.out (R := R) h)
     have HBEA : Hid (Below w4.heap.size w4 (wr.alloc (.cells #[] 271))) := HBE.out.alloc HBE.out.size _
     by_cases hjr : j < kr
     ·obtain ⟨br, fr, xr, rfl, hbr, _, _⟩ := hcr j hjr
      obtain ⟨P, hP⟩ : ∃ P, P = R / B32 ^ j := ⟨_, rfl⟩
      have hRP : RdMS wr (· ≠ w4.heap.size) (.slice (some ⟨br, fr + j, none⟩) (kr - j) (cr - j)) P := by
       have h1 : Rd u32V wr (· ≠ w4.heap.size) (.slice (some ⟨br, fr, none⟩) kr cr) (digs B32 R) := HRR.out
       have h2 := h1.drop32 (j := j) (by omega)
       rw [digs_drop B32_2, ← hP] at h2
       exact h2
      have HRP : Hid (RdM (wr.alloc (.cells #[] 271)) (.slice (some ⟨br, fr + j, none⟩) (kr - j) (cr - j)) P) := (hRP.below HB1.out).all
      have HORD := h0d (rorder_any _ _ P V (wr.alloc (.cells #[] 271)) HRP.out HRV.out)
      have hcj : ¬ (cr = j) := by omega
      have hjrI : (j : Int) < (kr : Int) := by omega
      have hjrc : (j : Int) ≤ (cr : Int) := by omega
      rw [← hP] at HSKIP
      by_cases hPV : P < V
      ·rw [cmpN_lt hPV] at HORD
       obtain ⟨s1, s2⟩ := HSKIP.out hPV
       have HS1 := h0d s1
       have HS2 := h0d s2
       clear er hcr hP hRP s1 s2 hPV hj0 hj
       go_wp2_with (go_at_call 190; refine HORD.out.mono ?_; rintro e w5 ⟨rfl, hb5⟩; have HB5 := h0d hb5; clear hb5)
       go_roundw
       case rel =>
        have hall : Below wr.heap.size wr w5 := HB1.out.trans (HB5.out.mono HB1.out.size)
        exact ⟨j, R, O, by omega, rfl, HOL, HOX, (fun i hi => HOZ.out i (by omega)), HOB.out.below hall, HRR.out.below hall, HBEA.out.trans (HB5.out.mono HBEA.out.size), HS1, HS2⟩
       case measure => simp [intOf]
      ·obtain ⟨cw, hcw⟩ : ∃ cv, cv = cmpN P V := ⟨_, rfl⟩
       rw [← hcw] at HORD
       have hcwn2 : ¬ (cw < 0) := by rw [hcw]; unfold cmpN; rw [if_neg hPV]; split <;> omega
       have hcwn : decide (cw < 0) = false := decide_eq_false hcwn2
       have hPB : P < V * B32 := by
        rw [hP, Nat.div_lt_iff_lt_mul (Nat.pow_pos (by unfold B32; omega)), Nat.mul_assoc, ← Nat.pow_succ']
        exact HRL.out
       have hPk : dm P ≤ kv + 2 := by
        rw [dm_le_iff]
        refine Nat.lt_of_lt_of_le hPB ?_
        have h1 := (dm_le_iff V (kv + 1)).1 (by rw [HKV.out]; exact Nat.le_refl _)
        rw [Nat.pow_succ B32 (kv + 1)]
        exact Nat.mul_le_mul_right _ (Nat.le_of_lt h1)
       have hPk2 : kv + 1 ≤ dm P := by rw [← HKV.out]; exact dm_mono (Nat.not_lt.1 hPV)
       have hkrj : kr - j = dm P := by
        have h1 := digs_drop B32_2 j R
        have h2 := congrArg List.length h1
        rw [List.length_drop, er, ← hP] at h2
        exact h2
       obtain ⟨bp, fp, xp, hep, hbp, hxp, hcp⟩ := (RdV.open_ hRP.all).elim fun A' h => by
        obtain ⟨n', c', he, h1, _, _, _, h2⟩ := h
        simp only [Value.slice.injEq] at he
        obtain ⟨rfl, rfl, rfl⟩ := he
        exact h2 kv (by omega)
       obtain ⟨rfl, rfl⟩ : br = bp ∧ fr + j = fp := by simpa using hep
       obtain ⟨hw1, hw2⟩ := digs_get_div B32_2 hxp
       have hxpB := digs_lt B32_2 P xp (List.mem_of_getElem? hxp)
       obtain ⟨hW0, hguess⟩ := top_guess (P := P) HKV.out
       rw [HWV.out] at hW0 hguess
       obtain ⟨hi, hhi⟩ : ∃ h, h = P / B32 ^ kv := ⟨_, rfl⟩
       rw [← hhi] at hguess hw2
       obtain ⟨G, hG⟩ : ∃ G, G = min (hi / W) 4294967295 := ⟨_, rfl⟩
       have hqB : P / V < B32 := by rw [Nat.div_lt_iff_lt_mul hV0, Nat.mul_comm]; exact hPB
       have hGq : P / V ≤ G := by rw [hG]; unfold B32 at hqB; omega
       have hGB : G ≤ 4294967295 := by rw [hG]; omega
       have HPB := h0d hPB
       have HGQ := h0d hGq
       have HGB := h0d hGB
       have HG := h0d hG
       have HP := h0d hP
       have HPV := h0d hPV
       have HKRJ := h0d hkrj
       have hdp1 : kv + 1 ≤ kr - j := by omega
       have HPK : Hid (kr - j ≤ kv + 2) := by show _ ≤ _; omega
       have HHI := h0d hhi
       have HW2 := h0d hw2
       have HRPr := h0d hRP
       have hkvI : (kv : Int) + 1 - 1 = (kv : Int) := by omega
       have hkvn : ¬ (kv : Int) < 0 := by omega
       have hlen : (((kr - j : Nat)) : Int) = (kr : Int) - (j : Int) := by omega
       have hkvl : (kv : Int) < (((kr - j : Nat)) : Int) := by omega
       have hxp32 : xp < 4294967296 := by unfold B32 at hxpB; exact hxpB
       have hwxp : IntKind.u64.wrap (xp : Int) = (xp : Int) := wrap_nat xp (by omega)
       have HCP : Hid (∀ w', Below wr.heap.size wr w' → w'.cell? ⟨br, fr + j + kv, none⟩ = some (.int .u32 (xp : Int))) := fun w' hb => (hb.cell (p := ⟨br, fr + j + kv, none⟩) hbp).trans hcp
       have HCWx : Hid (∀ w', Below w4.heap.size w4 w' → w'.cell? ⟨bv, fv + kv, none⟩ = some (.int .u32 (W : Int))) := fun w' hb => (hb.cell (p := ⟨bv, fv + kv, none⟩) HCW4.out.1).trans HCW4.out.2
       clear er hcr hP hRP hPV hj0 hj hcw hPB hPk hPk2 hkrj hep hxp hcp hw1 hw2 hxpB hhi hG hqB hGq hGB hguess hbp
       obtain ⟨kp, hkp⟩ : ∃ k, kr - j = k := ⟨_, rfl⟩
       rw [hkp] at HRP HORD hdp1 HPK HRPr
       have HKP : Hid (dm P = kp) := by show _ = _; rw [← hkp]; exact HKRJ.out.symm
       have HRS : Hid (RdMS wr (· ≠ w4.heap.size) (.slice (some ⟨br, fr, none⟩) kr cr) R) := HRR.out
       have hkvl : (kv : Int) < (kp : Int) := by omega
       have hkpr : (kr : Int) - (j : Int) = (kp : Int) := by omega
       go_upto_if 86 with (go_at_call 190; refine HORD.out.mono ?_; rintro e w5 ⟨rfl, hb5⟩; have HB5 := h0d (HB1.out.trans (hb5.mono HB1.out.size)); clear hb5; have hcp5 := HCP.out w5 HB5.out)
       clear hcp5
       have HE5 : Hid (Below w4.heap.size w4 w5) := HBE.out.trans (HB5.out.mono HBE.out.size)
       go_cut [15] (fun v wx => v = .int .u64 (hi : Int) ∧ wx = w5)
       case first =>
        by_cases hgt : kv + 1 < kp
        ·obtain ⟨b7, f7, y, he7, hb7, hy, hcy⟩ := (RdV.open_ HRPr.out.all).elim fun A' h => by
          obtain ⟨n', c', he, h1, _, _, _, h2⟩ := h
          simp only [Value.slice.injEq] at he
          obtain ⟨rfl, rfl, rfl⟩ := he
          exact h2 (kv + 1) hgt
         obtain ⟨rfl, rfl⟩ : br = b7 ∧ fr + j = f7 := by simpa using he7
         obtain ⟨y1, y2⟩ := digs_get_div B32_2 hy
         have hyB := digs_lt B32_2 P y (List.mem_of_getElem? hy)
         rw [digs_div_none (b := B32) (n := P) (i := kv + 1 + 1) B32_2 (by have h1 := HKP.out; have h2 := HPK.out; unfold dm at h1; omega), Nat.mul_zero] at y2
         have y3 : P / B32 ^ (kv + 1) = y := by omega
         have hcy5 := (HB5.out.cell (p := ⟨br, fr + j + (kv + 1), none⟩) hb7).trans hcy
         have hhi : hi = xp + B32 * y := by rw [← y3]; exact HW2.out
         obtain ⟨Y, hY⟩ : ∃ Y, Y = y * 4294967296 := ⟨_, rfl⟩
         have hyB' : y < 4294967296 := by unfold B32 at hyB; exact hyB
         have hwy : IntKind.u64.wrap (y : Int) = (y : Int) := wrap_nat y (by omega)
         have hcY : IntKind.u64.wrap ((y : Int) * 4294967296) = (Y : Int) := by rw [show (y : Int) * 4294967296 = (Y : Int) by omega]; exact wrap_nat Y (by omega)
         have hor : bits .or .u64 (xp : Int) (Y : Int) = (hi : Int) := by
          rw [bits_or_u64_nat _ _ (by omega) (by omega), or_parts (r := 32) (by rw [two32]; unfold B32; omega) (by rw [hY]; exact Nat.dvd_mul_left _ _), hhi, hY, Nat.mul_comm B32]; rfl
         have hgti : (kv : Int) + 1 < (kp : Int) := by omega
         have hgtb : decide ((kv : Int) + 1 < (kp : Int)) = true := decide_eq_true hgti
         have hgtb2 : decide (kv + 1 < kp) = true := decide_eq_true hgt
         have hk10 : ¬ ((kv : Int) + 1 < 0) := by omega
         have hk1n : ((kv : Int) + 1).toNat = kv + 1 := by omega
         clear he7 hy hcy y1 y2 y3 hyB hhi hY
         go_wp2_with fail
         go_meet
         case rel => exact ⟨rfl, rfl⟩
        ·have hhi : hi = xp := by
          have h1 := HW2.out
          rw [digs_div_none (b := B32) (n := P) (i := kv + 1) B32_2 (by have := HKP.out; unfold dm at this; omega), Nat.mul_zero, Nat.add_zero] at h1
          exact h1
         have HHX := h0d hhi
         have hgti : ¬ (kv : Int) + 1 < (kp : Int) := by omega
         have hgtb : decide ((kv : Int) + 1 < (kp : Int)) = false := decide_eq_false hgti
         have hgtb2 : decide (kv + 1 < kp) = false := decide_eq_false hgt
         clear hhi
         go_wp2_with fail
         go_meet
         case rel => exact ⟨by rw [HHX.out], rfl⟩
       case rest =>
        obtain ⟨rfl, rfl⟩ := hcut
        have hcw5 := HCWx.out wc HE5.out
        have hWn : ¬ (W = 0) := by omega
        have hW32 : W < 4294967296 := by have := HWB.out; unfold B32 at this; exact this
        have hww : IntKind.u64.wrap (W : Int) = (W : Int) := wrap_nat W (by omega)
        obtain ⟨q0, hq0⟩ : ∃ q, q = hi / W := ⟨_, rfl⟩
        have hhiB : hi < 18446744073709551616 := by
         rw [HHI.out, Nat.div_lt_iff_lt_mul (Nat.pow_pos (by unfold B32; omega))]
         have h1 : P < B32 ^ (kv + 2) := (dm_le_iff P (kv + 2)).1 (by rw [HKP.out]; exact HPK.out)
         rw [Nat.pow_add] at h1
         have : (B32 : Nat) ^ 2 = 18446744073709551616 := by unfold B32; decide
         rw [this, Nat.mul_comm] at h1
         exact h1
        have hqB : q0 ≤ hi := by rw [hq0]; exact Nat.div_le_self _ _
        have hdq : IntKind.u64.wrap ((hi : Int) / (W : Int)) = (q0 : Int) := by rw [← Int.natCast_ediv, ← hq0]; exact wrap_nat _ (by omega)
        have HQ0 := h0d hq0
        clear hq0 hqB
        go_upto_if 104 with fail
        clear hcw5
        go_cut [16] (fun v wx => v = .int .u64 (G : Int) ∧ wx = wc)
        case first =>
         have hGm : G = min q0 4294967295 := by rw [HQ0.out]; exact HG.out
         by_cases hgt : 4294967295 < q0
         ·have hGG : Hid ((4294967295 : Int) = (G : Int)) := by show _ = _; omega
          have hgti : (4294967295 : Int) < (q0 : Int) := by omega
          have hgtb : decide ((4294967295 : Int) < (q0 : Int)) = true := decide_eq_true hgti
          have hgtb2 : decide (4294967295 < q0) = true := decide_eq_true hgt
          clear hGm
          go_wp2_with fail
          go_meet
          case rel => exact ⟨congrArg _ hGG.out, rfl⟩
         ·have hGG : Hid (q0 = G) := by show _ = _; omega
          have hgti : ¬ (4294967295 : Int) < (q0 : Int) := by omega
          have hgtb : decide ((4294967295 : Int) < (q0 : Int)) = false := decide_eq_false hgti
          have hgtb2 : decide (4294967295 < q0) = false := decide_eq_false hgt
          clear hGm
          go_wp2_with fail
          go_meet
          case rel => exact ⟨by rw [hGG.out], rfl⟩
        case rest =>
         obtain ⟨rfl, hwc⟩ := hcut
         subst hwc
         have HV5 : Hid (RdMS wc (· ≠ w4.heap.size) (.slice (some ⟨bv, fv, none⟩) (kv + 1) cvv) V) := HR3b.out.below HE5.out
         have HP5 : Hid (RdMS wc (· ≠ w4.heap.size) (.slice (some ⟨br, fr + j, none⟩) kp (cr - j)) P) := HRPr.out.below HB5.out
         have HR5 : Hid (RdMS wc (· ≠ w4.heap.size) (.slice (some ⟨br, fr, none⟩) kr cr) R) := HRS.out.below HB5.out
         have HO5 : Hid (BlkV wc w4.heap.size O) := HOB.out.below HB5.out
         have HNT := h0d (fun w' => rnat_any G w' (by have := HGB.out; unfold B64; omega))
         have hG1 : dm G ≤ 1 := (dm_le_iff G 1).2 (by have := HGB.out; rw [Nat.pow_one]; unfold B32; omega)
         have HPR := h0d (fun v' w' (hb : Below wc.heap.size wc w') (h : RdM w' v' G) => rprod_own _ v' V G w' (HV5.out.below hb).all h (by rw [HKV.out]; omega) (by omega))
         clear hG1
         go_upto_block 2 with (first | (go_at_call 188; refine (HNT.out _).mono ?_; rintro e w6 ⟨⟨v6, rfl, hr6⟩, hb6⟩; have HR6 := h0d hr6; have HB6 := h0d hb6; clear hr6 hb6) | (go_at_call 201; refine (HPR.out _ _ HB6.out HR6.out).mono ?_; rintro e w7 ⟨⟨v7, rfl, hr7⟩, hb7⟩; have HR7 := h0d hr7; have HB7 := h0d hb7; clear hr7 hb7))
         have HR7b : Hid (RdMS w7 (wc.heap.size ≤ ·) v7 (V * G)) := Rd.mono HR7.out fun k hk => Nat.le_trans HB6.out.size hk
         have HB57 : Hid (Below wc.heap.size wc w7) := HB6.out.trans (HB7.out.mono HB6.out.size)
         have HDG : Hid (∀ g : Nat, g ≤ 4294967295 → dm (V * g) ≤ kv + 2) := fun g hg => by
          have h1 := dm_mul V g
          have h2 : dm g ≤ 1 := (dm_le_iff g 1).2 (by rw [Nat.pow_one]; unfold B32; omega)
          rw [HKV.out] at h1
          omega
         have HV0 := h0d hV0
         go_cut [16, 17] (fun gv pv wx => ∃ (g : Nat) (q : Value), gv = .int .u64 (g : Int) ∧ q = pv ∧ Hid (g = P / V) ∧ Hid (g ≤ 4294967295) ∧ Hid (RdMS wx (wc.heap.size ≤ ·) q (V * g)) ∧ Hid (Below wc.heap.size wc wx))
         case first =>
          go_wp2_with fail
          go_loopw [16, 17] (fun gv pv wx => ∃ g : Nat, gv = .int .u64 (g : Int) ∧ Hid (P / V ≤ g) ∧ Hid (g ≤ 4294967295) ∧ Hid (RdMS wx (wc.heap.size ≤ ·) pv (V * g)) ∧ Hid (Below wc.heap.size wc wx)) (fun gv _ _ => (intOf gv).toNat)
          case atStart => exact ⟨G, rfl, HGQ, HGB, HR7b, HB57⟩
          case round =>
           obtain ⟨g, rfl, HQG, HGL, HRG, HBX⟩ := hrel
           have HORG := h0d (rorder_any _ _ (V * g) P wr HRG.out.all (HP5.out.below HBX.out).all)
           by_cases hle : V * g ≤ P
           ·obtain ⟨c6, hc6⟩ : ∃ c, c = cmpN (V * g) P := ⟨_, rfl⟩
            rw [← hc6] at HORG
            have hc6n : ¬ (0 < c6) := by rw [hc6]; unfold cmpN; split; omega; rw [if_neg (by omega)]; omega
            have hc6b : decide (0 < c6) = false := decide_eq_false hc6n
            have HGE : Hid (g = P / V) := by
             have h1 : g ≤ P / V := by rw [Nat.le_div_iff_mul_le HV0.out, Nat.mul_comm]; exact hle
             have h2 := HQG.out
             show _ = _
             omega
            clear hc6 hle
            go_wp2_with (go_at_call 190; refine HORG.out.mono ?_; rintro e w8 ⟨rfl, hb8⟩; have HB8 := h0d hb8; clear hb8)
            go_meet
            case rel => exact ⟨g, _, rfl, rfl, HGE, HGL, HRG.out.below HB8.out, HBX.out.trans (HB8.out.mono HBX.out.size)⟩
           ·have hcm : cmpN (V * g) P = 1 := by unfold cmpN; rw [if_neg (by omega), if_pos (by omega)]
            rw [hcm] at HORG
            have hgp : 0 < g := Nat.pos_of_ne_zero fun h => hle (by rw [h, Nat.mul_zero]; exact Nat.zero_le _)
            have hwg : IntKind.u64.wrap ((g : Int) - 1) = ((g - 1 : Nat) : Int) := by rw [show (g : Int) - 1 = ((g - 1 : Nat) : Int) by omega]; exact wrap_nat _ (by have := HGL.out; omega)
            obtain ⟨g1, hg1⟩ : ∃ x, x = g - 1 := ⟨_, rfl⟩
            rw [← hg1] at hwg
            have HQ1 : Hid (P / V ≤ g1) := by
             have h1 : P / V < g := by rw [Nat.div_lt_iff_lt_mul HV0.out, Nat.mul_comm]; omega
             show _ ≤ _
             omega
            have HVG : Hid (V * g - V = V * g1) := by show _ = _; rw [hg1, Nat.mul_sub, Nat.mul_one]
            have hle2 : V ≤ V * g := Nat.le_mul_of_pos_right _ hgp
            have HDF := h0d (fun w' (hb : Below wr.heap.size wr w') => rdiff_own _ _ (V * g) V w' (HRG.out.below hb).all ((HV5.out.below HBX.out).below hb).all (by have := HDG.out g HGL.out; omega) hle2)
            rw [HVG.out] at HDF
            have HG1 : Hid (g1 < g) := by show _ < _; omega
            clear hcm hle hg1 hle2
            go_wp2_with (first | (go_at_call 190; refine HORG.out.mono ?_; rintro e w8 ⟨rfl, hb8⟩; have HB8 := h0d hb8; clear hb8) | (go_at_call 204; refine (HDF.out _ HB8.out).mono ?_; rintro e w9 ⟨⟨v9, rfl, hr9⟩, hb9⟩; have HR9 := h0d hr9; have HB9 := h0d hb9; clear hr9 hb9))
            go_roundw
            case rel =>
             have hall := HBX.out.trans (HB8.out.mono HBX.out.size)
             exact ⟨g1, rfl, HQ1, (by have := HGL.out; have := HG1.out; show _ ≤ _; omega), (Rd.mono HR9.out fun k hk => Nat.le_trans (Nat.le_trans HBX.out.size HB8.out.size) hk), hall.trans (HB9.out.mono hall.size)⟩
            case measure => have := HG1.out; simp [intOf]; omega
         case rest =>
          obtain ⟨g, pv, rfl, rfl, HGE, HGL, HRG, HBX⟩ := hcut
          have HO6 : Hid (BlkV wc w4.heap.size O) := HO5.out.below HBX.out
          have hcg := HO6.out.cell (i := j) (x := O.getD j 0) (by rw [List.getD_eq_getElem?_getD, List.getElem?_eq_getElem HOJ.out]; rfl)
          have hfg := HO6.out.frozen j
          have hg32 : IntKind.u32.wrap (g : Int) = (g : Int) := by rw [IntKind.wrap_u32]; have := HGL.out; omega
          have hjL : (j : Int) < (L : Int) := by omega
          go_upto_region 28 with fail
          obtain ⟨W1, hW1⟩ : ∃ W1, W1 = wc.setCell ⟨w4.heap.size, j, none⟩ (.int .u32 (g : Int)) := ⟨_, rfl⟩
          rw [← hW1]
          obtain ⟨i0, hi0, hz0, hz1, hz2⟩ := info_parts info119
          have hsz1 : W1.heap.size = wc.heap.size := by rw [hW1]; simp
          have HSZ : Hid (w4.heap.size < wc.heap.size) := by
           exact HO6.out.lt
          have HSZ1 := h0d hsz1
          have hkp1 : Keep (· ≠ w4.heap.size) wc W1 := by rw [hW1]; exact (Keep.refl _ wc).setCell (fun h => h rfl) _
          have HO1 : Hid (BlkV W1 w4.heap.size (O.set j g)) := by rw [hW1]; exact HO6.out.set_ j g
          have HP1 : Hid (RdMS W1 (· ≠ w4.heap.size) (.slice (some ⟨br, fr + j, none⟩) kp (cr - j)) P) := (HP5.out.below HBX.out).keep hkp1
          have HR1 : Hid (Rd u32V W1 (· ≠ w4.heap.size) (.slice (some ⟨br, fr, none⟩) kr cr) (digs B32 R)) := Rd.keep (HR5.out.below HBX.out) hkp1
          have HG1 : Hid (RdMS W1 (· ≠ w4.heap.size) pv (V * g)) := Rd.keep (Rd.mono HRG.out fun k hk => by have := HO5.out.lt; omega) hkp1
          have HBW1 : Hid (Below w4.heap.size w4 W1) := by
           rw [hW1]
           exact (HE5.out.trans (HBX.out.mono HE5.out.size)).setCell (Nat.le_refl _) _
          have HTK := h0d (HR1.out.take32 (k := j) (by omega))
          have HTL : Hid (((digs B32 R).take j).length = j) := by show _ = _; rw [List.length_take, HER.out]; omega
          have HBA : Hid (Below W1.heap.size W1 (W1.alloc (.cells #[] 271))) := (Below.refl _ W1).alloc (Nat.le_refl _) _
          have HOW0 : Hid ((W1.alloc (.cells #[] 271)).ownsRow W1.heap.size 271 1 (.slice (some ⟨W1.heap.size, 0, none⟩) 0 0) 0 []) := World.ownsRow_made W1 #[] 0 (Nat.le_refl _) (by decide) rfl
          have HTL2 : Hid ((((digs B32 R).take j).map u32V).length = j * 1) := by show _ = _; rw [List.length_map, HTL.out, Nat.mul_one]
          have HTC := h0d (HTK.out.below HBA.out).cells
          have hle : V * g ≤ P := by rw [HGE.out]; exact Nat.mul_div_le P V
          have HDF := h0d (fun w' (hb : Below W1.heap.size W1 w') => rdiff_own _ _ P (V * g) w' (HP1.out.below hb).all (HG1.out.below hb).all (by have := HKP.out; have h2 := HPK.out; omega) hle)
          obtain ⟨D, hD⟩ : ∃ D, D = P - V * g := ⟨_, rfl⟩
          rw [← hD] at HDF
          have HDD := h0d hD
          have hDk : (digs B32 D).length ≤ kv + 2 := by
           have h1 : dm D ≤ dm P := dm_mono (by rw [hD]; exact Nat.sub_le _ _)
           have h2 := HKP.out
           have h3 := HPK.out
           unfold dm at h1 h2; omega
          have HDK := h0d hDk
          have hjkr : (j : Int) ≤ (cr : Int) := by omega
          have hj6 : j ≤ 1800002 := by omega
          clear hW1 hsz1 hkp1 hle hD hDk
          go_wp2_with (at_builtin; refine wpList_append_own _ rfl _ _ 38 rfl W1.heap.size 271 i0 (.int .u32 0) 1 4 Tryz.underlying38 hi0 hz0 hz1 hz2 rfl (by decide) _ 0 [] rfl HOW0.out ⟨br, fr, none⟩ j cr (((digs B32 R).take j).map u32V) rfl HTL2.out HTC.out (fun u hu => by obtain ⟨x, _, rfl⟩ := List.mem_map.1 hu; rfl) (by unfold maxLen; omega) (by omega) (by simp) ?_; intro v6 w6 hown6 hgrow6 _; have HOW6 := h0d hown6; have HG6 := h0d hgrow6; clear hown6 hgrow6)
          --STAGE1
          have HB6 : Hid (Below W1.heap.size W1 w6) := HBA.out.grown HG6.out (by simp) (fun g hg => (HOW0.out.lt g hg).1)
          refine (HDF.out _ HB6.out).mono ?_
          rintro e w7 ⟨⟨v7, rfl, hr7⟩, hb7⟩
          have HR7 := h0d hr7
          have HB7 := h0d hb7
          clear hr7 hb7
          have HOW7 : Hid (w7.ownsRow W1.heap.size 271 1 v6 (0 + j) ([] ++ ((digs B32 R).take j).map u32V)) := HOW6.out.kept ⟨HB7.out.os, HB7.out.tape, HB7.out.output, HB7.out.size, fun b hb _ => HB7.out.block b hb⟩ (Classical.em _)
          --STAGE2
          go_wp2_with (at_builtin; refine wpList_append_rd (f := u32V) rfl _ _ 38 rfl W1.heap.size 271 i0 (.int .u32 0) 4 Tryz.underlying38 hi0 hz0 hz1 hz2 rfl v6 (0 + j) _ rfl HOW7.out v7 _ (digs B32 D) rfl HR7.out (fun u hu => by obtain ⟨x, _, rfl⟩ := List.mem_map.1 hu; rfl) (by have := HDK.out; unfold maxLen; omega) (by have := HDK.out; omega) (by have := HB6.out.size; have := HB7.out.size; omega) ?_; intro v8 w8 hown8 hgrow8 _; have HOW8 := h0d hown8; have HG8 := h0d hgrow8; clear hown8 hgrow8)
          obtain ⟨xs, hxs⟩ : ∃ xs, xs = (digs B32 R).take j ++ digs B32 D := ⟨_, rfl⟩
          have hR8 : Rd u32V w8 (W1.heap.size ≤ ·) v8 xs := by
           have h := HOW8.out
           rw [List.nil_append, ← List.map_append, ← hxs] at h
           exact Rd.of_own (f := u32V) h
          have hxx : ∀ x ∈ xs, x < B32 := fun x hx => by
           rw [hxs] at hx
           rcases List.mem_append.1 hx with h | h
           ·exact digs_lt B32_2 R x (List.mem_of_mem_take h)
           ·exact digs_lt B32_2 D x h
          have hxv : val B32 xs = R % B32 ^ j + B32 ^ j * D := by
           rw [hxs, val_append, HTL.out, val_digs B32_2, val_take_mod]
          have HCT := h0d (rcut_numS _ v8 xs w8 hR8 hxx)
          rw [hxv] at HCT
          obtain ⟨st1, st2⟩ := quot_step (q := g) HOJ.out HV0.out HAV.out (by rw [HGE.out, HP.out])
          rw [← HP.out, ← HDD.out] at st1 st2
          have HS1 := h0d st1
          have HS2 := h0d st2
          have HBR8 : Hid (Below W1.heap.size W1 w8) := ((HB6.out.trans (HB7.out.mono HB6.out.size)).grown HG8.out (Nat.le_trans HB6.out.size HB7.out.size) (fun g hg => (HOW7.out.lt g hg).1))
          clear hxs hR8 hxx hxv st1 st2
          refine HCT.out.mono ?_
          rintro e w9 ⟨⟨v9, rfl, hr9⟩, rfl⟩
          have HR9 := h0d hr9
          clear hr9
          go_wp2_with fail
          go_roundw
          case rel =>
           refine ⟨j, _, O.set j g, by omega, rfl, by show _ = _; rw [List.length_set]; exact HOL.out, fun z hz => ?_, fun i hi => ?_, HO1.out.below HBR8.out, Rd.mono HR9.out (fun k hk => by have := HSZ.out; have := HSZ1.out; omega), HBW1.out.trans (HBR8.out.mono HBW1.out.size), HS1.out, HS2.out⟩
           ·rcases List.mem_or_eq_of_mem_set hz with h | h
            ·exact HOX.out z h
            ·rw [h]; have := HGL.out; unfold B32; omega
           ·rw [List.getD_eq_getElem?_getD, List.getElem?_set_ne (by omega), ← List.getD_eq_getElem?_getD]; exact HOZ.out i (by omega)
          case measure => simp [intOf]
     ·have hR0 : R / B32 ^ j = 0 := digs_div_none B32_2 (by rw [er]; omega)
      obtain ⟨s1, s2⟩ := HSKIP.out (by rw [hR0]; exact hV0)
      have HS1 := h0d s1
      have HS2 := h0d s2
      have hR1 : RdM (wr.alloc (.cells #[] 271)) (.slice (some ⟨wr.heap.size, 0, none⟩) 0 0) 0 := by
       unfold RdM
       rw [digs_zero]
       exact ⟨_, 0, rfl, Nat.le_refl _, by unfold maxLen; omega, fun h => absurd rfl h⟩
      have HORD := h0d (rorder_any _ _ 0 V (wr.alloc (.cells #[] 271)) hR1 HRV.out)
      rw [cmpN_lt hV0] at HORD
      clear er hcr hR0 s1 s2 hR1 hj0 hj
      go_wp2_with (go_at_call 190; refine HORD.out.mono ?_; rintro e w5 ⟨rfl, hb5⟩; have HB5 := h0d hb5; clear hb5)
      go_roundw
      case rel =>
       have hall : Below wr.heap.size wr w5 := HB1.out.trans (HB5.out.mono HB1.out.size)
       exact ⟨j, R, O, by omega, rfl, HOL, HOX, (fun i hi => HOZ.out i (by omega)), HOB.out.below hall, HRR.out.below hall, HBEA.out.trans (HB5.out.mono HBEA.out.size), HS1, HS2⟩
      case measure => simp [intOf]
end Go.Proofs.YtodckaioeomccaaGreat
namespace Go.Proofs.YtodckaioeomccaaGreat
open Go.RowKit
set_option linter.unusedVariables false
set_option linter.unusedSimpArgs false
theorem mwB (b : Bool) (k : Nat) : Value.bool b ≠ u32V k := by simp [u32V]
theorem mwS (A : Option Addr) (n c : Nat) (k : Nat) : Value.slice A n c ≠ u32V k := by simp [u32V]
theorem RdM.set3 {w : World} {v : Value} {n : Nat} (h : RdM w v n) {b : Nat} {c0 : Bool} {A A' : Option Addr} {m c m' c' : Nat} (h0 : w.cell? ⟨b, 0, none⟩ = some (.bool c0)) (h1 : w.cell? ⟨b, 1, none⟩ = some (.slice A m c)) (h2 : w.cell? ⟨b, 2, none⟩ = some (.slice A' m' c')) (u0 u1 u2 : Value) :
  RdM (((w.setCell ⟨b, 0, none⟩ u0).setCell ⟨b, 1, none⟩ u1).setCell ⟨b, 2, none⟩ u2) v n := Rd.set3 h h0 h1 h2 (mwB _) (mwS _ _ _) (mwS _ _ _) u0 u1 u2
def RdF (w : World) (v : Value) (x : Rat) : Prop := ∃ a b, v = .agg #[.bool (decide (x.num < 0)), a, b] ∧ RdM w a x.num.natAbs ∧ RdM w b x.den
theorem RdF.below {w w' : World} {v : Value} {x : Rat} (h : RdF w v x) (hb : Below w.heap.size w w') : RdF w' v x := let ⟨a, b, h1, h2, h3⟩ := h; ⟨a, b, h1, h2.below hb, h3.below hb⟩
theorem RdM.one_new (w : World) : RdM (w.alloc (.cells #[.int .u32 1] 271)) (.slice (some ⟨w.heap.size, 0, none⟩) 1 1) 1 := by
 unfold RdM
 rw [digs_small B32_2 (by decide) (by unfold B32; omega)]
 exact ⟨_, 1, rfl, Nat.le_refl _, by unfold maxLen; omega, fun _ => ⟨_, _, rfl, trivial, fun i hi => by
  have : i = 0 := by simp at hi; omega
  subst this
  exact cell_of_row _ _ 0 _ _ _ (heap_alloc_new w _)⟩⟩
set_option maxRecDepth 100000 in
set_option maxHeartbeats 4000000 in
theorem rgcd_any (va vb : Value) (m n : Nat) (w : World) (hP : RdM w va m) (hQ : RdM w vb n) (hm6 : dm m ≤ 1800000) (hn6 : dm n ≤ 1800000) :
  Calls Tryz.prog 243 #[va, vb] w fun e w' => (∃ v', e = .returned v' ∧ RdM w' v' (Nat.gcd m n)) ∧ Below w.heap.size w w' := by
 obtain ⟨G, hG⟩ : ∃ G, G = Nat.gcd m n := ⟨_, rfl⟩
 rw [← hG]
 have HG := h0d hG
 have HP := h0d hP
 have HQ := h0d hQ
 have HM6 := h0d hm6
 have HN6 := h0d hn6
 clear hG hP hQ hm6 hn6
 go_enter Tryz.func243, Tryz.ntmps243
 go_wp2_with fail
 go_loopg [0, 1] n (fun b va vb wr => ∃ a : Nat, Hid (RdM wr va a) ∧ Hid (RdM wr vb b) ∧ Hid (Nat.gcd a b = G) ∧ Hid (dm a ≤ 1800000) ∧ Hid (dm b ≤ 1800000) ∧ Hid (Below w.heap.size w wr))
 case atStart => exact ⟨m, HP.out, HQ.out, HG.out.symm, HM6.out, HN6.out, Below.refl _ _⟩
 case round =>
  obtain ⟨a, HA, HBn, HGC, HA6, HB6, HBEL⟩ := hrel
  obtain ⟨A1, k1, c1, rfl, e1, hk1, _, hm1, _⟩ := RdV.open_ HA.out
  obtain ⟨A2, k2, c2, rfl, e2, hk2, _, hm2, _⟩ := RdV.open_ HBn.out
  by_cases hb0 : gk = 0
  ·have HAG : Hid (a = G) := by show _ = _; rw [← HGC.out, hb0, Nat.gcd_zero_right]
   rw [hb0, digs_zero] at e2
   obtain rfl : k2 = 0 := by simpa using e2.symm
   clear e1 e2 hb0
   go_wp2_with fail
   go_ret
   exact ⟨⟨_, rfl, by rw [← HAG.out]; exact HA.out⟩, HBEL.out⟩
  ·have hk2p : 0 < k2 := by have := dm_pos hb0; unfold dm at this; omega
   have HG1 : Hid (Nat.gcd gk (a % gk) = G) := by show _ = _; rw [← gcd_step]; exact HGC.out
   have HDIV := h0d (rquot_any _ _ a gk wr HA.out HBn.out hb0 HA6.out HB6.out)
   have HNX : Hid (∀ e w', RDivPost wr a gk e w' → Hid (∃ v1 v2, e = .returned (.tuple #[v1, v2]) ∧ RdM w' v2 (a % gk) ∧ Below wr.heap.size wr w')) := fun e w' ⟨v1, v2, h1, _, h3, h4⟩ => ⟨v1, v2, h1, h3, h4⟩
   have HM6 : Hid (dm (a % gk) ≤ 1800000) := by
    show _ ≤ _
    have := dm_mono (Nat.le_of_lt (Nat.mod_lt a (Nat.pos_of_ne_zero hb0)))
    have := HB6.out
    omega
   have HML : Hid (a % gk < gk) := Nat.mod_lt a (Nat.pos_of_ne_zero hb0)
   clear e1 e2 hb0
   go_wp2_with (go_at_call 244; refine HDIV.out.mono ?_; intro e w2 hd; have hd2 := HNX.out _ _ hd; clear hd; obtain ⟨v1, v2, rfl, hd3, hd4⟩ := hd2.out; have HD3 := h0d hd3; have HD4 := h0d hd4; clear hd2 hd3 hd4)
   go_roundg (a % gk)
   case measure => exact HML.out
   case rel => exact ⟨gk, HBn.out.below HD4.out, HD3.out, HG1.out, HB6.out, HM6.out, HBEL.out.trans (HD4.out.mono HBEL.out.size)⟩
set_option maxRecDepth 100000 in
set_option maxHeartbeats 4000000 in
theorem rfrac_any (neg : Bool) (va vb : Value) (n D : Nat) (w : World) (hn : RdM w va n) (hd : RdM w vb D) (hD : D ≠ 0) (hn6 : dm n ≤ 1800000) (hd6 : dm D ≤ 1800000) :
  Calls Tryz.prog 187 #[.bool neg, va, vb] w fun e w' => (∃ v', e = .returned v' ∧ RdF w' v' (mkRat (signed neg n) D)) ∧ Below w.heap.size w w' := by
 obtain ⟨Aa, ka, ca, rfl, ea, _, _, _, _⟩ := RdV.open_ hn
 obtain ⟨Ad, kd, cd, rfl⟩ := hd.slice
 have HA := h0d hn
 have HD := h0d hd
 obtain ⟨X, hX⟩ : ∃ X, X = mkRat (signed neg n) D := ⟨_, rfl⟩
 obtain ⟨m1, m2, m3⟩ := mk_parts (z := signed neg n) hD
 rw [← hX] at m1 m2 m3 ⊢
 rw [signed_neg] at m1
 rw [signed_abs] at m2 m3
 obtain ⟨g, hg⟩ : ∃ g, g = Nat.gcd n D := ⟨_, rfl⟩
 rw [← hg] at m2 m3
 have hg0 : g ≠ 0 := by rw [hg]; exact Nat.pos_iff_ne_zero.1 (Nat.gcd_pos_of_pos_right _ (Nat.pos_of_ne_zero hD))
 have hg6 : dm g ≤ 1800000 := by rw [hg]; exact Nat.le_trans (dm_mono (Nat.gcd_le_right _ (Nat.pos_of_ne_zero hD))) hd6
 have HRS : Hid (∀ w', Below (w.alloc (.cells #[.bool false, .slice none 0 0, .slice none 0 0] 40)).heap.size (w.alloc (.cells #[.bool false, .slice none 0 0, .slice none 0 0] 40)) w' → _) := fun w' h => res3 (heap_alloc_new w _) h
 by_cases hk : ka = 0
 ·have hn0 : n = 0 := (digs_nil B32_2).1 (List.length_eq_zero_iff.1 (by rw [ea, hk]))
  have HX0 : Hid (X = 0) := by
   show _ = _
   rw [hX, hn0]
   have : signed neg 0 = 0 := by unfold signed; split <;> simp
   rw [this, Rat.zero_mkRat]
  subst hk
  have HR1 : Hid (RdM ((w.alloc (.cells #[.bool false, .slice none 0 0, .slice (some ⟨w.heap.size + 1, 0, none⟩) 1 1] 40)).alloc (.cells #[.int .u32 1] 271)) (.slice (some ⟨w.heap.size + 1, 0, none⟩) 1 1) 1) := by
   have := RdM.one_new (w.alloc (.cells #[.bool false, .slice none 0 0, .slice (some ⟨w.heap.size + 1, 0, none⟩) 1 1] 40))
   show RdM _ _ _
   simpa using this
  clear hn hd ea hn0 m1 m2 m3 hg hX hg0 hg6
  go_enter Tryz.func187, Tryz.ntmps187
  go_wp2_with fail
  exact bodyPost_ret (v := .agg #[.bool false, .slice none 0 0, .slice (some ⟨w.heap.size + 1, 0, none⟩) 1 1]) (by simp [results, Tryz.results187, go_sem]) rfl ⟨⟨_, rfl, by
   rw [HX0.out]
   exact ⟨_, _, rfl, RdM.nil_ _, HR1.out⟩⟩, ((Below.refl _ w).alloc (Nat.le_refl _) _).alloc (by simp) _⟩
 ·have hkb : ((ka : Int) == 0) = false := by simp; omega
  have hnp : (neg && decide (0 < n)) = neg := by
   have : 0 < n := by
    rcases Nat.eq_zero_or_pos n with h | h
    ·rw [h, digs_zero] at ea; simp at ea; omega
    ·exact h
   simp [this]
  rw [hnp] at m1
  have M1 := h0d m1
  have M2 := h0d m2
  have M3 := h0d m3
  have HGC : Hid (∀ w', Below w.heap.size w w' → Calls Tryz.prog 243 #[.slice Aa ka ca, .slice Ad kd cd] w' fun e w'' => (∃ v', e = .returned v' ∧ RdM w'' v' g) ∧ Below w'.heap.size w' w'') := fun w' h => by
   rw [hg]; exact rgcd_any _ _ n D w' (hn.below h) (hd.below h) hn6 hd6
  have HQ1 : Hid (∀ v w', Below w.heap.size w w' → RdM w' v g → Calls Tryz.prog 244 #[.slice Aa ka ca, v] w' fun e w'' => Hid (∃ v1 v2, e = .returned (.tuple #[v1, v2]) ∧ RdM w'' v1 X.num.natAbs ∧ Below w'.heap.size w' w'')) := fun v w' h hr =>
   (rquot_any _ v n g w' (hn.below h) hr hg0 hn6 hg6).mono fun e w'' ⟨v1, v2, h1, h2, _, h4⟩ => ⟨v1, v2, h1, by rw [m2]; exact h2, h4⟩
  have HQ2 : Hid (∀ v w', Below w.heap.size w w' → RdM w' v g → Calls Tryz.prog 244 #[.slice Ad kd cd, v] w' fun e w'' => Hid (∃ v1 v2, e = .returned (.tuple #[v1, v2]) ∧ RdM w'' v1 X.den ∧ Below w'.heap.size w' w'')) := fun v w' h hr =>
   (rquot_any _ v D g w' (hd.below h) hr hg0 hd6 hg6).mono fun e w'' ⟨v1, v2, h1, h2, _, h4⟩ => ⟨v1, v2, h1, by rw [m3]; exact h2, h4⟩
  have HW1 : Hid (Below w.heap.size w (w.alloc (.cells #[.bool false, .slice none 0 0, .slice none 0 0] 40))) := (Below.refl _ w).alloc (Nat.le_refl _) _
  obtain ⟨W1, hW1⟩ : ∃ W, W = w.alloc (.cells #[.bool false, .slice none 0 0, .slice none 0 0] 40) := ⟨_, rfl⟩
  rw [← hW1] at HRS HW1
  have HE := h0d hW1
  clear hn hd ea m1 m2 m3 hg hX hg0 hg6 hnp hW1
  go_enter Tryz.func187, Tryz.ntmps187
  go_wp2_with fail
  rw [← HE.out]
  refine (HGC.out _ HW1.out).mono ?_
  rintro e w3 ⟨⟨v3, rfl, hr3⟩, hb3⟩
  have HR3 := h0d hr3
  have HB3 := h0d hb3
  have HBW3 : Hid (Below w.heap.size w w3) := HW1.out.trans (hb3.mono HW1.out.size)
  clear hr3 hb3
  go_wp2_with fail
  refine (HQ1.out _ _ HBW3.out HR3.out).mono ?_
  intro e w4 hx
  obtain ⟨v4, u4, rfl, hr4, hb4⟩ := hx.out
  obtain ⟨A4, n4, c4, rfl⟩ := hr4.slice
  have HR4 := h0d hr4
  have HB4 : Hid (Below W1.heap.size W1 w4) := HB3.out.trans (hb4.mono HB3.out.size)
  have HBW4 : Hid (Below w.heap.size w w4) := HBW3.out.trans (hb4.mono HBW3.out.size)
  have HR34 := h0d (HR3.out.below hb4)
  clear hx hr4 hb4
  go_wp2_with fail
  refine (HQ2.out _ _ HBW4.out HR34.out).mono ?_
  intro e w5 hx
  obtain ⟨v5, u5, rfl, hr5, hb5⟩ := hx.out
  obtain ⟨A5, n5, c5, rfl⟩ := hr5.slice
  have HR5 := h0d hr5
  have HB5 : Hid (Below W1.heap.size W1 w5) := HB4.out.trans (hb5.mono HB4.out.size)
  have HBW5 : Hid (Below w.heap.size w w5) := HBW4.out.trans (hb5.mono HBW4.out.size)
  have HR45 := h0d (HR4.out.below hb5)
  obtain ⟨q0, q1, q2, q3, q4, q5⟩ := HRS.out _ HB5.out
  clear hx hr5 hb5
  go_wp2_with fail
  exact bodyPost_ret (v := .agg #[.bool neg, .slice A4 n4 c4, .slice A5 n5 c5]) (by simp [results, Tryz.results187, go_sem, q0, q1, q2]) rfl ⟨⟨_, rfl, _, _, by rw [M1.out], HR45.out.set3 q0 q1 q2 _ _ _, HR5.out.set3 q0 q1 q2 _ _ _⟩, ((HBW5.out.setCell (by simp) _).setCell (by simp) _).setCell (by simp) _⟩
end Go.Proofs.YtodckaioeomccaaGreat
namespace Go.Proofs.YtodckaioeomccaaGreat
open Go.RowKit
set_option linter.unusedVariables false
set_option linter.unusedSimpArgs false
theorem RdF.parts {w : World} {v : Value} {x : Rat} (h : RdF w v x) : ∃ Aa ka ca Ab kb cb, v = .agg #[.bool (decide (x.num < 0)), .slice Aa ka ca, .slice Ab kb cb] ∧ RdM w (.slice Aa ka ca) x.num.natAbs ∧ RdM w (.slice Ab kb cb) x.den := by
 obtain ⟨a, b, rfl, h1, h2⟩ := h
 obtain ⟨A, k, c, rfl⟩ := h1.slice
 obtain ⟨A', k', c', rfl⟩ := h2.slice
 exact ⟨_, _, _, _, _, _, rfl, h1, h2⟩
theorem RdM.len {w : World} {A : Option Addr} {k c n : Nat} (h : RdM w (.slice A k c) n) : dm n = k := by
 obtain ⟨A', k', c', e, h1, _⟩ := RdV.open_ h
 simp only [Value.slice.injEq] at e
 obtain ⟨_, rfl, _⟩ := e
 exact h1
set_option maxHeartbeats 1000000 in
theorem runder_any (v : Value) (x : Rat) (w : World) (h : RdF w v x) : Calls Tryz.prog 191 #[v] w fun e w' => (∃ v', e = .returned v' ∧ RdM w' v' x.den) ∧ Below w.heap.size w w' := by
 obtain ⟨Aa, ka, ca, Ab, kb, cb, rfl, ha, hb⟩ := h.parts
 have hk : dm x.den = kb := hb.len
 have hkp : 0 < kb := by rw [← hk]; exact dm_pos x.den_nz
 have hkb : ((kb : Int) == 0) = false := by simp; omega
 obtain ⟨ng, hng⟩ : ∃ b, b = decide (x.num < 0) := ⟨_, rfl⟩
 rw [← hng]
 have HBB : Hid (RdM (w.alloc (.cells #[.bool ng, .slice Aa ka ca, .slice Ab kb cb] 40)) (.slice Ab kb cb) x.den) := hb.below ((Below.refl _ w).alloc (Nat.le_refl _) _)
 clear hk ha hb h hng
 go_enter Tryz.func191, Tryz.ntmps191
 go_wp2_with fail
 go_ret
 exact ⟨⟨_, rfl, HBB.out⟩, (Below.refl _ w).alloc (Nat.le_refl _) _⟩
theorem num_zero_iff {x : Rat} : dm x.num.natAbs = 0 ↔ x = 0 := by
 constructor
 ·intro h
  have h1 : x.num.natAbs = 0 := (digs_nil B32_2).1 (List.length_eq_zero_iff.1 h)
  exact Rat.num_eq_zero.1 (Int.natAbs_eq_zero.1 h1)
 ·rintro rfl; exact dm_zero
set_option maxHeartbeats 1000000 in
theorem rzero_any (v : Value) (x : Rat) (w : World) (h : RdF w v x) : Calls Tryz.prog 172 #[v] w fun e w' => e = .returned (.bool (decide (x = 0))) ∧ Below w.heap.size w w' := by
 obtain ⟨Aa, ka, ca, Ab, kb, cb, rfl, ha, hb⟩ := h.parts
 have hk : dm x.num.natAbs = ka := ha.len
 obtain ⟨ng, hng⟩ : ∃ b, b = decide (x.num < 0) := ⟨_, rfl⟩
 rw [← hng]
 have HZ : Hid (decide (x = 0) = ((ka : Int) == 0)) := by
  show _ = _
  rw [Bool.eq_iff_iff, decide_eq_true_iff, ← num_zero_iff, hk]
  simp
 clear hk ha hb h hng
 go_enter Tryz.func172, Tryz.ntmps172
 go_wp2_with fail
 go_ret
 exact ⟨by rw [HZ.out]; rfl, (Below.refl _ w).alloc (Nat.le_refl _) _⟩
theorem dm_word {k : Nat} (h : k < B64) : dm k ≤ 2 := (dm_le_iff k 2).2 (by
 have : (B32 : Nat) ^ 2 = B64 := by unfold B32 B64; decide
 rw [this]; exact h)
theorem dm_one : dm 1 ≤ 1 := (dm_le_iff 1 1).2 (by rw [Nat.pow_one]; unfold B32; omega)
theorem signed_mk (n : Int) : mkRat (signed (decide (n < 0)) n.natAbs) 1 = (n : Rat) := by
 have : signed (decide (n < 0)) n.natAbs = n := by
  unfold signed
  by_cases h : n < 0
  ·rw [if_pos (by simpa using h)]; omega
  ·rw [if_neg (by simpa using h)]; omega
 rw [this, Rat.mkRat_one]
set_option maxRecDepth 100000 in
set_option maxHeartbeats 4000000 in
theorem rwhole_any (n : Int) (w : World) (h1 : -9223372036854775808 ≤ n) (h2 : n ≤ 9223372036854775807) : Calls Tryz.prog 104 #[.int .i64 n] w fun e w' => (∃ v', e = .returned v' ∧ RdF w' v' (n : Rat)) ∧ Below w.heap.size w w' := by
 obtain ⟨k, hk⟩ : ∃ k : Nat, k = n.natAbs := ⟨_, rfl⟩
 have hkB : k < B64 := by unfold B64; omega
 have HV := h0d (signed_mk n)
 rw [← hk] at HV
 obtain ⟨W1, hW1⟩ : ∃ W, W = w.alloc (.cells #[.bool false, .slice none 0 0, .slice none 0 0] 40) := ⟨_, rfl⟩
 have HW1 : Hid (Below w.heap.size w W1) := by rw [hW1]; exact (Below.refl _ w).alloc (Nat.le_refl _) _
 have HRS : Hid (∀ w', Below W1.heap.size W1 w' → _) := fun w' h => res3 (c0 := .bool false) (c1 := .slice none 0 0) (c2 := .slice none 0 0) (b := w.heap.size) (t := 40) (by rw [hW1]; exact heap_alloc_new w _) h
 have HE := h0d hW1
 have HNT := h0d (fun w' => rnat_any k w' hkB)
 have HFR : Hid (∀ v1 v2 w', RdM w' v1 k → RdM w' v2 1 → Calls Tryz.prog 187 #[.bool (decide (n < 0)), v1, v2] w' fun e w'' => (∃ v', e = .returned v' ∧ RdF w'' v' (n : Rat)) ∧ Below w'.heap.size w' w'') := fun v1 v2 w' g1 g2 => by
  have := rfrac_any (decide (n < 0)) v1 v2 k 1 w' g1 g2 (by decide) (Nat.le_trans (dm_word hkB) (by omega)) (Nat.le_trans dm_one (by omega))
  rw [HV.out] at this
  exact this
 clear hW1
 by_cases h0 : n < 0
 ·have hd : decide (n < 0) = true := decide_eq_true h0
  rw [hd] at HFR
  have hc1 : IntKind.u64.wrap (-(IntKind.u64.wrap n)) = (k : Int) := by rw [IntKind.wrap_u64, IntKind.wrap_u64]; omega
  obtain ⟨m, hm⟩ : ∃ m : Nat, m = 18446744073709551616 - k := ⟨_, rfl⟩
  have hc2 : IntKind.u64.wrap n = (m : Int) := by rw [IntKind.wrap_u64]; unfold B64 at hkB; omega
  rw [hc2] at hc1
  clear hm
  clear hk hkB hd
  go_enter Tryz.func104, Tryz.ntmps104
  go_wp2_with fail
  rw [← HE.out]
  refine (HNT.out _).mono ?_
  rintro e w3 ⟨⟨v3, rfl, hr3⟩, hb3⟩
  have HR3 := h0d hr3
  have HB3 := h0d hb3
  clear hr3 hb3
  have HB4 : Hid (Below W1.heap.size W1 (w3.alloc (.cells #[.int .u32 1] 271))) := HB3.out.alloc HB3.out.size _
  have HR34 : Hid (RdM (w3.alloc (.cells #[.int .u32 1] 271)) v3 k) := HR3.out.below ((Below.refl _ w3).alloc (Nat.le_refl _) _)
  go_wp2_with fail
  refine (HFR.out _ _ _ HR34.out (RdM.one_new w3)).mono ?_
  rintro e w5 ⟨⟨v5, rfl, hr5⟩, hb5⟩
  obtain ⟨A4, n4, c4, A5, n5, c5, rfl, hr4, hr6⟩ := hr5.parts
  have HR4 := h0d hr4
  have HR6 := h0d hr6
  have HB5 : Hid (Below W1.heap.size W1 w5) := HB4.out.trans (hb5.mono HB4.out.size)
  have HBW5 : Hid (Below w.heap.size w w5) := HW1.out.trans (HB5.out.mono HW1.out.size)
  obtain ⟨q0, q1, q2, q3, q4, q5⟩ := HRS.out _ HB5.out
  clear hr4 hr5 hr6 hb5
  obtain ⟨dn, hdn⟩ : ∃ b, b = decide ((n : Rat).num < 0) := ⟨_, rfl⟩
  rw [← hdn]
  have HDN := h0d hdn
  clear hdn
  go_wp2_with fail
  exact bodyPost_ret (v := .agg #[.bool dn, .slice A4 n4 c4, .slice A5 n5 c5]) (by simp [results, Tryz.results104, go_sem, q0, q1, q2]) rfl ⟨⟨_, rfl, _, _, by rw [HDN.out], HR4.out.set3 q0 q1 q2 _ _ _, HR6.out.set3 q0 q1 q2 _ _ _⟩, ((HBW5.out.setCell (by simp) _).setCell (by simp) _).setCell (by simp) _⟩
 ·have hd : decide (n < 0) = false := decide_eq_false h0
  rw [hd] at HFR
  have hc2 : IntKind.u64.wrap n = (k : Int) := by rw [IntKind.wrap_u64]; unfold B64 at hkB; omega
  clear hk hkB hd
  go_enter Tryz.func104, Tryz.ntmps104
  go_wp2_with fail
  rw [← HE.out]
  refine (HNT.out _).mono ?_
  rintro e w3 ⟨⟨v3, rfl, hr3⟩, hb3⟩
  have HR3 := h0d hr3
  have HB3 := h0d hb3
  clear hr3 hb3
  have HB4 : Hid (Below W1.heap.size W1 (w3.alloc (.cells #[.int .u32 1] 271))) := HB3.out.alloc HB3.out.size _
  have HR34 : Hid (RdM (w3.alloc (.cells #[.int .u32 1] 271)) v3 k) := HR3.out.below ((Below.refl _ w3).alloc (Nat.le_refl _) _)
  go_wp2_with fail
  refine (HFR.out _ _ _ HR34.out (RdM.one_new w3)).mono ?_
  rintro e w5 ⟨⟨v5, rfl, hr5⟩, hb5⟩
  obtain ⟨A4, n4, c4, A5, n5, c5, rfl, hr4, hr6⟩ := hr5.parts
  have HR4 := h0d hr4
  have HR6 := h0d hr6
  have HB5 : Hid (Below W1.heap.size W1 w5) := HB4.out.trans (hb5.mono HB4.out.size)
  have HBW5 : Hid (Below w.heap.size w w5) := HW1.out.trans (HB5.out.mono HW1.out.size)
  obtain ⟨q0, q1, q2, q3, q4, q5⟩ := HRS.out _ HB5.out
  clear hr4 hr5 hr6 hb5
  obtain ⟨dn, hdn⟩ : ∃ b, b = decide ((n : Rat).num < 0) := ⟨_, rfl⟩
  rw [← hdn]
  have HDN := h0d hdn
  clear hdn
  go_wp2_with fail
  exact bodyPost_ret (v := .agg #[.bool dn, .slice A4 n4 c4, .slice A5 n5 c5]) (by simp [results, Tryz.results104, go_sem, q0, q1, q2]) rfl ⟨⟨_, rfl, _, _, by rw [HDN.out], HR4.out.set3 q0 q1 q2 _ _ _, HR6.out.set3 q0 q1 q2 _ _ _⟩, ((HBW5.out.setCell (by simp) _).setCell (by simp) _).setCell (by simp) _⟩
def QM (k : Nat) (x : Rat) : Prop := dm x.num.natAbs ≤ k ∧ dm x.den ≤ k
theorem abs_imul (z : Int) (n : Nat) : (z * n).natAbs = z.natAbs * n := by rw [Int.natAbs_mul, Int.natAbs_natCast]
theorem neg_imul (z : Int) {n : Nat} (hn : n ≠ 0) : decide (z * (n : Int) < 0) = decide (z < 0) := by
 rw [decide_eq_decide]
 constructor
 ·intro h
  refine Int.not_le.1 fun h0 => ?_
  have := Int.mul_nonneg h0 (show (0 : Int) ≤ (n : Int) by omega)
  omega
 ·intro h
  exact Int.mul_neg_of_neg_of_pos h (by omega)
set_option maxRecDepth 100000 in
set_option maxHeartbeats 8000000 in
theorem radd_any (v u : Value) (x y : Rat) (w : World) (hv : RdF w v x) (hu : RdF w u y) (hx6 : QM 400000 x) (hy6 : QM 400000 y) :
  Calls Tryz.prog 130 #[v, u] w fun e w' => (∃ v', e = .returned v' ∧ RdF w' v' (x + y)) ∧ Below w.heap.size w w' := by
 obtain ⟨hx1, hx2⟩ := hx6
 obtain ⟨hy1, hy2⟩ := hy6
 have HU1 := h0d (fun w' (h : Below w.heap.size w w') => runder_any _ x w' (hv.below h))
 have HU2 := h0d (fun w' (h : Below w.heap.size w w') => runder_any _ y w' (hu.below h))
 obtain ⟨Aa, ka, ca, Ab, kb, cb, rfl, ha, hb⟩ := hv.parts
 obtain ⟨Ac, kc, cc, Ad, kd, cd, rfl, hc, hd⟩ := hu.parts
 have hxd := x.den_nz
 have hyd := y.den_nz
 have HADD : Hid (mkRat (x.num * y.den + y.num * x.den) (x.den * y.den) = x + y) := (Rat.add_def' x y).symm
 have hs1 := neg_imul x.num hyd
 have hs2 := neg_imul y.num hxd
 obtain ⟨a, hae⟩ : ∃ a, a = x.num.natAbs * y.den := ⟨_, rfl⟩
 obtain ⟨b, hbe⟩ : ∃ b, b = y.num.natAbs * x.den := ⟨_, rfl⟩
 have ha1 := abs_imul x.num y.den
 have hb1 := abs_imul y.num x.den
 rw [← hae] at ha1
 rw [← hbe] at hb1
 obtain ⟨z, hz⟩ : ∃ z, z = x.num * (y.den : Int) := ⟨_, rfl⟩
 obtain ⟨t, ht⟩ : ∃ z, z = y.num * (x.den : Int) := ⟨_, rfl⟩
 rw [← hz] at hs1 ha1 HADD
 rw [← ht] at hs2 hb1 HADD
 obtain ⟨D, hDe⟩ : ∃ D, D = x.den * y.den := ⟨_, rfl⟩
 rw [← hDe] at HADD
 have hD0 : D ≠ 0 := by rw [hDe]; exact Nat.mul_ne_zero hxd hyd
 have hp1 : dm a ≤ 800000 := by have := dm_mul x.num.natAbs y.den; rw [hae]; omega
 have hp2 : dm b ≤ 800000 := by have := dm_mul y.num.natAbs x.den; rw [hbe]; omega
 have hp3 : dm (a + b) ≤ 800001 := by have := dm_add a b; omega
 have hp4 : dm D ≤ 800000 := by have := dm_mul x.den y.den; rw [hDe]; omega
 have HPA : Hid (∀ v' w', Below w.heap.size w w' → RdM w' v' y.den → Calls Tryz.prog 201 #[.slice Aa ka ca, v'] w' fun e w'' => (∃ v', e = .returned v' ∧ RdM w'' v' a) ∧ Below w'.heap.size w' w'') := fun v' w' h hr => by
  rw [hae]; exact rprod_any _ v' x.num.natAbs y.den w' (ha.below h) hr (by omega) (by omega)
 have HPB : Hid (∀ v' w', Below w.heap.size w w' → RdM w' v' x.den → Calls Tryz.prog 201 #[.slice Ac kc cc, v'] w' fun e w'' => (∃ v', e = .returned v' ∧ RdM w'' v' b) ∧ Below w'.heap.size w' w'') := fun v' w' h hr => by
  rw [hbe]; exact rprod_any _ v' y.num.natAbs x.den w' (hc.below h) hr (by omega) (by omega)
 have HPD : Hid (∀ v1 v2 w', RdM w' v1 x.den → RdM w' v2 y.den → Calls Tryz.prog 201 #[v1, v2] w' fun e w'' => (∃ v', e = .returned v' ∧ RdM w'' v' D) ∧ Below w'.heap.size w' w'') := fun v1 v2 w' h1 h2 => by
  rw [hDe]; exact rprod_any v1 v2 x.den y.den w' h1 h2 (by omega) (by omega)
 have HSUM := h0d (fun v1 v2 w' (h1 : RdM w' v1 a) (h2 : RdM w' v2 b) => rsum_any v1 v2 a b w' h1 h2 (by omega) (by omega))
 have HORD := h0d (fun v1 v2 w' (h1 : RdM w' v1 a) (h2 : RdM w' v2 b) => rorder_any v1 v2 a b w' h1 h2)
 have HDAB := h0d (fun v1 v2 w' (h1 : RdM w' v1 a) (h2 : RdM w' v2 b) (hle : b ≤ a) => rdiff_any v1 v2 a b w' h1 h2 (by omega) hle)
 have HDBA := h0d (fun v1 v2 w' (h1 : RdM w' v1 b) (h2 : RdM w' v2 a) (hle : a ≤ b) => rdiff_any v1 v2 b a w' h1 h2 (by omega) hle)
 have HFR := h0d (fun (s : Bool) (N : Nat) v1 v2 w' (h1 : RdM w' v1 N) (h2 : RdM w' v2 D) (h3 : dm N ≤ 800001) (h4 : signed s N = z + t) => by
  have := rfrac_any s v1 v2 N D w' h1 h2 hD0 (by omega) (by omega)
  rw [h4, HADD.out] at this
  exact this)
 obtain ⟨ng, hng⟩ : ∃ b, b = decide (x.num < 0) := ⟨_, rfl⟩
 obtain ⟨nh, hnh⟩ : ∃ b, b = decide (y.num < 0) := ⟨_, rfl⟩
 rw [← hng] at hs1 HU1 ⊢
 rw [← hnh] at hs2 HU2 ⊢
 have HNG := h0d hs1
 have HNH := h0d hs2
 have HA1 := h0d ha1
 have HB1 := h0d hb1
 have HP3 := h0d hp3
 have HP1 := h0d hp1
 have HP2 := h0d hp2
 clear ha hb hc hd hng hnh hp1 hp2 hp3 hp4 hxd hyd hs1 hs2 hae hbe ha1 hb1 hz ht hDe hD0 hx1 hx2 hy1 hy2 hv hu
 obtain ⟨W2, hW2⟩ : ∃ W2, W2 = (((w.alloc (Obj.cells #[Value.bool ng, Value.slice Aa ka ca, Value.slice Ab kb cb] 40)).alloc (Obj.cells #[Value.bool nh, Value.slice Ac kc cc, Value.slice Ad kd cd] 40)).alloc (Obj.cells #[Value.bool false, Value.slice none 0 0, Value.slice none 0 0] 40)) := ⟨_, rfl⟩
 have hb2w : Below w.heap.size w W2 := by rw [hW2]; exact (((Below.refl _ w).alloc (by simp <;> omega) _).alloc (by simp <;> omega) _).alloc (by simp <;> omega) _
 have hsz2 : w.heap.size + 3 ≤ W2.heap.size := by rw [hW2]; simp
 have HARG0 : Hid (∀ w', Below W2.heap.size W2 w' → _) := fun w' h => resL (cs := #[Value.bool ng, Value.slice Aa ka ca, Value.slice Ab kb cb]) (b := w.heap.size) (t := 40) (by rw [hW2, Below.heap_alloc _ _ _ (by simp <;> omega), Below.heap_alloc _ _ _ (by simp <;> omega)]; have hx := heap_alloc_new w (.cells #[Value.bool ng, Value.slice Aa ka ca, Value.slice Ab kb cb] 40); simpa using hx) h
 have HARG1 : Hid (∀ w', Below W2.heap.size W2 w' → _) := fun w' h => resL (cs := #[Value.bool nh, Value.slice Ac kc cc, Value.slice Ad kd cd]) (b := w.heap.size + 1) (t := 40) (by rw [hW2, Below.heap_alloc _ _ _ (by simp <;> omega)]; have hx := heap_alloc_new (w.alloc (Obj.cells #[Value.bool ng, Value.slice Aa ka ca, Value.slice Ab kb cb] 40)) (.cells #[Value.bool nh, Value.slice Ac kc cc, Value.slice Ad kd cd] 40); simpa using hx) h
 have HRES0 : Hid (∀ w', Below W2.heap.size W2 w' → _) := fun w' h => resL (cs := #[Value.bool false, Value.slice none 0 0, Value.slice none 0 0]) (b := w.heap.size + 2) (t := 40) (by rw [hW2]; have hx := heap_alloc_new ((w.alloc (Obj.cells #[Value.bool ng, Value.slice Aa ka ca, Value.slice Ab kb cb] 40)).alloc (Obj.cells #[Value.bool nh, Value.slice Ac kc cc, Value.slice Ad kd cd] 40)) (.cells #[Value.bool false, Value.slice none 0 0, Value.slice none 0 0] 40); simpa using hx) h
 have HB2W := h0d hb2w
 have HSZ2 := h0d hsz2
 have HW2 := h0d hW2
 have HBs : Hid (Below W2.heap.size W2 W2) := Below.refl _ _
 clear hW2 hb2w hsz2
 by_cases hE : ng = nh
 ·have hEb : (ng == nh) = true := by simp [hE]
  have HSG : Hid (signed ng (a + b) = z + t) := by show _ = _; rw [← HA1.out, ← HB1.out, ← HNG.out]; exact signed_sum (by rw [HNG.out, HNH.out, hE])
  have HSZ : Hid (dm (a + b) ≤ 800001) := HP3
  clear hE
  go_enter Tryz.func130, Tryz.ntmps130
  go_wp2_with fail
  rw [← HW2.out]
  have HBD1 : Hid (Below W2.heap.size W2 W2.drew) := HBs.out.drew
  have dd0 := HARG0.out _ HBD1.out
  have dd1 := HARG1.out _ HBD1.out
  refine seq_start (S := fun w' => w'.cell? ⟨w.heap.size, 0, none⟩ = some (Value.bool ng) ∧ w'.cell? ⟨w.heap.size, 1, none⟩ = some (Value.slice Aa ka ca) ∧ w'.cell? ⟨w.heap.size, 2, none⟩ = some (Value.slice Ab kb cb) ∧ w'.cell? ⟨w.heap.size + 1, 0, none⟩ = some (Value.bool nh) ∧ w'.cell? ⟨w.heap.size + 1, 1, none⟩ = some (Value.slice Ac kc cc) ∧ w'.cell? ⟨w.heap.size + 1, 2, none⟩ = some (Value.slice Ad kd cd)) (by kernel_rfl) (by kernel_rfl) (by exact ⟨(dd0 0).1, (dd0 1).1, (dd0 2).1, (dd1 0).1, (dd1 1).1, (dd1 2).1⟩) ?_
  clear dd0 dd1
  repeat (first | refine tk0 (h := ?_) | refine tkG (h := ?_) | refine skG (h := ?_))
  refine seq_pull 1 ?_
  simp only [places, pull]
  (first
   | refine tk0 (h := ?_)
   | refine tkG (h := ?_)
   | refine skG (h := ?_))
  refine seq_op (by kernel_rfl) (by rfl) (fun K hK => ?_)
  go_simp
  refine (HU1.out _ (HB2W.out.trans (HBD1.out.mono HB2W.out.size))).mono ?_
  rintro e w3 ⟨⟨v3, rfl, hr3⟩, hbx⟩
  obtain ⟨A3, n3, c3, rfl⟩ := hr3.slice
  have HR3 := h0d hr3
  have HB_w3 : Hid (Below W2.heap.size W2 w3) := HBD1.out.trans (hbx.mono HBD1.out.size)
  have dd0 := HARG0.out _ HB_w3.out
  have dd1 := HARG1.out _ HB_w3.out
  refine hK.out _ _ (by exact ⟨(dd0 0).1, (dd0 1).1, (dd0 2).1, (dd1 0).1, (dd1 1).1, (dd1 2).1⟩) ?_
  clear hK K dd0 dd1 hbx hr3
  repeat (first | refine tk0 (h := ?_) | refine tkG (h := ?_) | refine skG (h := ?_))
  refine seq_op (by kernel_rfl) (by rfl) (fun K hK => ?_)
  go_simp
  refine (HU2.out _ (HB2W.out.trans (HB_w3.out.mono HB2W.out.size))).mono ?_
  rintro e w4 ⟨⟨v4, rfl, hr4⟩, hbx⟩
  obtain ⟨A4, n4, c4, rfl⟩ := hr4.slice
  have HR4 := h0d hr4
  have HR34 := h0d (HR3.out.below hbx)
  have HB_w4 : Hid (Below W2.heap.size W2 w4) := HB_w3.out.trans (hbx.mono HB_w3.out.size)
  have dd0 := HARG0.out _ HB_w4.out
  have dd1 := HARG1.out _ HB_w4.out
  refine hK.out _ _ (by exact ⟨(dd0 0).1, (dd0 1).1, (dd0 2).1, (dd1 0).1, (dd1 1).1, (dd1 2).1⟩) ?_
  clear hK K dd0 dd1 hbx hr4
  repeat (first | refine tk0 (h := ?_) | refine tkG (h := ?_) | refine skG (h := ?_))
  refine seq_done (by kernel_rfl) ?_
  go_wp2_with fail
  have HBD2 : Hid (Below W2.heap.size W2 w4.drew) := HB_w4.out.drew
  have dd0 := HARG0.out _ HBD2.out
  have dd1 := HARG1.out _ HBD2.out
  refine seq_start (S := fun w' => w'.cell? ⟨w.heap.size, 0, none⟩ = some (Value.bool ng) ∧ w'.cell? ⟨w.heap.size, 1, none⟩ = some (Value.slice Aa ka ca) ∧ w'.cell? ⟨w.heap.size, 2, none⟩ = some (Value.slice Ab kb cb) ∧ w'.cell? ⟨w.heap.size + 1, 0, none⟩ = some (Value.bool nh) ∧ w'.cell? ⟨w.heap.size + 1, 1, none⟩ = some (Value.slice Ac kc cc) ∧ w'.cell? ⟨w.heap.size + 1, 2, none⟩ = some (Value.slice Ad kd cd)) (by kernel_rfl) (by kernel_rfl) (by exact ⟨(dd0 0).1, (dd0 1).1, (dd0 2).1, (dd1 0).1, (dd1 1).1, (dd1 2).1⟩) ?_
  clear dd0 dd1
  repeat (first | refine tk0 (h := ?_) | refine tkG (h := ?_) | refine skG (h := ?_))
  refine seq_pull 1 ?_
  simp only [places, pull]
  (first
   | refine tk0 (h := ?_)
   | refine tkG (h := ?_)
   | refine skG (h := ?_))
  refine seq_pull 1 ?_
  simp only [places, pull]
  (first
   | refine tk0 (h := ?_)
   | refine tkG (h := ?_)
   | refine skG (h := ?_))
  refine seq_pull 1 ?_
  simp only [places, pull]
  (first
   | refine tk0 (h := ?_)
   | refine tkG (h := ?_)
   | refine skG (h := ?_))
  refine seq_op (by kernel_rfl) (by rfl) (fun K hK => ?_)
  go_simp
  refine (HPA.out _ _ (HB2W.out.trans (HBD2.out.mono HB2W.out.size)) (HR4.out.below (by exact (Below.refl _ w4).drew))).mono ?_
  rintro e w5 ⟨⟨v5, rfl, hr5⟩, hbx⟩
  obtain ⟨A5, n5, c5, rfl⟩ := hr5.slice
  have HR5 := h0d hr5
  have HB45 : Hid (Below w4.heap.size w4 w5) := ((Below.refl _ w4).drew).trans hbx
  have HB_w5 : Hid (Below W2.heap.size W2 w5) := HBD2.out.trans (hbx.mono HBD2.out.size)
  have dd0 := HARG0.out _ HB_w5.out
  have dd1 := HARG1.out _ HB_w5.out
  refine hK.out _ _ (by exact ⟨(dd0 0).1, (dd0 1).1, (dd0 2).1, (dd1 0).1, (dd1 1).1, (dd1 2).1⟩) ?_
  clear hK K dd0 dd1 hbx hr5
  repeat (first | refine tk0 (h := ?_) | refine tkG (h := ?_) | refine skG (h := ?_))
  refine seq_op (by kernel_rfl) (by rfl) (fun K hK => ?_)
  go_simp
  refine (HPB.out _ _ (HB2W.out.trans (HB_w5.out.mono HB2W.out.size)) (HR34.out.below HB45.out)).mono ?_
  rintro e w6 ⟨⟨v6, rfl, hr6⟩, hbx⟩
  obtain ⟨A6, n6, c6, rfl⟩ := hr6.slice
  have HR6 := h0d hr6
  have HR56 := h0d (HR5.out.below hbx)
  have HB46 : Hid (Below w4.heap.size w4 w6) := HB45.out.trans (hbx.mono HB45.out.size)
  have HB_w6 : Hid (Below W2.heap.size W2 w6) := HB_w5.out.trans (hbx.mono HB_w5.out.size)
  have dd0 := HARG0.out _ HB_w6.out
  have dd1 := HARG1.out _ HB_w6.out
  refine hK.out _ _ (by exact ⟨(dd0 0).1, (dd0 1).1, (dd0 2).1, (dd1 0).1, (dd1 1).1, (dd1 2).1⟩) ?_
  clear hK K dd0 dd1 hbx hr6
  repeat (first | refine tk0 (h := ?_) | refine tkG (h := ?_) | refine skG (h := ?_))
  have HR36 := h0d (HR34.out.below HB46.out)
  have HR46 := h0d (HR4.out.below HB46.out)
  have cc0_0 : w6.cell? ⟨w.heap.size, 0, none⟩ = some (Value.bool ng) := (HARG0.out _ HB_w6.out 0).1
  have cc0_1 : w6.cell? ⟨w.heap.size, 1, none⟩ = some (Value.slice Aa ka ca) := (HARG0.out _ HB_w6.out 1).1
  have cc0_2 : w6.cell? ⟨w.heap.size, 2, none⟩ = some (Value.slice Ab kb cb) := (HARG0.out _ HB_w6.out 2).1
  have cc1_0 : w6.cell? ⟨w.heap.size + 1, 0, none⟩ = some (Value.bool nh) := (HARG1.out _ HB_w6.out 0).1
  have cc1_1 : w6.cell? ⟨w.heap.size + 1, 1, none⟩ = some (Value.slice Ac kc cc) := (HARG1.out _ HB_w6.out 1).1
  have cc1_2 : w6.cell? ⟨w.heap.size + 1, 2, none⟩ = some (Value.slice Ad kd cd) := (HARG1.out _ HB_w6.out 2).1
  refine seq_done (by kernel_rfl) ?_
  go_wp2_with fail
  clear cc0_0 cc0_1 cc0_2 cc1_0 cc1_1 cc1_2
  have HBDx : Hid (Below w6.heap.size w6 w6.drew) := (Below.refl _ w6).drew
  have HBD3 : Hid (Below W2.heap.size W2 w6.drew) := HB_w6.out.drew
  have dd0 := HARG0.out _ HBD3.out
  have dd1 := HARG1.out _ HBD3.out
  refine seq_start (S := fun w' => w'.cell? ⟨w.heap.size, 0, none⟩ = some (Value.bool ng) ∧ w'.cell? ⟨w.heap.size, 1, none⟩ = some (Value.slice Aa ka ca) ∧ w'.cell? ⟨w.heap.size, 2, none⟩ = some (Value.slice Ab kb cb) ∧ w'.cell? ⟨w.heap.size + 1, 0, none⟩ = some (Value.bool nh) ∧ w'.cell? ⟨w.heap.size + 1, 1, none⟩ = some (Value.slice Ac kc cc) ∧ w'.cell? ⟨w.heap.size + 1, 2, none⟩ = some (Value.slice Ad kd cd)) (by kernel_rfl) (by kernel_rfl) (by exact ⟨(dd0 0).1, (dd0 1).1, (dd0 2).1, (dd1 0).1, (dd1 1).1, (dd1 2).1⟩) ?_
  clear dd0 dd1
  repeat (first | refine tk0 (h := ?_) | refine tkG (h := ?_) | refine skG (h := ?_))
  refine seq_pull 1 ?_
  simp only [places, pull]
  (first
   | refine tk0 (h := ?_)
   | refine tkG (h := ?_)
   | refine skG (h := ?_))
  refine seq_pull 1 ?_
  simp only [places, pull]
  (first
   | refine tk0 (h := ?_)
   | refine tkG (h := ?_)
   | refine skG (h := ?_))
  refine seq_op (by kernel_rfl) (by rfl) (fun K hK => ?_)
  go_simp
  refine (HSUM.out _ _ _ (HR56.out.below HBDx.out) (HR6.out.below HBDx.out)).mono ?_
  rintro e w7 ⟨⟨v7, rfl, hr7⟩, hbx⟩
  obtain ⟨A7, n7, c7, rfl⟩ := hr7.slice
  have HR7 := h0d hr7
  have HB67 : Hid (Below w6.heap.size w6 w7) := HBDx.out.trans (hbx.mono HBDx.out.size)
  have HB_w7 : Hid (Below W2.heap.size W2 w7) := HBD3.out.trans (hbx.mono HBD3.out.size)
  have dd0 := HARG0.out _ HB_w7.out
  have dd1 := HARG1.out _ HB_w7.out
  refine hK.out _ _ (by exact ⟨(dd0 0).1, (dd0 1).1, (dd0 2).1, (dd1 0).1, (dd1 1).1, (dd1 2).1⟩) ?_
  clear hK K dd0 dd1 hbx hr7
  repeat (first | refine tk0 (h := ?_) | refine tkG (h := ?_) | refine skG (h := ?_))
  refine seq_op (by kernel_rfl) (by rfl) (fun K hK => ?_)
  go_simp
  refine (HPD.out _ _ _ (HR36.out.below HB67.out) (HR46.out.below HB67.out)).mono ?_
  rintro e w8 ⟨⟨v8, rfl, hr8⟩, hbx⟩
  obtain ⟨A8, n8, c8, rfl⟩ := hr8.slice
  have HR8 := h0d hr8
  have HR78 := h0d (HR7.out.below hbx)
  have HB_w8 : Hid (Below W2.heap.size W2 w8) := HB_w7.out.trans (hbx.mono HB_w7.out.size)
  have dd0 := HARG0.out _ HB_w8.out
  have dd1 := HARG1.out _ HB_w8.out
  refine hK.out _ _ (by exact ⟨(dd0 0).1, (dd0 1).1, (dd0 2).1, (dd1 0).1, (dd1 1).1, (dd1 2).1⟩) ?_
  clear hK K dd0 dd1 hbx hr8
  repeat (first | refine tk0 (h := ?_) | refine tkG (h := ?_) | refine skG (h := ?_))
  refine seq_op (by kernel_rfl) (by rfl) (fun K hK => ?_)
  go_simp
  refine (HFR.out ng (a + b) _ _ _ HR78.out HR8.out HSZ.out HSG.out).mono ?_
  rintro e w9 ⟨⟨v9, rfl, hz9⟩, hbx⟩
  obtain ⟨A9, n9, c9, B9, m9, k9, rfl, hr9, hs9⟩ := hz9.parts
  have HR9 := h0d hr9
  have HS9 := h0d hs9
  have HB_w9 : Hid (Below W2.heap.size W2 w9) := HB_w8.out.trans (hbx.mono HB_w8.out.size)
  have dd0 := HARG0.out _ HB_w9.out
  have dd1 := HARG1.out _ HB_w9.out
  refine hK.out _ _ (by exact ⟨(dd0 0).1, (dd0 1).1, (dd0 2).1, (dd1 0).1, (dd1 1).1, (dd1 2).1⟩) ?_
  clear hK K dd0 dd1 hbx hr9 hs9 hz9
  repeat (first | refine tk0 (h := ?_) | refine tkG (h := ?_) | refine skG (h := ?_))
  refine seq_op (by kernel_rfl) (by rfl) (fun K hK => ?_)
  have qq := HRES0.out _ HB_w9.out
  have q0 := (qq 0).1
  have q1 := (qq 1).1
  have q2 := (qq 2).1
  have qf0 := (qq 0).2
  have qf1 := (qq 1).2
  have qf2 := (qq 2).2
  simp only [List.getElem?_toArray, List.getElem?_cons_zero, List.getElem?_cons_succ] at q0 q1 q2
  clear qq
  go_simp
  have dd0 := HARG0.out _ HB_w9.out
  have dd1 := HARG1.out _ HB_w9.out
  refine hK.out _ _ (by go_simp; (first | done | exact ⟨(dd0 0).1, (dd0 1).1, (dd0 2).1, (dd1 0).1, (dd1 1).1, (dd1 2).1⟩)) ?_
  clear hK K dd0 dd1
  repeat (first | refine tk0 (h := ?_) | refine tkG (h := ?_) | refine skG (h := ?_))
  refine seq_done (by kernel_rfl) ?_
  go_wp2_with fail
  have hbw := HB2W.out.trans (HB_w9.out.mono HB2W.out.size)
  exact bodyPost_ret (v := .agg #[.bool (decide ((x + y).num < 0)), .slice A9 n9 c9, .slice B9 m9 k9]) (by simp [results, Tryz.results130, go_sem, q0, q1, q2]) rfl ⟨⟨_, rfl, _, _, rfl, HR9.out.set3 q0 q1 q2 _ _ _, HS9.out.set3 q0 q1 q2 _ _ _⟩, ((hbw.setCell (by simp <;> omega) _).setCell (by simp <;> omega) _).setCell (by simp <;> omega) _⟩
 ·have hEb : (ng == nh) = false := by simp [hE]
  have HE : Hid (decide (z < 0) ≠ decide (t < 0)) := by show _ ≠ _; rw [HNG.out, HNH.out]; exact hE
  clear hE
  by_cases hle : b ≤ a
  ·have HLE := h0d hle
   have HSG : Hid (signed ng (a - b) = z + t) := by show _ = _; rw [← HA1.out, ← HB1.out, ← HNG.out]; exact signed_diff HE.out (by rw [HA1.out, HB1.out]; exact HLE.out)
   have HSZ : Hid (dm (a - b) ≤ 800001) := Nat.le_trans (dm_mono (Nat.sub_le _ _)) (by have := HP1.out; have := HP2.out; omega)
   obtain ⟨cv, hcv⟩ : ∃ c, c = cmpN a b := ⟨_, rfl⟩
   rw [← hcv] at HORD
   have hcn : 0 ≤ cv := by rw [hcv]; unfold cmpN; rw [if_neg (by omega)]; split <;> omega
   have hcb : decide (0 ≤ cv) = true := by simpa using hcn
   clear hle hcv
   go_enter Tryz.func130, Tryz.ntmps130
   go_wp2_with fail
   rw [← HW2.out]
   have HBD1 : Hid (Below W2.heap.size W2 W2.drew) := HBs.out.drew
   have dd0 := HARG0.out _ HBD1.out
   have dd1 := HARG1.out _ HBD1.out
   refine seq_start (S := fun w' => w'.cell? ⟨w.heap.size, 0, none⟩ = some (Value.bool ng) ∧ w'.cell? ⟨w.heap.size, 1, none⟩ = some (Value.slice Aa ka ca) ∧ w'.cell? ⟨w.heap.size, 2, none⟩ = some (Value.slice Ab kb cb) ∧ w'.cell? ⟨w.heap.size + 1, 0, none⟩ = some (Value.bool nh) ∧ w'.cell? ⟨w.heap.size + 1, 1, none⟩ = some (Value.slice Ac kc cc) ∧ w'.cell? ⟨w.heap.size + 1, 2, none⟩ = some (Value.slice Ad kd cd)) (by kernel_rfl) (by kernel_rfl) (by exact ⟨(dd0 0).1, (dd0 1).1, (dd0 2).1, (dd1 0).1, (dd1 1).1, (dd1 2).1⟩) ?_
   clear dd0 dd1
   repeat (first | refine tk0 (h := ?_) | refine tkG (h := ?_) | refine skG (h := ?_))
   refine seq_pull 1 ?_
   simp only [places, pull]
   (first
    | refine tk0 (h := ?_)
    | refine tkG (h := ?_)
    | refine skG (h := ?_))
   refine seq_op (by kernel_rfl) (by rfl) (fun K hK => ?_)
   go_simp
   refine (HU1.out _ (HB2W.out.trans (HBD1.out.mono HB2W.out.size))).mono ?_
   rintro e w3 ⟨⟨v3, rfl, hr3⟩, hbx⟩
   obtain ⟨A3, n3, c3, rfl⟩ := hr3.slice
   have HR3 := h0d hr3
   have HB_w3 : Hid (Below W2.heap.size W2 w3) := HBD1.out.trans (hbx.mono HBD1.out.size)
   have dd0 := HARG0.out _ HB_w3.out
   have dd1 := HARG1.out _ HB_w3.out
   refine hK.out _ _ (by exact ⟨(dd0 0).1, (dd0 1).1, (dd0 2).1, (dd1 0).1, (dd1 1).1, (dd1 2).1⟩) ?_
   clear hK K dd0 dd1 hbx hr3
   repeat (first | refine tk0 (h := ?_) | refine tkG (h := ?_) | refine skG (h := ?_))
   refine seq_op (by kernel_rfl) (by rfl) (fun K hK => ?_)
   go_simp
   refine (HU2.out _ (HB2W.out.trans (HB_w3.out.mono HB2W.out.size))).mono ?_
   rintro e w4 ⟨⟨v4, rfl, hr4⟩, hbx⟩
   obtain ⟨A4, n4, c4, rfl⟩ := hr4.slice
   have HR4 := h0d hr4
   have HR34 := h0d (HR3.out.below hbx)
   have HB_w4 : Hid (Below W2.heap.size W2 w4) := HB_w3.out.trans (hbx.mono HB_w3.out.size)
   have dd0 := HARG0.out _ HB_w4.out
   have dd1 := HARG1.out _ HB_w4.out
   refine hK.out _ _ (by exact ⟨(dd0 0).1, (dd0 1).1, (dd0 2).1, (dd1 0).1, (dd1 1).1, (dd1 2).1⟩) ?_
   clear hK K dd0 dd1 hbx hr4
   repeat (first | refine tk0 (h := ?_) | refine tkG (h := ?_) | refine skG (h := ?_))
   refine seq_done (by kernel_rfl) ?_
   go_wp2_with fail
   have HBD2 : Hid (Below W2.heap.size W2 w4.drew) := HB_w4.out.drew
   have dd0 := HARG0.out _ HBD2.out
   have dd1 := HARG1.out _ HBD2.out
   refine seq_start (S := fun w' => w'.cell? ⟨w.heap.size, 0, none⟩ = some (Value.bool ng) ∧ w'.cell? ⟨w.heap.size, 1, none⟩ = some (Value.slice Aa ka ca) ∧ w'.cell? ⟨w.heap.size, 2, none⟩ = some (Value.slice Ab kb cb) ∧ w'.cell? ⟨w.heap.size + 1, 0, none⟩ = some (Value.bool nh) ∧ w'.cell? ⟨w.heap.size + 1, 1, none⟩ = some (Value.slice Ac kc cc) ∧ w'.cell? ⟨w.heap.size + 1, 2, none⟩ = some (Value.slice Ad kd cd)) (by kernel_rfl) (by kernel_rfl) (by exact ⟨(dd0 0).1, (dd0 1).1, (dd0 2).1, (dd1 0).1, (dd1 1).1, (dd1 2).1⟩) ?_
   clear dd0 dd1
   repeat (first | refine tk0 (h := ?_) | refine tkG (h := ?_) | refine skG (h := ?_))
   refine seq_pull 1 ?_
   simp only [places, pull]
   (first
    | refine tk0 (h := ?_)
    | refine tkG (h := ?_)
    | refine skG (h := ?_))
   refine seq_pull 1 ?_
   simp only [places, pull]
   (first
    | refine tk0 (h := ?_)
    | refine tkG (h := ?_)
    | refine skG (h := ?_))
   refine seq_pull 1 ?_
   simp only [places, pull]
   (first
    | refine tk0 (h := ?_)
    | refine tkG (h := ?_)
    | refine skG (h := ?_))
   refine seq_op (by kernel_rfl) (by rfl) (fun K hK => ?_)
   go_simp
   refine (HPA.out _ _ (HB2W.out.trans (HBD2.out.mono HB2W.out.size)) (HR4.out.below (by exact (Below.refl _ w4).drew))).mono ?_
   rintro e w5 ⟨⟨v5, rfl, hr5⟩, hbx⟩
   obtain ⟨A5, n5, c5, rfl⟩ := hr5.slice
   have HR5 := h0d hr5
   have HB45 : Hid (Below w4.heap.size w4 w5) := ((Below.refl _ w4).drew).trans hbx
   have HB_w5 : Hid (Below W2.heap.size W2 w5) := HBD2.out.trans (hbx.mono HBD2.out.size)
   have dd0 := HARG0.out _ HB_w5.out
   have dd1 := HARG1.out _ HB_w5.out
   refine hK.out _ _ (by exact ⟨(dd0 0).1, (dd0 1).1, (dd0 2).1, (dd1 0).1, (dd1 1).1, (dd1 2).1⟩) ?_
   clear hK K dd0 dd1 hbx hr5
   repeat (first | refine tk0 (h := ?_) | refine tkG (h := ?_) | refine skG (h := ?_))
   refine seq_op (by kernel_rfl) (by rfl) (fun K hK => ?_)
   go_simp
   refine (HPB.out _ _ (HB2W.out.trans (HB_w5.out.mono HB2W.out.size)) (HR34.out.below HB45.out)).mono ?_
   rintro e w6 ⟨⟨v6, rfl, hr6⟩, hbx⟩
   obtain ⟨A6, n6, c6, rfl⟩ := hr6.slice
   have HR6 := h0d hr6
   have HR56 := h0d (HR5.out.below hbx)
   have HB46 : Hid (Below w4.heap.size w4 w6) := HB45.out.trans (hbx.mono HB45.out.size)
   have HB_w6 : Hid (Below W2.heap.size W2 w6) := HB_w5.out.trans (hbx.mono HB_w5.out.size)
   have dd0 := HARG0.out _ HB_w6.out
   have dd1 := HARG1.out _ HB_w6.out
   refine hK.out _ _ (by exact ⟨(dd0 0).1, (dd0 1).1, (dd0 2).1, (dd1 0).1, (dd1 1).1, (dd1 2).1⟩) ?_
   clear hK K dd0 dd1 hbx hr6
   repeat (first | refine tk0 (h := ?_) | refine tkG (h := ?_) | refine skG (h := ?_))
   have HR36 := h0d (HR34.out.below HB46.out)
   have HR46 := h0d (HR4.out.below HB46.out)
   have cc0_0 : w6.cell? ⟨w.heap.size, 0, none⟩ = some (Value.bool ng) := (HARG0.out _ HB_w6.out 0).1
   have cc0_1 : w6.cell? ⟨w.heap.size, 1, none⟩ = some (Value.slice Aa ka ca) := (HARG0.out _ HB_w6.out 1).1
   have cc0_2 : w6.cell? ⟨w.heap.size, 2, none⟩ = some (Value.slice Ab kb cb) := (HARG0.out _ HB_w6.out 2).1
   have cc1_0 : w6.cell? ⟨w.heap.size + 1, 0, none⟩ = some (Value.bool nh) := (HARG1.out _ HB_w6.out 0).1
   have cc1_1 : w6.cell? ⟨w.heap.size + 1, 1, none⟩ = some (Value.slice Ac kc cc) := (HARG1.out _ HB_w6.out 1).1
   have cc1_2 : w6.cell? ⟨w.heap.size + 1, 2, none⟩ = some (Value.slice Ad kd cd) := (HARG1.out _ HB_w6.out 2).1
   refine seq_done (by kernel_rfl) ?_
   go_wp2_with (go_at_call 190; refine (HORD.out _ _ _ HR56.out HR6.out).mono ?_; rintro e w62 ⟨rfl, hbx⟩; have HB62 := h0d hbx; have HR57 := h0d (HR56.out.below hbx); have HR67 := h0d (HR6.out.below hbx); have HB_w62 : Hid (Below W2.heap.size W2 w62) := HB_w6.out.trans (hbx.mono HB_w6.out.size); clear hbx)
   clear cc0_0 cc0_1 cc0_2 cc1_0 cc1_1 cc1_2
   have HBDx : Hid (Below w62.heap.size w62 w62.drew) := (Below.refl _ w62).drew
   have HR36 := h0d (HR36.out.below HB62.out)
   have HR46 := h0d (HR46.out.below HB62.out)
   have HBD3 : Hid (Below W2.heap.size W2 w62.drew) := HB_w62.out.drew
   have dd0 := HARG0.out _ HBD3.out
   have dd1 := HARG1.out _ HBD3.out
   refine seq_start (S := fun w' => w'.cell? ⟨w.heap.size, 0, none⟩ = some (Value.bool ng) ∧ w'.cell? ⟨w.heap.size, 1, none⟩ = some (Value.slice Aa ka ca) ∧ w'.cell? ⟨w.heap.size, 2, none⟩ = some (Value.slice Ab kb cb) ∧ w'.cell? ⟨w.heap.size + 1, 0, none⟩ = some (Value.bool nh) ∧ w'.cell? ⟨w.heap.size + 1, 1, none⟩ = some (Value.slice Ac kc cc) ∧ w'.cell? ⟨w.heap.size + 1, 2, none⟩ = some (Value.slice Ad kd cd)) (by kernel_rfl) (by kernel_rfl) (by exact ⟨(dd0 0).1, (dd0 1).1, (dd0 2).1, (dd1 0).1, (dd1 1).1, (dd1 2).1⟩) ?_
   clear dd0 dd1
   repeat (first | refine tk0 (h := ?_) | refine tkG (h := ?_) | refine skG (h := ?_))
   refine seq_pull 1 ?_
   simp only [places, pull]
   (first
    | refine tk0 (h := ?_)
    | refine tkG (h := ?_)
    | refine skG (h := ?_))
   refine seq_pull 1 ?_
   simp only [places, pull]
   (first
    | refine tk0 (h := ?_)
    | refine tkG (h := ?_)
    | refine skG (h := ?_))
   refine seq_op (by kernel_rfl) (by rfl) (fun K hK => ?_)
   go_simp
   refine (HDAB.out _ _ _ (HR57.out.below HBDx.out) (HR67.out.below HBDx.out) HLE.out).mono ?_
   rintro e w7 ⟨⟨v7, rfl, hr7⟩, hbx⟩
   obtain ⟨A7, n7, c7, rfl⟩ := hr7.slice
   have HR7 := h0d hr7
   have HB67 : Hid (Below w62.heap.size w62 w7) := HBDx.out.trans (hbx.mono HBDx.out.size)
   have HB_w7 : Hid (Below W2.heap.size W2 w7) := HBD3.out.trans (hbx.mono HBD3.out.size)
   have dd0 := HARG0.out _ HB_w7.out
   have dd1 := HARG1.out _ HB_w7.out
   refine hK.out _ _ (by exact ⟨(dd0 0).1, (dd0 1).1, (dd0 2).1, (dd1 0).1, (dd1 1).1, (dd1 2).1⟩) ?_
   clear hK K dd0 dd1 hbx hr7
   repeat (first | refine tk0 (h := ?_) | refine tkG (h := ?_) | refine skG (h := ?_))
   refine seq_op (by kernel_rfl) (by rfl) (fun K hK => ?_)
   go_simp
   refine (HPD.out _ _ _ (HR36.out.below HB67.out) (HR46.out.below HB67.out)).mono ?_
   rintro e w8 ⟨⟨v8, rfl, hr8⟩, hbx⟩
   obtain ⟨A8, n8, c8, rfl⟩ := hr8.slice
   have HR8 := h0d hr8
   have HR78 := h0d (HR7.out.below hbx)
   have HB_w8 : Hid (Below W2.heap.size W2 w8) := HB_w7.out.trans (hbx.mono HB_w7.out.size)
   have dd0 := HARG0.out _ HB_w8.out
   have dd1 := HARG1.out _ HB_w8.out
   refine hK.out _ _ (by exact ⟨(dd0 0).1, (dd0 1).1, (dd0 2).1, (dd1 0).1, (dd1 1).1, (dd1 2).1⟩) ?_
   clear hK K dd0 dd1 hbx hr8
   repeat (first | refine tk0 (h := ?_) | refine tkG (h := ?_) | refine skG (h := ?_))
   refine seq_op (by kernel_rfl) (by rfl) (fun K hK => ?_)
   go_simp
   refine (HFR.out ng (a - b) _ _ _ HR78.out HR8.out HSZ.out HSG.out).mono ?_
   rintro e w9 ⟨⟨v9, rfl, hz9⟩, hbx⟩
   obtain ⟨A9, n9, c9, B9, m9, k9, rfl, hr9, hs9⟩ := hz9.parts
   have HR9 := h0d hr9
   have HS9 := h0d hs9
   have HB_w9 : Hid (Below W2.heap.size W2 w9) := HB_w8.out.trans (hbx.mono HB_w8.out.size)
   have dd0 := HARG0.out _ HB_w9.out
   have dd1 := HARG1.out _ HB_w9.out
   refine hK.out _ _ (by exact ⟨(dd0 0).1, (dd0 1).1, (dd0 2).1, (dd1 0).1, (dd1 1).1, (dd1 2).1⟩) ?_
   clear hK K dd0 dd1 hbx hr9 hs9 hz9
   repeat (first | refine tk0 (h := ?_) | refine tkG (h := ?_) | refine skG (h := ?_))
   refine seq_op (by kernel_rfl) (by rfl) (fun K hK => ?_)
   have qq := HRES0.out _ HB_w9.out
   have q0 := (qq 0).1
   have q1 := (qq 1).1
   have q2 := (qq 2).1
   have qf0 := (qq 0).2
   have qf1 := (qq 1).2
   have qf2 := (qq 2).2
   simp only [List.getElem?_toArray, List.getElem?_cons_zero, List.getElem?_cons_succ] at q0 q1 q2
   clear qq
   go_simp
   have dd0 := HARG0.out _ HB_w9.out
   have dd1 := HARG1.out _ HB_w9.out
   refine hK.out _ _ (by go_simp; (first | done | exact ⟨(dd0 0).1, (dd0 1).1, (dd0 2).1, (dd1 0).1, (dd1 1).1, (dd1 2).1⟩)) ?_
   clear hK K dd0 dd1
   repeat (first | refine tk0 (h := ?_) | refine tkG (h := ?_) | refine skG (h := ?_))
   refine seq_done (by kernel_rfl) ?_
   go_wp2_with fail
   have hbw := HB2W.out.trans (HB_w9.out.mono HB2W.out.size)
   exact bodyPost_ret (v := .agg #[.bool (decide ((x + y).num < 0)), .slice A9 n9 c9, .slice B9 m9 k9]) (by simp [results, Tryz.results130, go_sem, q0, q1, q2]) rfl ⟨⟨_, rfl, _, _, rfl, HR9.out.set3 q0 q1 q2 _ _ _, HS9.out.set3 q0 q1 q2 _ _ _⟩, ((hbw.setCell (by simp <;> omega) _).setCell (by simp <;> omega) _).setCell (by simp <;> omega) _⟩
  ·have HLE := h0d hle
   have HSG : Hid (signed nh (b - a) = z + t) := by show _ = _; rw [← HA1.out, ← HB1.out, ← HNH.out, Int.add_comm]; exact signed_diff (fun h => HE.out h.symm) (by rw [HA1.out, HB1.out]; have := HLE.out; omega)
   have HSZ : Hid (dm (b - a) ≤ 800001) := Nat.le_trans (dm_mono (Nat.sub_le _ _)) (by have := HP1.out; have := HP2.out; omega)
   obtain ⟨cv, hcv⟩ : ∃ c, c = cmpN a b := ⟨_, rfl⟩
   rw [← hcv] at HORD
   have hcn : ¬ (0 ≤ cv) := by rw [hcv]; unfold cmpN; rw [if_pos (by omega)]; omega
   have hcb : decide (0 ≤ cv) = false := by simpa using hcn
   clear hle hcv
   go_enter Tryz.func130, Tryz.ntmps130
   go_wp2_with fail
   rw [← HW2.out]
   have HBD1 : Hid (Below W2.heap.size W2 W2.drew) := HBs.out.drew
   have dd0 := HARG0.out _ HBD1.out
   have dd1 := HARG1.out _ HBD1.out
   refine seq_start (S := fun w' => w'.cell? ⟨w.heap.size, 0, none⟩ = some (Value.bool ng) ∧ w'.cell? ⟨w.heap.size, 1, none⟩ = some (Value.slice Aa ka ca) ∧ w'.cell? ⟨w.heap.size, 2, none⟩ = some (Value.slice Ab kb cb) ∧ w'.cell? ⟨w.heap.size + 1, 0, none⟩ = some (Value.bool nh) ∧ w'.cell? ⟨w.heap.size + 1, 1, none⟩ = some (Value.slice Ac kc cc) ∧ w'.cell? ⟨w.heap.size + 1, 2, none⟩ = some (Value.slice Ad kd cd)) (by kernel_rfl) (by kernel_rfl) (by exact ⟨(dd0 0).1, (dd0 1).1, (dd0 2).1, (dd1 0).1, (dd1 1).1, (dd1 2).1⟩) ?_
   clear dd0 dd1
   repeat (first | refine tk0 (h := ?_) | refine tkG (h := ?_) | refine skG (h := ?_))
   refine seq_pull 1 ?_
   simp only [places, pull]
   (first
    | refine tk0 (h := ?_)
    | refine tkG (h := ?_)
    | refine skG (h := ?_))
   refine seq_op (by kernel_rfl) (by rfl) (fun K hK => ?_)
   go_simp
   refine (HU1.out _ (HB2W.out.trans (HBD1.out.mono HB2W.out.size))).mono ?_
   rintro e w3 ⟨⟨v3, rfl, hr3⟩, hbx⟩
   obtain ⟨A3, n3, c3, rfl⟩ := hr3.slice
   have HR3 := h0d hr3
   have HB_w3 : Hid (Below W2.heap.size W2 w3) := HBD1.out.trans (hbx.mono HBD1.out.size)
   have dd0 := HARG0.out _ HB_w3.out
   have dd1 := HARG1.out _ HB_w3.out
   refine hK.out _ _ (by exact ⟨(dd0 0).1, (dd0 1).1, (dd0 2).1, (dd1 0).1, (dd1 1).1, (dd1 2).1⟩) ?_
   clear hK K dd0 dd1 hbx hr3
   repeat (first | refine tk0 (h := ?_) | refine tkG (h := ?_) | refine skG (h := ?_))
   refine seq_op (by kernel_rfl) (by rfl) (fun K hK => ?_)
   go_simp
   refine (HU2.out _ (HB2W.out.trans (HB_w3.out.mono HB2W.out.size))).mono ?_
   rintro e w4 ⟨⟨v4, rfl, hr4⟩, hbx⟩
   obtain ⟨A4, n4, c4, rfl⟩ := hr4.slice
   have HR4 := h0d hr4
   have HR34 := h0d (HR3.out.below hbx)
   have HB_w4 : Hid (Below W2.heap.size W2 w4) := HB_w3.out.trans (hbx.mono HB_w3.out.size)
   have dd0 := HARG0.out _ HB_w4.out
   have dd1 := HARG1.out _ HB_w4.out
   refine hK.out _ _ (by exact ⟨(dd0 0).1, (dd0 1).1, (dd0 2).1, (dd1 0).1, (dd1 1).1, (dd1 2).1⟩) ?_
   clear hK K dd0 dd1 hbx hr4
   repeat (first | refine tk0 (h := ?_) | refine tkG (h := ?_) | refine skG (h := ?_))
   refine seq_done (by kernel_rfl) ?_
   go_wp2_with fail
   have HBD2 : Hid (Below W2.heap.size W2 w4.drew) := HB_w4.out.drew
   have dd0 := HARG0.out _ HBD2.out
   have dd1 := HARG1.out _ HBD2.out
   refine seq_start (S := fun w' => w'.cell? ⟨w.heap.size, 0, none⟩ = some (Value.bool ng) ∧ w'.cell? ⟨w.heap.size, 1, none⟩ = some (Value.slice Aa ka ca) ∧ w'.cell? ⟨w.heap.size, 2, none⟩ = some (Value.slice Ab kb cb) ∧ w'.cell? ⟨w.heap.size + 1, 0, none⟩ = some (Value.bool nh) ∧ w'.cell? ⟨w.heap.size + 1, 1, none⟩ = some (Value.slice Ac kc cc) ∧ w'.cell? ⟨w.heap.size + 1, 2, none⟩ = some (Value.slice Ad kd cd)) (by kernel_rfl) (by kernel_rfl) (by exact ⟨(dd0 0).1, (dd0 1).1, (dd0 2).1, (dd1 0).1, (dd1 1).1, (dd1 2).1⟩) ?_
   clear dd0 dd1
   repeat (first | refine tk0 (h := ?_) | refine tkG (h := ?_) | refine skG (h := ?_))
   refine seq_pull 1 ?_
   simp only [places, pull]
   (first
    | refine tk0 (h := ?_)
    | refine tkG (h := ?_)
    | refine skG (h := ?_))
   refine seq_pull 1 ?_
   simp only [places, pull]
   (first
    | refine tk0 (h := ?_)
    | refine tkG (h := ?_)
    | refine skG (h := ?_))
   refine seq_pull 1 ?_
   simp only [places, pull]
   (first
    | refine tk0 (h := ?_)
    | refine tkG (h := ?_)
    | refine skG (h := ?_))
   refine seq_op (by kernel_rfl) (by rfl) (fun K hK => ?_)
   go_simp
   refine (HPA.out _ _ (HB2W.out.trans (HBD2.out.mono HB2W.out.size)) (HR4.out.below (by exact (Below.refl _ w4).drew))).mono ?_
   rintro e w5 ⟨⟨v5, rfl, hr5⟩, hbx⟩
   obtain ⟨A5, n5, c5, rfl⟩ := hr5.slice
   have HR5 := h0d hr5
   have HB45 : Hid (Below w4.heap.size w4 w5) := ((Below.refl _ w4).drew).trans hbx
   have HB_w5 : Hid (Below W2.heap.size W2 w5) := HBD2.out.trans (hbx.mono HBD2.out.size)
   have dd0 := HARG0.out _ HB_w5.out
   have dd1 := HARG1.out _ HB_w5.out
   refine hK.out _ _ (by exact ⟨(dd0 0).1, (dd0 1).1, (dd0 2).1, (dd1 0).1, (dd1 1).1, (dd1 2).1⟩) ?_
   clear hK K dd0 dd1 hbx hr5
   repeat (first | refine tk0 (h := ?_) | refine tkG (h := ?_) | refine skG (h := ?_))
   refine seq_op (by kernel_rfl) (by rfl) (fun K hK => ?_)
   go_simp
   refine (HPB.out _ _ (HB2W.out.trans (HB_w5.out.mono HB2W.out.size)) (HR34.out.below HB45.out)).mono ?_
   rintro e w6 ⟨⟨v6, rfl, hr6⟩, hbx⟩
   obtain ⟨A6, n6, c6, rfl⟩ := hr6.slice
   have HR6 := h0d hr6
   have HR56 := h0d (HR5.out.below hbx)
   have HB46 : Hid (Below w4.heap.size w4 w6) := HB45.out.trans (hbx.mono HB45.out.size)
   have HB_w6 : Hid (Below W2.heap.size W2 w6) := HB_w5.out.trans (hbx.mono HB_w5.out.size)
   have dd0 := HARG0.out _ HB_w6.out
   have dd1 := HARG1.out _ HB_w6.out
   refine hK.out _ _ (by exact ⟨(dd0 0).1, (dd0 1).1, (dd0 2).1, (dd1 0).1, (dd1 1).1, (dd1 2).1⟩) ?_
   clear hK K dd0 dd1 hbx hr6
   repeat (first | refine tk0 (h := ?_) | refine tkG (h := ?_) | refine skG (h := ?_))
   have HR36 := h0d (HR34.out.below HB46.out)
   have HR46 := h0d (HR4.out.below HB46.out)
   have cc0_0 : w6.cell? ⟨w.heap.size, 0, none⟩ = some (Value.bool ng) := (HARG0.out _ HB_w6.out 0).1
   have cc0_1 : w6.cell? ⟨w.heap.size, 1, none⟩ = some (Value.slice Aa ka ca) := (HARG0.out _ HB_w6.out 1).1
   have cc0_2 : w6.cell? ⟨w.heap.size, 2, none⟩ = some (Value.slice Ab kb cb) := (HARG0.out _ HB_w6.out 2).1
   have cc1_0 : w6.cell? ⟨w.heap.size + 1, 0, none⟩ = some (Value.bool nh) := (HARG1.out _ HB_w6.out 0).1
   have cc1_1 : w6.cell? ⟨w.heap.size + 1, 1, none⟩ = some (Value.slice Ac kc cc) := (HARG1.out _ HB_w6.out 1).1
   have cc1_2 : w6.cell? ⟨w.heap.size + 1, 2, none⟩ = some (Value.slice Ad kd cd) := (HARG1.out _ HB_w6.out 2).1
   refine seq_done (by kernel_rfl) ?_
   go_wp2_with (go_at_call 190; refine (HORD.out _ _ _ HR56.out HR6.out).mono ?_; rintro e w62 ⟨rfl, hbx⟩; have HB62 := h0d hbx; have HR57 := h0d (HR56.out.below hbx); have HR67 := h0d (HR6.out.below hbx); have HB_w62 : Hid (Below W2.heap.size W2 w62) := HB_w6.out.trans (hbx.mono HB_w6.out.size); clear hbx)
   clear cc0_0 cc0_1 cc0_2 cc1_0 cc1_1 cc1_2
   have HBDx : Hid (Below w62.heap.size w62 w62.drew) := (Below.refl _ w62).drew
   have HR36 := h0d (HR36.out.below HB62.out)
   have HR46 := h0d (HR46.out.below HB62.out)
   have HBD3 : Hid (Below W2.heap.size W2 w62.drew) := HB_w62.out.drew
   have dd0 := HARG0.out _ HBD3.out
   have dd1 := HARG1.out _ HBD3.out
   refine seq_start (S := fun w' => w'.cell? ⟨w.heap.size, 0, none⟩ = some (Value.bool ng) ∧ w'.cell? ⟨w.heap.size, 1, none⟩ = some (Value.slice Aa ka ca) ∧ w'.cell? ⟨w.heap.size, 2, none⟩ = some (Value.slice Ab kb cb) ∧ w'.cell? ⟨w.heap.size + 1, 0, none⟩ = some (Value.bool nh) ∧ w'.cell? ⟨w.heap.size + 1, 1, none⟩ = some (Value.slice Ac kc cc) ∧ w'.cell? ⟨w.heap.size + 1, 2, none⟩ = some (Value.slice Ad kd cd)) (by kernel_rfl) (by kernel_rfl) (by exact ⟨(dd0 0).1, (dd0 1).1, (dd0 2).1, (dd1 0).1, (dd1 1).1, (dd1 2).1⟩) ?_
   clear dd0 dd1
   repeat (first | refine tk0 (h := ?_) | refine tkG (h := ?_) | refine skG (h := ?_))
   refine seq_pull 1 ?_
   simp only [places, pull]
   (first
    | refine tk0 (h := ?_)
    | refine tkG (h := ?_)
    | refine skG (h := ?_))
   refine seq_pull 1 ?_
   simp only [places, pull]
   (first
    | refine tk0 (h := ?_)
    | refine tkG (h := ?_)
    | refine skG (h := ?_))
   refine seq_op (by kernel_rfl) (by rfl) (fun K hK => ?_)
   go_simp
   refine (HDBA.out _ _ _ (HR67.out.below HBDx.out) (HR57.out.below HBDx.out) (by have := HLE.out; omega)).mono ?_
   rintro e w7 ⟨⟨v7, rfl, hr7⟩, hbx⟩
   obtain ⟨A7, n7, c7, rfl⟩ := hr7.slice
   have HR7 := h0d hr7
   have HB67 : Hid (Below w62.heap.size w62 w7) := HBDx.out.trans (hbx.mono HBDx.out.size)
   have HB_w7 : Hid (Below W2.heap.size W2 w7) := HBD3.out.trans (hbx.mono HBD3.out.size)
   have dd0 := HARG0.out _ HB_w7.out
   have dd1 := HARG1.out _ HB_w7.out
   refine hK.out _ _ (by exact ⟨(dd0 0).1, (dd0 1).1, (dd0 2).1, (dd1 0).1, (dd1 1).1, (dd1 2).1⟩) ?_
   clear hK K dd0 dd1 hbx hr7
   repeat (first | refine tk0 (h := ?_) | refine tkG (h := ?_) | refine skG (h := ?_))
   refine seq_op (by kernel_rfl) (by rfl) (fun K hK => ?_)
   go_simp
   refine (HPD.out _ _ _ (HR36.out.below HB67.out) (HR46.out.below HB67.out)).mono ?_
   rintro e w8 ⟨⟨v8, rfl, hr8⟩, hbx⟩
   obtain ⟨A8, n8, c8, rfl⟩ := hr8.slice
   have HR8 := h0d hr8
   have HR78 := h0d (HR7.out.below hbx)
   have HB_w8 : Hid (Below W2.heap.size W2 w8) := HB_w7.out.trans (hbx.mono HB_w7.out.size)
   have dd0 := HARG0.out _ HB_w8.out
   have dd1 := HARG1.out _ HB_w8.out
   refine hK.out _ _ (by exact ⟨(dd0 0).1, (dd0 1).1, (dd0 2).1, (dd1 0).1, (dd1 1).1, (dd1 2).1⟩) ?_
   clear hK K dd0 dd1 hbx hr8
   repeat (first | refine tk0 (h := ?_) | refine tkG (h := ?_) | refine skG (h := ?_))
   refine seq_op (by kernel_rfl) (by rfl) (fun K hK => ?_)
   go_simp
   refine (HFR.out nh (b - a) _ _ _ HR78.out HR8.out HSZ.out HSG.out).mono ?_
   rintro e w9 ⟨⟨v9, rfl, hz9⟩, hbx⟩
   obtain ⟨A9, n9, c9, B9, m9, k9, rfl, hr9, hs9⟩ := hz9.parts
   have HR9 := h0d hr9
   have HS9 := h0d hs9
   have HB_w9 : Hid (Below W2.heap.size W2 w9) := HB_w8.out.trans (hbx.mono HB_w8.out.size)
   have dd0 := HARG0.out _ HB_w9.out
   have dd1 := HARG1.out _ HB_w9.out
   refine hK.out _ _ (by exact ⟨(dd0 0).1, (dd0 1).1, (dd0 2).1, (dd1 0).1, (dd1 1).1, (dd1 2).1⟩) ?_
   clear hK K dd0 dd1 hbx hr9 hs9 hz9
   repeat (first | refine tk0 (h := ?_) | refine tkG (h := ?_) | refine skG (h := ?_))
   refine seq_op (by kernel_rfl) (by rfl) (fun K hK => ?_)
   have qq := HRES0.out _ HB_w9.out
   have q0 := (qq 0).1
   have q1 := (qq 1).1
   have q2 := (qq 2).1
   have qf0 := (qq 0).2
   have qf1 := (qq 1).2
   have qf2 := (qq 2).2
   simp only [List.getElem?_toArray, List.getElem?_cons_zero, List.getElem?_cons_succ] at q0 q1 q2
   clear qq
   go_simp
   have dd0 := HARG0.out _ HB_w9.out
   have dd1 := HARG1.out _ HB_w9.out
   refine hK.out _ _ (by go_simp; (first | done | exact ⟨(dd0 0).1, (dd0 1).1, (dd0 2).1, (dd1 0).1, (dd1 1).1, (dd1 2).1⟩)) ?_
   clear hK K dd0 dd1
   repeat (first | refine tk0 (h := ?_) | refine tkG (h := ?_) | refine skG (h := ?_))
   refine seq_done (by kernel_rfl) ?_
   go_wp2_with fail
   have hbw := HB2W.out.trans (HB_w9.out.mono HB2W.out.size)
   exact bodyPost_ret (v := .agg #[.bool (decide ((x + y).num < 0)), .slice A9 n9 c9, .slice B9 m9 k9]) (by simp [results, Tryz.results130, go_sem, q0, q1, q2]) rfl ⟨⟨_, rfl, _, _, rfl, HR9.out.set3 q0 q1 q2 _ _ _, HS9.out.set3 q0 q1 q2 _ _ _⟩, ((hbw.setCell (by simp <;> omega) _).setCell (by simp <;> omega) _).setCell (by simp <;> omega) _⟩
end Go.Proofs.YtodckaioeomccaaGreat
