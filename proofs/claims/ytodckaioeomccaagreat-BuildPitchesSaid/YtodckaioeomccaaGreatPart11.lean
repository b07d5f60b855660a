/- The walk of times: the product of two numbers. -/
import Derived.Test.YtodckaioeomccaaGreatPart09
namespace Go.Proofs.YtodckaioeomccaaGreat
open Go.RowKit
set_option linter.unusedVariables false
set_option linter.unusedSimpArgs false
theorem times_step {O bn : List Nat} {i k c x y o B V : Nat} (hk : i + k < O.length) (hy : bn[k]? = some y) (ho : O.getD (i + k) 0 = o)
  (h : val B O + c * B ^ (i + k) = V + x * val B (bn.take k) * B ^ i) :
  val B (O.set (i + k) ((x * y + o + c) % B)) + (x * y + o + c) / B * B ^ (i + (k + 1)) = V + x * val B (bn.take (k + 1)) * B ^ i := by
 have h1 := val_set B ((x * y + o + c) % B) hk
 rw [ho] at h1
 rw [val_take B hy, Nat.mul_add, Nat.add_mul, ← Nat.add_assoc i k 1, Nat.pow_succ]
 have e := Nat.div_add_mod (x * y + o + c) B
 have e2 : (x * y + o + c) % B * B ^ (i + k) + (x * y + o + c) / B * (B ^ (i + k) * B) = (x * y + o + c) * B ^ (i + k) := by
  conv => rhs; rw [← e, Nat.add_mul]
  rw [Nat.add_comm, Nat.mul_comm (B ^ (i + k)) B, ← Nat.mul_assoc, Nat.mul_comm ((x * y + o + c) / B) B]
 have e3 : (x * y + o + c) * B ^ (i + k) = x * y * B ^ (i + k) + o * B ^ (i + k) + c * B ^ (i + k) := by rw [Nat.add_mul, Nat.add_mul]
 have e4 : x * (y * B ^ k) * B ^ i = x * y * B ^ (i + k) := by rw [Nat.pow_add, Nat.mul_assoc, Nat.mul_assoc, Nat.mul_assoc, Nat.mul_comm (B ^ k)]
 omega
theorem times_row {O bn : List Nat} {i c x B V n N : Nat} (hk : i + n < O.length) (hn : n = bn.length) (ho : O.getD (i + n) 0 = 0) (hN : val B bn = N)
  (h : val B O + c * B ^ (i + n) = V * N + x * val B (bn.take n) * B ^ i) : val B (O.set (i + n) c) = (V + x * B ^ i) * N := by
 have h1 := val_set B c hk
 rw [ho] at h1
 rw [List.take_of_length_le (by omega), hN] at h
 rw [Nat.add_mul, Nat.mul_assoc x, Nat.mul_comm (B ^ i), ← Nat.mul_assoc x]
 omega
theorem times_lt {x y o c B : Nat} (hx : x < B) (hy : y < B) (ho : o < B) (hc : c < B) : (x * y + o + c) / B < B := by
 rw [Nat.div_lt_iff_lt_mul (by omega)]
 have h1 : x * y ≤ (B - 1) * (B - 1) := Nat.mul_le_mul (by omega) (by omega)
 obtain ⟨b, rfl⟩ : ∃ b, B = b + 1 := ⟨B - 1, by omega⟩
 rw [Nat.add_sub_cancel] at h1
 have : (b + 1) * (b + 1) = b * b + 2 * b + 1 := by rw [Nat.mul_add, Nat.add_mul]; omega
 omega
theorem times_carry {x y o c : Nat} (hx : x < B64) (hy : y < B64) (ho : o < B64) (hc : c < B64) :
  (x * y % B64 + o + 0) / B64 ≤ 1 ∧ ((x * y % B64 + o) % B64 + c + 0) / B64 ≤ 1 ∧ ((x * y % B64 + o) % B64 + c + 0) % B64 = (x * y + o + c) % B64 ∧
   x * y / B64 + (x * y % B64 + o + 0) / B64 < B64 ∧ x * y / B64 + (x * y % B64 + o + 0) / B64 + ((x * y % B64 + o) % B64 + c + 0) / B64 = (x * y + o + c) / B64 := by
 have h1 := times_lt hx hy ho hc
 obtain ⟨p, hp⟩ : ∃ p, p = x * y := ⟨_, rfl⟩
 rw [← hp] at h1 ⊢
 unfold B64 at *
 omega
set_option maxRecDepth 100000 in
set_option maxHeartbeats 8000000 in
theorem times_any (va vb : Value) (m n : Nat) (w : World) (hP : RdN w va m) (hQ : RdN w vb n) (hm6 : dl m ≤ 1000000) (hn6 : dl n ≤ 1000000) :
  Calls Tryz.prog 166 #[va, vb] w fun e w' => (∃ v', e = .returned v' ∧ RdN w' v' (m * n)) ∧ Below w.heap.size w w' := by
 have hmk := make_words
 have HI1 := h0d (isOne_any va m w hP)
 have HI2 := h0d (isOne_any vb n w hQ)
 have HP := h0d hP
 have HQ := h0d hQ
 obtain ⟨A1, k1, c1, rfl, e1, hk1, _, hm1, hc1⟩ := RdW.open_ hP
 obtain ⟨A2, k2, c2, rfl, e2, hk2, _, hm2, hc2⟩ := RdW.open_ hQ
 have hk16 : k1 ≤ 1000000 := by unfold dl at hm6; omega
 have hk26 : k2 ≤ 1000000 := by unfold dl at hn6; omega
 have HE1 := h0d e1
 have HE2 := h0d e2
 have HC1 := h0d hc1
 have HC2 := h0d hc2
 have HMK := hmk (k1 + k2) (k1 + k2) (Nat.le_refl _) (by omega)
 obtain ⟨C0, hC0⟩ : ∃ C, C = ((List.replicate (k1 + k2) 0).map u64V).toArray := ⟨_, rfl⟩
 rw [← hC0, show ((k1 + k2 : Nat) : Int) = (k1 : Int) + (k2 : Int) by omega] at HMK
 have HB0 : Hid (BlkW (w.alloc (.cells C0 270)) w.heap.size (List.replicate (k1 + k2) 0)) := by rw [hC0]; exact BlkW.new w _
 have HMU := h0d mul64_any
 have HAE := h0d add64_eq
 clear hmk e1 e2 hc1 hc2 hP hQ hm6 hn6 hC0
 by_cases hm1' : m = 1
 ·have hd : decide (m = 1) = true := decide_eq_true hm1'
  rw [hd] at HI1
  have HR : Hid (m * n = n) := by show _ = _; rw [hm1', Nat.one_mul]
  clear hm1' hd
  go_enter Tryz.func166, Tryz.ntmps166
  go_wp2_with (go_at_call 226; refine HI1.out.mono ?_; rintro e w2 ⟨rfl, rfl⟩)
  go_ret
  exact ⟨⟨_, rfl, by rw [HR.out]; exact HQ.out⟩, Below.refl _ _⟩
 ·have hd : decide (m = 1) = false := decide_eq_false hm1'
  rw [hd] at HI1
  by_cases hn1' : n = 1
  ·have hd2 : decide (n = 1) = true := decide_eq_true hn1'
   rw [hd2] at HI2
   have HR : Hid (m * n = m) := by show _ = _; rw [hn1', Nat.mul_one]
   clear hm1' hd hn1' hd2
   go_enter Tryz.func166, Tryz.ntmps166
   go_wp2_with (go_at_call 226; (first | (with_reducible refine HI1.out.mono ?_) | (with_reducible refine HI2.out.mono ?_)); rintro e w2 ⟨rfl, rfl⟩)
   go_ret
   exact ⟨⟨_, rfl, by rw [HR.out]; exact HP.out⟩, Below.refl _ _⟩
  ·have hd2 : decide (n = 1) = false := decide_eq_false hn1'
   rw [hd2] at HI2
   clear hm1' hd hn1' hd2
   go_enter Tryz.func166, Tryz.ntmps166
   go_wp2_with (go_at_call 226; (first | (with_reducible refine HI1.out.mono ?_) | (with_reducible refine HI2.out.mono ?_)); rintro e w2 ⟨rfl, rfl⟩)
   go_loopw [28] (fun iv wr => ∃ (i : Nat) (O : List Nat), i ≤ k1 ∧ iv = .int .i64 (i : Int) ∧ Hid (O.length = k1 + k2) ∧ Hid (∀ x ∈ O, x < B64) ∧ Hid (∀ j, i + k2 ≤ j → O.getD j 0 = 0) ∧ Hid (BlkW wr w.heap.size O) ∧ Hid (Below w.heap.size w wr) ∧ Hid (val B64 O = val B64 ((digs B64 m).take i) * n)) (fun iv _ => k1 - (intOf iv).toNat)
   case atStart =>
    refine ⟨0, List.replicate (k1 + k2) 0, Nat.zero_le _, rfl, by show _ = _; simp, fun x hx => ?_, fun j hj => ?_, HB0, (Below.refl _ w).alloc (Nat.le_refl _) _, ?_⟩
    ·rw [List.eq_of_mem_replicate hx]; unfold B64; omega
    ·rw [List.getD_eq_getElem?_getD, List.getElem?_replicate]; split <;> rfl
    ·show _ = _
     rw [val_replicate]; simp [val]
   case round =>
    obtain ⟨i, O, hi, rfl, HOL, HOX, HOZ, HBW, HBEL, HV⟩ := hrel
    by_cases hlt : i < k1
    ·obtain ⟨b1, f1, x, rfl, hb1, hx, hcx⟩ := HC1.out i hlt
     have hxB := digs_lt B64_2 m x (List.mem_of_getElem? hx)
     have hcx' := (HBEL.out.cell (p := ⟨b1, f1 + i, none⟩) hb1).trans hcx
     have HX := h0d hx
     have HXB := h0d hxB
     clear hx hcx hxB
     have HBELo := HBEL
     have HBWo := HBW
     obtain ⟨V, hV⟩ : ∃ V, V = val B64 ((digs B64 m).take i) := ⟨_, rfl⟩
     have HVe := h0d hV
     rw [← hV] at HV
     clear hV
     have HI64 := h0d (show i < k1 from hlt)
     go_wp2_with fail
     go_loopw [8, 35] (fun cv kv wr => ∃ (k c : Nat) (P : List Nat), k ≤ k2 ∧ cv = .int .u64 (c : Int) ∧ kv = .int .i64 (k : Int) ∧ Hid (c < B64) ∧ Hid (P.length = k1 + k2) ∧ Hid (∀ x ∈ P, x < B64) ∧ Hid (∀ j, i + k2 ≤ j → P.getD j 0 = 0) ∧ Hid (BlkW wr w.heap.size P) ∧ Hid (Below w.heap.size w wr) ∧ Hid (val B64 P + c * B64 ^ (i + k) = V * n + x * val B64 ((digs B64 n).take k) * B64 ^ i)) (fun _ kv _ => k2 - (intOf kv).toNat)
     case atStart =>
      exact ⟨0, 0, O, Nat.zero_le _, rfl, rfl, by show _ < _; unfold B64; omega, HOL, HOX, HOZ, HBW, HBEL, by show _ = _; rw [HV.out]; simp [val]⟩
     case round =>
      clear HBEL HBW HV HOL HOX HOZ hcx'
      obtain ⟨k, c, P, hk, rfl, rfl, HCB, HOL, HOX, HOZ, HBW, HBEL, HV⟩ := hrel
      by_cases hlk : k < k2
      ·obtain ⟨b2, f2, y, rfl, hb2, hy, hcy⟩ := HC2.out k hlk
       have hyB := digs_lt B64_2 n y (List.mem_of_getElem? hy)
       have hcy' := (HBEL.out.cell (p := ⟨b2, f2 + k, none⟩) hb2).trans hcy
       have hpl : i + k < P.length := by have := HOL.out; omega
       obtain ⟨o, ho⟩ : ∃ o, P.getD (i + k) 0 = o := ⟨_, rfl⟩
       have hoB : o < B64 := by
        rw [← ho, List.getD_eq_getElem?_getD, List.getElem?_eq_getElem hpl]
        exact HOX.out _ (List.getElem_mem hpl)
       have hst := times_step (B := B64) hpl hy ho HV.out
       obtain ⟨q1, q2, q3, q4, q5⟩ := times_carry HXB.out hyB hoB HCB.out
       have hTL := times_lt HXB.out hyB hoB HCB.out
       have hMU := mul64_any x y HXB.out hyB
       have hA1 := add64_eq (x * y % B64) o 0 (Nat.zero_le _)
       have hA2 := add64_eq ((x * y % B64 + o) % B64) c 0 (Nat.zero_le _)
       rw [← B64_eq] at hMU hA1 hA2
       rw [q3] at hA2
       obtain ⟨h1, hh1⟩ : ∃ h, h = x * y / B64 := ⟨_, rfl⟩
       obtain ⟨l1, hl1⟩ : ∃ h, h = x * y % B64 := ⟨_, rfl⟩
       rw [← hl1] at hA1 hA2 q1 q2 q4 q5
       rw [← hh1] at q4 q5
       rw [← hh1, ← hl1] at hMU
       obtain ⟨l2, hl2⟩ : ∃ h, h = (l1 + o) % B64 := ⟨_, rfl⟩
       have hl2' : (l1 + o + 0) % B64 = l2 := by rw [Nat.add_zero, hl2]
       rw [hl2'] at hA1
       rw [← hl2] at hA2 q2 q5
       obtain ⟨t1, ht1⟩ : ∃ h, h = (l1 + o + 0) / B64 := ⟨_, rfl⟩
       rw [← ht1] at hA1 q1 q4 q5
       obtain ⟨t2, ht2⟩ : ∃ h, h = (l2 + c + 0) / B64 := ⟨_, rfl⟩
       rw [← ht2] at hA2 q2 q5
       obtain ⟨s, hs⟩ : ∃ h, h = (x * y + o + c) % B64 := ⟨_, rfl⟩
       obtain ⟨T, hT⟩ : ∃ h, h = (x * y + o + c) / B64 := ⟨_, rfl⟩
       rw [← hs] at hA2 hst
       rw [← hT] at q5 hst hTL
       have hA1' : ∀ W, (callFunc 231 #[.int .u64 (l1 : Int), .int .u64 (o : Int), .int .u64 0]).run Tryz.prog W = .ok (.value (.tuple #[.int .u64 (l2 : Int), .int .u64 (t1 : Int)])) W := hA1
       have hA2' : ∀ W, (callFunc 231 #[.int .u64 (l2 : Int), .int .u64 (c : Int), .int .u64 0]).run Tryz.prog W = .ok (.value (.tuple #[.int .u64 (s : Int), .int .u64 (t2 : Int)])) W := hA2
       obtain ⟨u, hu⟩ : ∃ u, u = h1 + t1 := ⟨_, rfl⟩
       rw [← hu] at q4 q5
       have hw1 : IntKind.u64.wrap ((h1 : Int) + (t1 : Int)) = (u : Int) := by rw [IntKind.wrap_u64]; unfold B64 at q4; omega
       have hw2 : IntKind.u64.wrap ((u : Int) + (t2 : Int)) = (T : Int) := by rw [IntKind.wrap_u64]; unfold B64 at hTL; omega
       have hsB : s < B64 := by rw [hs]; exact Nat.mod_lt _ (by unfold B64; omega)
       have hcg := HBW.out.cell (i := i + k) (x := o) (by rw [← ho, List.getD_eq_getElem?_getD, List.getElem?_eq_getElem hpl]; rfl)
       have hfg := HBW.out.frozen (i + k)
       have HMUL := h0d hMU
       have HTL := h0d hTL
       have HSB := h0d hsB
       have HST := h0d hst
       have hik : (i : Int) + (k : Int) < (k1 : Int) + (k2 : Int) := by omega
       clear hy hcy hst hs hT hl2 hl2' hl1 hh1 ht1 ht2 hu ho hA1 hA2 hMU hTL hsB q1 q2 q3 q4 q5 hpl hyB hoB
       go_wp2_with (go_at_call 230; refine (HMUL.out _).mono ?_; rintro e w2 ⟨rfl, rfl⟩)
       go_roundw
       case rel =>
        refine ⟨k + 1, T, P.set (i + k) s, by omega, rfl, by go_num, HTL.out, by show _ = _; rw [List.length_set]; exact HOL.out, fun z hz => ?_, fun j hj => ?_, HBW.out.set_ (i + k) s, HBEL.out.setCell (Nat.le_refl _) _, HST.out⟩
        ·rcases List.mem_or_eq_of_mem_set hz with h | h
         ·exact HOX.out z h
         ·rw [h]; exact HSB.out
        ·rw [List.getD_eq_getElem?_getD, List.getElem?_set_ne (by omega), ← List.getD_eq_getElem?_getD]; exact HOZ.out j hj
       case measure => simp [intOf]; omega
      ·obtain rfl : k = k2 := by omega
       have hpl : i + k < P.length := by have := HOL.out; omega
       have ho := HOZ.out (i + k) (Nat.le_refl _)
       have hrow := times_row (B := B64) hpl HE2.out.symm ho (val_digs B64_2 n) HV.out
       have hcg := HBW.out.cell (i := i + k) (x := 0) (by rw [← ho, List.getD_eq_getElem?_getD, List.getElem?_eq_getElem hpl]; rfl)
       have hfg := HBW.out.frozen (i + k)
       have hik : (i : Int) + (k : Int) < (k1 : Int) + (k : Int) := by omega
       have HROW : Hid (val B64 (P.set (i + k) c) = val B64 ((digs B64 m).take (i + 1)) * n) := by
        show _ = _
        rw [hrow, val_take B64 HX.out, HVe.out]
       clear hpl ho hrow
       go_wp2_with fail
       go_roundw
       case rel =>
        refine ⟨i + 1, P.set (i + k) c, by omega, by go_num, by show _ = _; rw [List.length_set]; exact HOL.out, fun z hz => ?_, fun j hj => ?_, HBW.out.set_ (i + k) c, HBEL.out.setCell (Nat.le_refl _) _, HROW.out⟩
        ·rcases List.mem_or_eq_of_mem_set hz with h | h
         ·exact HOX.out z h
         ·rw [h]; exact HCB.out
        ·rw [List.getD_eq_getElem?_getD, List.getElem?_set_ne (by omega), ← List.getD_eq_getElem?_getD]; exact HOZ.out j (by omega)
       case measure => simp [intOf]; omega
    ·obtain rfl : i = k1 := by omega
     have HVV : Hid (val B64 O = m * n) := by
      show _ = _
      rw [HV.out, List.take_of_length_le (by rw [HE1.out]; exact Nat.le_refl _), val_digs B64_2]
     have HCUT := h0d (cut_num _ O wr (HBW.out.rd0 (n := i + k2) (cap := i + k2) (HOL.out.symm) (Nat.le_refl _) (by unfold maxLen; omega)) HOX.out)
     rw [HVV.out] at HCUT
     go_wp2_with (go_at_call 232; refine HCUT.out.mono ?_; rintro e w2 ⟨⟨v', rfl, hr⟩, rfl⟩; have HR := h0d hr; clear hr)
     go_ret
     exact ⟨⟨_, rfl, HR.out⟩, HBEL.out⟩
end Go.Proofs.YtodckaioeomccaaGreat
