/- The walk of byWord: a number divided by a word. -/
import Derived.Test.YtodckaioeomccaaGreatPart09
import Derived.Test.YtodckaioeomccaaGreatPart10
namespace Go.Proofs.YtodckaioeomccaaGreat
open Go.RowKit
set_option linter.unusedVariables false
set_option linter.unusedSimpArgs false
theorem drop_set_self {α : Type} {xs : List α} {k : Nat} {y : α} (h : k < xs.length) : (xs.set k y).drop k = y :: xs.drop (k + 1) := by
 rw [List.drop_eq_getElem_cons (by simpa using h), List.getElem_set_self, List.drop_set_of_lt (by omega)]
theorem byWord_step {O am : List Nat} {k r x d B : Nat} (hk : k < O.length) (hx : am[k]? = some x) (hd : 0 < d)
  (h : val B (am.drop (k + 1)) = val B (O.drop (k + 1)) * d + r) :
  val B (am.drop k) = val B ((O.set k ((r * B + x) / d)).drop k) * d + (r * B + x) % d := by
 rw [drop_set_self hk, val, val_drop B hx, h, Nat.add_mul, Nat.mul_add, Nat.mul_assoc]
 have e := Nat.div_add_mod (r * B + x) d
 have e2 : (r * B + x) / d * d + (r * B + x) % d = r * B + x := by rw [Nat.mul_comm]; exact e
 rw [Nat.mul_comm B r]
 omega
set_option maxRecDepth 100000 in
set_option maxHeartbeats 4000000 in
theorem byWord_own (va : Value) (m d : Nat) (w : World) (hP : RdN w va m) (hd : 0 < d) (hdB : d < B64) (hm6 : dl m ≤ 1000000) :
  Calls Tryz.prog 233 #[va, .int .u64 (d : Int)] w fun e w' => (∃ v', e = .returned (.tuple #[v', .int .u64 ((m % d : Nat) : Int)]) ∧ RdNS w' (w.heap.size ≤ ·) v' (m / d)) ∧ Below w.heap.size w w' := by
 have hmk := make_words
 obtain ⟨A1, k1, c1, rfl, e1, hk1, _, hm1, hc1⟩ := RdW.open_ hP
 have hk16 : k1 ≤ 1000000 := by unfold dl at hm6; omega
 have HE1 := h0d e1
 have HC1 := h0d hc1
 have HMK := hmk k1 k1 (Nat.le_refl _) (by omega)
 obtain ⟨C0, hC0⟩ : ∃ C, C = ((List.replicate k1 0).map u64V).toArray := ⟨_, rfl⟩
 rw [← hC0] at HMK
 have HB0 : Hid (BlkW (w.alloc (.cells C0 270)) w.heap.size (List.replicate k1 0)) := by rw [hC0]; exact BlkW.new w _
 have HDV : Hid (∀ r x w, r < d → x < B64 → _) := fun r x w hr hx => div64_any r x d hr hdB hx w
 have HD := h0d hd
 have HDB := h0d hdB
 clear hmk e1 hc1 hP hC0 hm6 hd hdB
 go_enter Tryz.func233, Tryz.ntmps233
 go_wp2_with fail
 go_loopw [7, 8] (fun rv iv wr => ∃ (k r : Nat) (O : List Nat), k ≤ k1 ∧ rv = .int .u64 (r : Int) ∧ iv = .int .i64 ((k : Int) - 1) ∧ Hid (r < d) ∧ Hid (O.length = k1) ∧ Hid (∀ x ∈ O, x < B64) ∧ Hid (BlkW wr w.heap.size O) ∧ Hid (Below w.heap.size w wr) ∧ Hid (val B64 ((digs B64 m).drop k) = val B64 (O.drop k) * d + r)) (fun _ iv _ => (intOf iv + 1).toNat)
 case atStart =>
  refine ⟨k1, 0, List.replicate k1 0, Nat.le_refl _, rfl, rfl, HD.out, by show _ = _; simp, fun x hx => ?_, HB0, (Below.refl _ w).alloc (Nat.le_refl _) _, ?_⟩
  ·rw [List.eq_of_mem_replicate hx]; unfold B64; omega
  ·show _ = _
   rw [List.drop_of_length_le (by rw [HE1.out]; exact Nat.le_refl _), List.drop_of_length_le (by simp)]; simp [val]
 case round =>
  obtain ⟨k, r, O, hk, rfl, rfl, HRD, HOL, HOX, HBW, HBEL, HV⟩ := hrel
  by_cases hk0 : k = 0
  ·subst hk0
   have HV0 : Hid (val B64 O = m / d ∧ r = m % d) := by
    have h1 := HV.out
    rw [List.drop_zero, List.drop_zero, val_digs B64_2] at h1
    have h2 := HRD.out
    have := HD.out
    exact ⟨by rw [h1, Nat.mul_comm, Nat.mul_add_div this, Nat.div_eq_of_lt h2, Nat.add_zero], by rw [h1, Nat.mul_comm, Nat.mul_add_mod, Nat.mod_eq_of_lt h2]⟩
   have HCUT := h0d (cut_numS _ _ O wr (HBW.out.rd0S (Nat.le_refl _) (n := k1) (cap := k1) (HOL.out.symm) (Nat.le_refl _) (by unfold maxLen; omega)) HOX.out)
   rw [HV0.out.1] at HCUT
   go_wp2_with (go_at_call 232; refine HCUT.out.mono ?_; rintro e w2 ⟨⟨v', rfl, hr⟩, rfl⟩; have HR := h0d hr; clear hr)
   go_ret2
   exact ⟨⟨_, by rw [← HV0.out.2]; rfl, HR.out⟩, HBEL.out⟩
  ·obtain ⟨j, rfl⟩ : ∃ j, k = j + 1 := ⟨k - 1, by omega⟩
   have hj : (((j + 1 : Nat) : Int) - 1) = (j : Int) := by omega
   rw [hj]
   obtain ⟨b1, f1, x, rfl, hb1, hx, hcx⟩ := HC1.out j (by omega)
   have hxB := digs_lt B64_2 m x (List.mem_of_getElem? hx)
   have hcx' := (HBEL.out.cell (p := ⟨b1, f1 + j, none⟩) hb1).trans hcx
   have hst := byWord_step (B := B64) (O := O) (k := j) (r := r) (d := d) (by have := HOL.out; omega) hx HD.out HV.out
   have hDV : ∀ W, _ := fun W => HDV.out r x W HRD.out hxB
   rw [← B64_eq] at hDV
   obtain ⟨s, hs⟩ : ∃ s, s = (r * B64 + x) / d := ⟨_, rfl⟩
   obtain ⟨t, ht⟩ : ∃ t, t = (r * B64 + x) % d := ⟨_, rfl⟩
   rw [← hs, ← ht] at hst hDV
   have htd : t < d := by rw [ht]; exact Nat.mod_lt _ HD.out
   have hsB : s < B64 := by
    rw [hs, Nat.div_lt_iff_lt_mul HD.out]
    have : (r + 1) * B64 ≤ d * B64 := Nat.mul_le_mul_right _ HRD.out
    rw [Nat.add_mul, Nat.one_mul] at this
    rw [Nat.mul_comm B64 d]; omega
   have HTD := h0d htd
   have HDVV := h0d hDV
   have HJ1 : Hid (j < O.length) := by have := HOL.out; show _ < _; omega
   have HSB := h0d hsB
   have HSTP := h0d hst
   have hk1i : (j : Int) < (k1 : Int) := by omega
   clear hx hcx hst hs ht hxB hsB htd hDV hk0 hj
   go_wp2_with (go_at_call 271; refine (HDVV.out _).mono ?_; rintro e w2 ⟨rfl, hb2⟩; have HB2 := h0d hb2; clear hb2; have HBW2 : Hid (BlkW w2 w.heap.size O) := HBW.out.below HB2.out; have HBL2 : Hid (Below w.heap.size w w2) := HBEL.out.trans (HB2.out.mono HBEL.out.size); have hcg := HBW2.out.cell (i := j) (x := O.getD j 0) (by rw [List.getD_eq_getElem?_getD, List.getElem?_eq_getElem HJ1.out]; rfl); have hfg := HBW2.out.frozen j)
   go_roundw
   case rel =>
    refine ⟨j, t, O.set j s, by omega, rfl, rfl, HTD.out, by show _ = _; rw [List.length_set]; exact HOL.out, fun z hz => ?_, HBW2.out.set_ j s, HBL2.out.setCell (Nat.le_refl _) _, HSTP.out⟩
    rcases List.mem_or_eq_of_mem_set hz with h | h
    ·exact HOX.out z h
    ·rw [h]; exact HSB.out
   case measure => simp [intOf]
theorem byWord_any (va : Value) (m d : Nat) (w : World) (hP : RdN w va m) (hd : 0 < d) (hdB : d < B64) (hm6 : dl m ≤ 1000000) :
  Calls Tryz.prog 233 #[va, .int .u64 (d : Int)] w fun e w' => (∃ v', e = .returned (.tuple #[v', .int .u64 ((m % d : Nat) : Int)]) ∧ RdN w' v' (m / d)) ∧ Below w.heap.size w w' :=
 (byWord_own va m d w hP hd hdB hm6).mono fun e w' ⟨⟨v', h1, h2⟩, h3⟩ => ⟨⟨v', h1, h2.all⟩, h3⟩
end Go.Proofs.YtodckaioeomccaaGreat
