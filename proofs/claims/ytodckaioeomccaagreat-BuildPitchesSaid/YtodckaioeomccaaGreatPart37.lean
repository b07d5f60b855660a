/- Walks of the reference's fractions: Neg, Sub, Mul, Div, By, Sign, Cmp; zero, one. -/
import Derived.Test.YtodckaioeomccaaGreatPart22
import Derived.Test.YtodckaioeomccaaGreatPart32
namespace Go.Proofs.YtodckaioeomccaaGreat
open Go.RowKit
set_option linter.unusedVariables false
set_option linter.unusedSimpArgs false
set_option maxRecDepth 100000
set_option maxHeartbeats 4000000
theorem RdM.wd {w w' : World} {v : Value} {n : Nat} (h : RdM w v n) (hw : Wd w w') : RdM w' v n := Rd.wd (fun _ => rfl) h hw
theorem RdF.wd {w w' : World} {v : Value} {x : Rat} (h : RdF w v x) (hw : Wd w w') : RdF w' v x := let ⟨a, b, h1, h2, h3⟩ := h; ⟨a, b, h1, h2.wd hw, h3.wd hw⟩
instance wdRdM (w w' : World) (v : Value) (n : Nat) : WdSt (RdM w v n) w w' (RdM w' v n) := ⟨fun hT h => h.wd hT⟩
instance wdRdF (w w' : World) (v : Value) (x : Rat) : WdSt (RdF w v x) w w' (RdF w' v x) := ⟨fun hT h => h.wd hT⟩
theorem RdM.open {w : World} {v : Value} {n : Nat} (h : RdM w v n) : ∃ A k c, v = .slice A k c ∧ RdM w (.slice A k c) n := by
 obtain ⟨A, k, c, rfl⟩ := h.slice
 exact ⟨_, _, _, rfl, h⟩
theorem RdF.open {w : World} {v : Value} {x : Rat} (h : RdF w v x) : ∃ g A k c B m d, v = .agg #[.bool g, .slice A k c, .slice B m d] ∧ RdF w (.agg #[.bool g, .slice A k c, .slice B m d]) x := by
 obtain ⟨a, b, rfl, ha, hb⟩ := h
 obtain ⟨A, k, c, rfl⟩ := ha.slice
 obtain ⟨B, m, d, rfl⟩ := hb.slice
 exact ⟨_, _, _, _, _, _, _, rfl, _, _, rfl, ha, hb⟩
theorem RdF.both {w : World} {g : Bool} {s t : Value} {x : Rat} (h : RdF w (.agg #[.bool g, s, t]) x) : g = decide (x.num < 0) ∧ RdM w s x.num.natAbs ∧ RdM w t x.den := by
 obtain ⟨a, b, e, ha, hb⟩ := h
 injection e with e; injection e with e; simp at e
 obtain ⟨rfl, rfl, rfl⟩ := e
 exact ⟨rfl, ha, hb⟩
theorem RdF.sign {w : World} {g : Bool} {s t : Value} {x : Rat} (h : RdF w (.agg #[.bool g, s, t]) x) : g = decide (x.num < 0) := h.both.1
theorem RdF.abs {w : World} {g : Bool} {s t : Value} {x : Rat} (h : RdF w (.agg #[.bool g, s, t]) x) : RdM w s x.num.natAbs := h.both.2.1
theorem RdF.den {w : World} {g : Bool} {s t : Value} {x : Rat} (h : RdF w (.agg #[.bool g, s, t]) x) : RdM w t x.den := h.both.2.2
theorem rneg_val {g : Bool} {x : Rat} (h : g = decide (x.num < 0)) : mkRat (signed (!g) x.num.natAbs) x.den = -x := by
 rw [h, signed_not, ← Rat.neg_mkRat, Rat.mkRat_self]
theorem QM.mono {k j : Nat} {x : Rat} (h : QM k x) (hk : k ≤ j) : QM j x := ⟨Nat.le_trans h.1 hk, Nat.le_trans h.2 hk⟩
theorem rneg_any (v : Value) (x : Rat) (w : World) (hv : RdF w v x) (hx6 : QM 400000 x) :
  Calls Tryz.prog 202 #[v] w fun e w' => (∃ v', e = .returned v' ∧ RdF w' v' (-x)) ∧ Below w.heap.size w w' := by
 have HQX := h0d hx6
 clear hx6
 obtain ⟨gp0a, Ap0a, kp0a, cp0a, Ap0b, kp0b, cp0b, rfl, hv⟩ := hv.open
 have HX0 := h0d hv
 clear hv
 go_enter Tryz.func202, Tryz.ntmps202
 obtain ⟨W1, HW1, HB2, s1w, j1⟩ := st_al0 w #[.bool gp0a, .slice Ap0a kp0a cp0a, .slice Ap0b kp0b cp0b] 40
 have HBw := h0d j1
 obtain ⟨W3, HW3, HB4, s3w, j2⟩ := st_alk 1 2 #[.bool false, .slice none 0 0, .slice none 0 0] 40 s1w rfl
 have n2b4 : Hid (w.heap.size ≠ w.heap.size + 1) := by show _ ≠ _; omega
 have l4b : Hid (w.heap.size ≤ w.heap.size + 1) := by show _ ≤ _; omega
 go_wp2_with fail
 rw [← HW1.out, ← HW3.out]
 obtain ⟨W5, hW5⟩ : ∃ W, W = W3.drew := ⟨_, rfl⟩
 have j3 : Below W3.heap.size W3 W5 := by rw [hW5]; exact (Below.refl _ _).drew
 have jm1 := tt j2 j3
 replace HB2 := kB HB2 jm1
 refine seq_start (S := fun w' => w'.cell? ⟨w.heap.size, 0, none⟩ = some (.bool gp0a) ∧ w'.cell? ⟨w.heap.size, 1, none⟩ = some (.slice Ap0a kp0a cp0a) ∧ w'.cell? ⟨w.heap.size, 2, none⟩ = some (.slice Ap0b kp0b cp0b)) (by kernel_rfl) (by kernel_rfl) (by rw [← hW5]; exact ⟨kD HB2 0, kD HB2 1, kD HB2 2⟩) ?_
 rw [← hW5]
 clear hW5
 iterate 6 refine tk0 (h := ?_)
 refine sop (h := fun K9 hK9 => ?_)
 go_simp
 replace HBw := kU HBw jm1
 replace HX0 := kV HBw.out HX0
 refine mN (runder_any _ x _ HX0.out) fun w1 A1 k1 c1 HR1 j1c => ?_
 replace HB2 := kB HB2 j1c
 refine ckk hK9 (by exact ⟨kD HB2 0, kD HB2 1, kD HB2 2⟩) (h := ?_)
 clear hK9 K9
 refine sop (h := fun K9 hK9 => ?_)
 go_simp
 replace HX0 := kV j1c HX0
 refine mQ (rfrac_any _ _ _ x.num.natAbs x.den _ HX0.out.abs HR1.out x.den_nz (by have := HQX.out.1; omega) (by have := HQX.out.2; omega)) fun w2 g2a A2a k2a c2a A2b k2b c2b HR2 j2c => ?_
 replace HX0 := kV j2c HX0
 rw [rneg_val HX0.out.sign] at HR2
 replace HB2 := kB HB2 j2c
 refine ckk hK9 (by exact ⟨kD HB2 0, kD HB2 1, kD HB2 2⟩) (h := ?_)
 clear hK9 K9
 refine sop (h := fun K9 hK9 => ?_)
 have jm2 := tt (tt j3 j1c) j2c
 replace HB4 := kB HB4 jm2
 have c6 := kC HB4 0 rfl
 have c7 := kF HB4 0
 have c8 := kC HB4 1 rfl
 have c9 := kF HB4 1
 have c10 := kC HB4 2 rfl
 have c11 := kF HB4 2
 go_simp
 obtain ⟨W12, HW12⟩ : ∃ W, Hid (W = (((w2.setCell ⟨w.heap.size + 1, 0, none⟩ (.bool g2a)).setCell ⟨w.heap.size + 1, 1, none⟩ (.slice A2a k2a c2a)).setCell ⟨w.heap.size + 1, 2, none⟩ (.slice A2b k2b c2b))) := ⟨_, rfl⟩
 have SW12 : Hid (W12 = setsW w2 (w.heap.size + 1) 0 [.bool g2a, .slice A2a k2a c2a, .slice A2b k2b c2b]) := HW12.out
 have TW12 := kN (SW12.out) HB4 rfl rfl
 replace HB4 := kP (ds := [.bool g2a, .slice A2a k2a c2a, .slice A2b k2b c2b]) (SW12.out) HB4 rfl rfl
 rw [← HW12.out]
 replace HB2 := kO (SW12.out) HB2 n2b4.out
 refine ckk hK9 (by exact ⟨kD HB2 0, kD HB2 1, kD HB2 2⟩) (h := ?_)
 clear hK9 K9 c6 c7 c8 c9 c10 c11
 refine seq_done (by kernel_rfl) ?_
 go_wp2_with fail
 have c13 := kC HB4 0 rfl
 have c14 := kC HB4 1 rfl
 have c15 := kC HB4 2 rfl
 replace HR2 := kW TW12 HR2
 have jm3 := tt j1c j2c
 replace HBw := kS (SW12.out) l4b (kU HBw jm3)
 exact bodyPost_ret (v := .agg #[.bool g2a, .slice A2a k2a c2a, .slice A2b k2b c2b]) (by simp [results, Tryz.results202, go_sem, c13, c14, c15]) rfl ⟨⟨_, rfl, HR2.out⟩, HBw.out⟩
theorem rsign_any (v : Value) (x : Rat) (w : World) (hv : RdF w v x) : Calls Tryz.prog 85 #[v] w fun e w' => e = .returned (.int .i64 (Int.sign x.num)) ∧ Below w.heap.size w w' := by
 obtain ⟨g, A, k, c, B, m, d, rfl, hv⟩ := hv.open
 have hg := hv.sign
 have HV := h0d hv
 clear hv
 obtain ⟨W1, HW1, HB1, HSZ1, hb1⟩ := st_al0 w #[.bool g, .slice A k c, .slice B m d] 40
 have HZ := h0d (rzero_any _ x _ (HV.out.below hb1))
 have HB := h0d hb1
 clear hb1
 by_cases hx : x = 0
 ·rw [decide_eq_true hx] at HZ
  have hs : Int.sign x.num = 0 := by rw [hx]; rfl
  rw [hs]
  clear hs hg hx
  go_enter Tryz.func85, Tryz.ntmps85
  go_wp2_with fail
  rw [← HW1.out]
  refine HZ.out.mono ?_
  rintro e w2 ⟨rfl, hbx⟩
  replace HB := kU HB hbx
  clear hbx
  go_wp2_with fail
  go_ret
  exact ⟨rfl, HB.out⟩
 ·rw [decide_eq_false hx] at HZ
  have hn : x.num ≠ 0 := fun e => hx (Rat.num_eq_zero.1 e)
  by_cases h : x.num < 0
  ·rw [decide_eq_true h] at hg
   have hs : Int.sign x.num = -1 := Int.sign_eq_neg_one_of_neg h
   rw [hs]
   subst hg
   clear hs hx hn h
   go_enter Tryz.func85, Tryz.ntmps85
   go_wp2_with fail
   rw [← HW1.out]
   refine HZ.out.mono ?_
   rintro e w2 ⟨rfl, hbx⟩
   have c0 := kC (kB HB1 hbx) 0 rfl
   replace HB := kU HB hbx
   clear hbx
   go_wp2_with fail
   go_ret
   exact ⟨rfl, HB.out⟩
  ·rw [decide_eq_false h] at hg
   have hs : Int.sign x.num = 1 := Int.sign_eq_one_of_pos (by omega)
   rw [hs]
   subst hg
   clear hs hx hn h
   go_enter Tryz.func85, Tryz.ntmps85
   go_wp2_with fail
   rw [← HW1.out]
   refine HZ.out.mono ?_
   rintro e w2 ⟨rfl, hbx⟩
   have c0 := kC (kB HB1 hbx) 0 rfl
   replace HB := kU HB hbx
   clear hbx
   go_wp2_with fail
   go_ret
   exact ⟨rfl, HB.out⟩
theorem r5zero_any (w : World) :
  Calls Tryz.prog 98 #[] w fun e w' => (∃ v', e = .returned v' ∧ RdF w' v' 0) ∧ Below w.heap.size w w' := by
 go_enter Tryz.func98, Tryz.ntmps98
 obtain ⟨W1, HW1, HB2, s1w, j1⟩ := st_al0 w #[.bool false, .slice none 0 0, .slice none 0 0] 40
 have l2b : Hid (w.heap.size ≤ w.heap.size) := by show _ ≤ _; omega
 have HBw := h0d j1
 go_wp2_with fail
 rw [← HW1.out]
 refine mQ (rwhole_any 0 _ (by omega) (by omega)) fun w1 g1a A1a k1a c1a A1b k1b c1b HR1 j1c => ?_
 replace HB2 := kB HB2 j1c
 have c3 := kC HB2 0 rfl
 have c4 := kF HB2 0
 have c5 := kC HB2 1 rfl
 have c6 := kF HB2 1
 have c7 := kC HB2 2 rfl
 have c8 := kF HB2 2
 obtain ⟨W9, HW9⟩ : ∃ W, Hid (W = (((w1.setCell ⟨w.heap.size, 0, none⟩ (.bool g1a)).setCell ⟨w.heap.size, 1, none⟩ (.slice A1a k1a c1a)).setCell ⟨w.heap.size, 2, none⟩ (.slice A1b k1b c1b))) := ⟨_, rfl⟩
 have SW9 : Hid (W9 = setsW w1 (w.heap.size) 0 [.bool g1a, .slice A1a k1a c1a, .slice A1b k1b c1b]) := HW9.out
 have TW9 := kN (SW9.out) HB2 rfl rfl
 replace HB2 := kP (ds := [.bool g1a, .slice A1a k1a c1a, .slice A1b k1b c1b]) (SW9.out) HB2 rfl rfl
 go_wp2_with fail
 rw [← HW9.out]
 clear c3 c4 c5 c6 c7 c8
 have c10 := kC HB2 0 rfl
 have c11 := kC HB2 1 rfl
 have c12 := kC HB2 2 rfl
 replace HR1 := kW TW9 HR1
 replace HBw := kS (SW9.out) l2b (kU HBw j1c)
 exact bodyPost_ret (v := .agg #[.bool g1a, .slice A1a k1a c1a, .slice A1b k1b c1b]) (by simp [results, Tryz.results98, go_sem, c10, c11, c12]) rfl ⟨⟨_, rfl, HR1.out⟩, HBw.out⟩
end Go.Proofs.YtodckaioeomccaaGreat
