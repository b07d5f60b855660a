/- Walks of the reference's fractions: Neg, Sub, Mul, Div, By, Sign, Cmp; zero, one. -/
import Derived.Test.YtodckaioeomccaaGreatPart23
import Derived.Test.YtodckaioeomccaaGreatPart33
namespace Go.Proofs.YtodckaioeomccaaGreat
open Go.RowKit
set_option linter.unusedVariables false
set_option linter.unusedSimpArgs false
set_option maxRecDepth 100000
set_option maxHeartbeats 4000000
theorem RdM.wd {w w' : World} {v : Value} {n : Nat} (h : RdM w v n) (hw : Wd w w') : RdM w' v n := Rd.wd (fun _ => rfl) h hw
theorem RdF.wd {w w' : World} {v : Value} {x : Rat} (h : RdF w v x) (hw : Wd w w') : RdF w' v x := let ⟨a, b, h1, h2, h3⟩ := h; ⟨a, b, h1, h2.wd hw, h3.wd hw⟩
instance wdRdM (w w' : World) (v : Value) (n : Nat) : WdSt (RdM w v n) w w' (RdM w' v n) := ⟨fun hT h => h.wd hT⟩
instance wdRdF (w w' : World) (v : Value) (x : Rat) : WdSt (RdF w v x) w w' (RdF w' v x) := ⟨fun hT h => h.wd hT⟩
theorem RdM.open {w : World} {v : Value} {n : Nat} (h : RdM w v n) : ∃ A k c, v = .slice A k c ∧ RdM w (.slice A k c) n := by
 obtain ⟨A, k, c, rfl⟩ := h.slice
 exact ⟨_, _, _, rfl, h⟩
theorem RdF.open {w : World} {v : Value} {x : Rat} (h : RdF w v x) : ∃ g A k c B m d, v = .agg #[.bool g, .slice A k c, .slice B m d] ∧ RdF w (.agg #[.bool g, .slice A k c, .slice B m d]) x := by
 obtain ⟨a, b, rfl, ha, hb⟩ := h
 obtain ⟨A, k, c, rfl⟩ := ha.slice
 obtain ⟨B, m, d, rfl⟩ := hb.slice
 exact ⟨_, _, _, _, _, _, _, rfl, _, _, rfl, ha, hb⟩
theorem RdF.both {w : World} {g : Bool} {s t : Value} {x : Rat} (h : RdF w (.agg #[.bool g, s, t]) x) : g = decide (x.num < 0) ∧ RdM w s x.num.natAbs ∧ RdM w t x.den := by
 obtain ⟨a, b, e, ha, hb⟩ := h
 injection e with e; injection e with e; simp at e
 obtain ⟨rfl, rfl, rfl⟩ := e
 exact ⟨rfl, ha, hb⟩
theorem RdF.sign {w : World} {g : Bool} {s t : Value} {x : Rat} (h : RdF w (.agg #[.bool g, s, t]) x) : g = decide (x.num < 0) := h.both.1
theorem RdF.abs {w : World} {g : Bool} {s t : Value} {x : Rat} (h : RdF w (.agg #[.bool g, s, t]) x) : RdM w s x.num.natAbs := h.both.2.1
theorem rneg_val {g : Bool} {x : Rat} (h : g = decide (x.num < 0)) : mkRat (signed (!g) x.num.natAbs) x.den = -x := by
 rw [h, signed_not, ← Rat.neg_mkRat, Rat.mkRat_self]
theorem rmul_val {g k : Bool} {x y : Rat} (h : g = decide (x.num < 0)) (h2 : k = decide (y.num < 0)) : mkRat (signed (!g == k) (x.num.natAbs * y.num.natAbs)) (x.den * y.den) = x * y := by
 rw [h, h2, Rat.mul_def']
 congr 1
 exact signed_ne _ _
theorem rdiv_val {g k : Bool} {x y : Rat} (h : g = decide (x.num < 0)) (h2 : k = decide (y.num < 0)) (hy : y ≠ 0) : mkRat (signed (!g == k) (x.num.natAbs * y.den)) (x.den * y.num.natAbs) = x / y := by
 rw [h, h2, ← div_signed x y hy, neg_imul _ y.den_nz, abs_imul]
 rfl
theorem QM.neg {k : Nat} {x : Rat} (h : QM k x) : QM k (-x) := ⟨by show dm (-x.num).natAbs ≤ k; rw [Int.natAbs_neg]; exact h.1, h.2⟩
theorem QM.mono {k j : Nat} {x : Rat} (h : QM k x) (hk : k ≤ j) : QM j x := ⟨Nat.le_trans h.1 hk, Nat.le_trans h.2 hk⟩
theorem QS.qm {k : Nat} {x : Rat} (h : QS k x) : QM (2 * k) x := ⟨Nat.le_trans (dm_dl _) (Nat.mul_le_mul_left 2 h.1), Nat.le_trans (dm_dl _) (Nat.mul_le_mul_left 2 h.2)⟩
theorem rneg_any (v : Value) (x : Rat) (w : World) (hv : RdF w v x) (hx6 : QM 400000 x) :
  Calls Tryz.prog 202 #[v] w fun e w' => (∃ v', e = .returned v' ∧ RdF w' v' (-x)) ∧ Below w.heap.size w w' := by
 have HQX := h0d hx6
 clear hx6
 obtain ⟨gp0a, Ap0a, kp0a, cp0a, Ap0b, kp0b, cp0b, rfl, hv⟩ := hv.open
 have HX0 := h0d hv
 clear hv
 go_enter Tryz.func202, Tryz.ntmps202
 obtain ⟨W1, HW1, HB2, s1w, j1⟩ := st_al0 w #[.bool gp0a, .slice Ap0a kp0a cp0a, .slice Ap0b kp0b cp0b] 40
 have HBw := h0d j1
 obtain ⟨W3, HW3, HB4, s3w, j2⟩ := st_alk 1 2 #[.bool false, .slice none 0 0, .slice none 0 0] 40 s1w rfl
 have n2b4 : Hid (w.heap.size ≠ w.heap.size + 1) := by show _ ≠ _; omega
 have l4b : Hid (w.heap.size ≤ w.heap.size + 1) := by show _ ≤ _; omega
 go_wp2_with fail
 rw [← HW1.out, ← HW3.out]
 obtain ⟨W5, hW5⟩ : ∃ W, W = W3.drew := ⟨_, rfl⟩
 have j3 : Below W3.heap.size W3 W5 := by rw [hW5]; exact (Below.refl _ _).drew
 have jm1 := tt j2 j3
 replace HB2 := kB HB2 jm1
 refine seq_start (S := fun w' => w'.cell? ⟨w.heap.size, 0, none⟩ = some (.bool gp0a) ∧ w'.cell? ⟨w.heap.size, 1, none⟩ = some (.slice Ap0a kp0a cp0a) ∧ w'.cell? ⟨w.heap.size, 2, none⟩ = some (.slice Ap0b kp0b cp0b)) (by kernel_rfl) (by kernel_rfl) (by rw [← hW5]; exact ⟨kD HB2 0, kD HB2 1, kD HB2 2⟩) ?_
 rw [← hW5]
 clear hW5
 iterate 6 refine tk0 (h := ?_)
 refine sop (h := fun K9 hK9 => ?_)
 go_simp
 replace HBw := kU HBw jm1
 replace HX0 := kV HBw.out HX0
 refine mN (runder_any _ x _ HX0.out) fun w1 A1 k1 c1 HR1 j1c => ?_
 replace HB2 := kB HB2 j1c
 refine ckk hK9 (by exact ⟨kD HB2 0, kD HB2 1, kD HB2 2⟩) (h := ?_)
 clear hK9 K9
 refine sop (h := fun K9 hK9 => ?_)
 go_simp
 replace HX0 := kV j1c HX0
 refine mQ (rfrac_any _ _ _ x.num.natAbs x.den _ HX0.out.abs HR1.out x.den_nz (by have := HQX.out.1; omega) (by have := HQX.out.2; omega)) fun w2 g2a A2a k2a c2a A2b k2b c2b HR2 j2c => ?_
 replace HX0 := kV j2c HX0
 rw [rneg_val HX0.out.sign] at HR2
 replace HB2 := kB HB2 j2c
 refine ckk hK9 (by exact ⟨kD HB2 0, kD HB2 1, kD HB2 2⟩) (h := ?_)
 clear hK9 K9
 refine sop (h := fun K9 hK9 => ?_)
 have jm2 := tt (tt j3 j1c) j2c
 replace HB4 := kB HB4 jm2
 have c6 := kC HB4 0 rfl
 have c7 := kF HB4 0
 have c8 := kC HB4 1 rfl
 have c9 := kF HB4 1
 have c10 := kC HB4 2 rfl
 have c11 := kF HB4 2
 go_simp
 obtain ⟨W12, HW12⟩ : ∃ W, Hid (W = (((w2.setCell ⟨w.heap.size + 1, 0, none⟩ (.bool g2a)).setCell ⟨w.heap.size + 1, 1, none⟩ (.slice A2a k2a c2a)).setCell ⟨w.heap.size + 1, 2, none⟩ (.slice A2b k2b c2b))) := ⟨_, rfl⟩
 have SW12 : Hid (W12 = setsW w2 (w.heap.size + 1) 0 [.bool g2a, .slice A2a k2a c2a, .slice A2b k2b c2b]) := HW12.out
 have TW12 := kN (SW12.out) HB4 rfl rfl
 replace HB4 := kP (ds := [.bool g2a, .slice A2a k2a c2a, .slice A2b k2b c2b]) (SW12.out) HB4 rfl rfl
 rw [← HW12.out]
 replace HB2 := kO (SW12.out) HB2 n2b4.out
 refine ckk hK9 (by exact ⟨kD HB2 0, kD HB2 1, kD HB2 2⟩) (h := ?_)
 clear hK9 K9 c6 c7 c8 c9 c10 c11
 refine seq_done (by kernel_rfl) ?_
 go_wp2_with fail
 have c13 := kC HB4 0 rfl
 have c14 := kC HB4 1 rfl
 have c15 := kC HB4 2 rfl
 replace HR2 := kW TW12 HR2
 have jm3 := tt j1c j2c
 replace HBw := kS (SW12.out) l4b (kU HBw jm3)
 exact bodyPost_ret (v := .agg #[.bool g2a, .slice A2a k2a c2a, .slice A2b k2b c2b]) (by simp [results, Tryz.results202, go_sem, c13, c14, c15]) rfl ⟨⟨_, rfl, HR2.out⟩, HBw.out⟩
theorem rsub_any (v u : Value) (x y : Rat) (w : World) (hv : RdF w v x) (hu : RdF w u y) (hx6 : QM 400000 x) (hy6 : QM 400000 y) :
  Calls Tryz.prog 126 #[v, u] w fun e w' => (∃ v', e = .returned v' ∧ RdF w' v' (x - y)) ∧ Below w.heap.size w w' := by
 have HQX := h0d hx6
 have HQY := h0d hy6
 clear hx6 hy6
 obtain ⟨gp0a, Ap0a, kp0a, cp0a, Ap0b, kp0b, cp0b, rfl, hv⟩ := hv.open
 have HX0 := h0d hv
 clear hv
 obtain ⟨gp1a, Ap1a, kp1a, cp1a, Ap1b, kp1b, cp1b, rfl, hu⟩ := hu.open
 have HX1 := h0d hu
 clear hu
 go_enter Tryz.func126, Tryz.ntmps126
 obtain ⟨W1, HW1, HB2, s1w, j1⟩ := st_al0 w #[.bool gp0a, .slice Ap0a kp0a cp0a, .slice Ap0b kp0b cp0b] 40
 have HBw := h0d j1
 obtain ⟨W3, HW3, HB4, s3w, j2⟩ := st_alk 1 2 #[.bool gp1a, .slice Ap1a kp1a cp1a, .slice Ap1b kp1b cp1b] 40 s1w rfl
 obtain ⟨W5, HW5, HB6, s5w, j3⟩ := st_alk 2 3 #[.bool false, .slice none 0 0, .slice none 0 0] 40 s3w rfl
 have n2b6 : Hid (w.heap.size ≠ w.heap.size + 2) := by show _ ≠ _; omega
 have n4b6 : Hid (w.heap.size + 1 ≠ w.heap.size + 2) := by show _ ≠ _; omega
 have l6b : Hid (w.heap.size ≤ w.heap.size + 2) := by show _ ≤ _; omega
 go_wp2_with fail
 rw [← HW1.out, ← HW3.out, ← HW5.out]
 obtain ⟨W7, hW7⟩ : ∃ W, W = W5.drew := ⟨_, rfl⟩
 have j4 : Below W5.heap.size W5 W7 := by rw [hW7]; exact (Below.refl _ _).drew
 have jm1 := tt (tt j2 j3) j4
 replace HB2 := kB HB2 jm1
 have jm2 := tt j3 j4
 replace HB4 := kB HB4 jm2
 refine seq_start (S := fun w' => w'.cell? ⟨w.heap.size, 0, none⟩ = some (.bool gp0a) ∧ w'.cell? ⟨w.heap.size, 1, none⟩ = some (.slice Ap0a kp0a cp0a) ∧ w'.cell? ⟨w.heap.size, 2, none⟩ = some (.slice Ap0b kp0b cp0b) ∧ w'.cell? ⟨w.heap.size + 1, 0, none⟩ = some (.bool gp1a) ∧ w'.cell? ⟨w.heap.size + 1, 1, none⟩ = some (.slice Ap1a kp1a cp1a) ∧ w'.cell? ⟨w.heap.size + 1, 2, none⟩ = some (.slice Ap1b kp1b cp1b)) (by kernel_rfl) (by kernel_rfl) (by rw [← hW7]; exact ⟨kD HB2 0, kD HB2 1, kD HB2 2, kD HB4 0, kD HB4 1, kD HB4 2⟩) ?_
 rw [← hW7]
 clear hW7
 iterate 2 refine tk0 (h := ?_)
 refine sop (h := fun K9 hK9 => ?_)
 go_simp
 replace HBw := kU HBw jm1
 replace HX1 := kV HBw.out HX1
 refine mQ (rneg_any _ y _ HX1.out HQY.out) fun w1 g1a A1a k1a c1a A1b k1b c1b HR1 j1c => ?_
 replace HB2 := kB HB2 j1c
 replace HB4 := kB HB4 j1c
 refine ckk hK9 (by exact ⟨kD HB2 0, kD HB2 1, kD HB2 2, kD HB4 0, kD HB4 1, kD HB4 2⟩) (h := ?_)
 clear hK9 K9
 refine sop (h := fun K9 hK9 => ?_)
 go_simp
 replace HBw := kU HBw j1c
 replace HX0 := kV HBw.out HX0
 refine mQ (radd_any _ _ x (-y) _ HX0.out HR1.out HQX.out HQY.out.neg) fun w2 g2a A2a k2a c2a A2b k2b c2b HR2 j2c => ?_
 rw [← Rat.sub_eq_add_neg] at HR2
 replace HB2 := kB HB2 j2c
 replace HB4 := kB HB4 j2c
 refine ckk hK9 (by exact ⟨kD HB2 0, kD HB2 1, kD HB2 2, kD HB4 0, kD HB4 1, kD HB4 2⟩) (h := ?_)
 clear hK9 K9
 refine sop (h := fun K9 hK9 => ?_)
 have jm3 := tt (tt j4 j1c) j2c
 replace HB6 := kB HB6 jm3
 have c8 := kC HB6 0 rfl
 have c9 := kF HB6 0
 have c10 := kC HB6 1 rfl
 have c11 := kF HB6 1
 have c12 := kC HB6 2 rfl
 have c13 := kF HB6 2
 go_simp
 obtain ⟨W14, HW14⟩ : ∃ W, Hid (W = (((w2.setCell ⟨w.heap.size + 2, 0, none⟩ (.bool g2a)).setCell ⟨w.heap.size + 2, 1, none⟩ (.slice A2a k2a c2a)).setCell ⟨w.heap.size + 2, 2, none⟩ (.slice A2b k2b c2b))) := ⟨_, rfl⟩
 have SW14 : Hid (W14 = setsW w2 (w.heap.size + 2) 0 [.bool g2a, .slice A2a k2a c2a, .slice A2b k2b c2b]) := HW14.out
 have TW14 := kN (SW14.out) HB6 rfl rfl
 replace HB6 := kP (ds := [.bool g2a, .slice A2a k2a c2a, .slice A2b k2b c2b]) (SW14.out) HB6 rfl rfl
 rw [← HW14.out]
 replace HB2 := kO (SW14.out) HB2 n2b6.out
 replace HB4 := kO (SW14.out) HB4 n4b6.out
 refine ckk hK9 (by exact ⟨kD HB2 0, kD HB2 1, kD HB2 2, kD HB4 0, kD HB4 1, kD HB4 2⟩) (h := ?_)
 clear hK9 K9 c8 c9 c10 c11 c12 c13
 refine seq_done (by kernel_rfl) ?_
 go_wp2_with fail
 have c15 := kC HB6 0 rfl
 have c16 := kC HB6 1 rfl
 have c17 := kC HB6 2 rfl
 replace HR2 := kW TW14 HR2
 replace HBw := kS (SW14.out) l6b (kU HBw j2c)
 exact bodyPost_ret (v := .agg #[.bool g2a, .slice A2a k2a c2a, .slice A2b k2b c2b]) (by simp [results, Tryz.results126, go_sem, c15, c16, c17]) rfl ⟨⟨_, rfl, HR2.out⟩, HBw.out⟩
theorem rmul_any (v u : Value) (x y : Rat) (w : World) (hv : RdF w v x) (hu : RdF w u y) (hx6 : QM 400000 x) (hy6 : QM 400000 y) :
  Calls Tryz.prog 125 #[v, u] w fun e w' => (∃ v', e = .returned v' ∧ RdF w' v' (x * y)) ∧ Below w.heap.size w w' := by
 have HQX := h0d hx6
 have HQY := h0d hy6
 have HP : Hid (dm (x.num.natAbs * y.num.natAbs) ≤ 900000 ∧ dm (x.den * y.den) ≤ 900000) := ⟨by have := dm_mul x.num.natAbs y.num.natAbs; have := hx6.1; have := hy6.1; omega, by have := dm_mul x.den y.den; have := hx6.2; have := hy6.2; omega⟩
 clear hx6 hy6
 obtain ⟨gp0a, Ap0a, kp0a, cp0a, Ap0b, kp0b, cp0b, rfl, hv⟩ := hv.open
 have HX0 := h0d hv
 clear hv
 obtain ⟨gp1a, Ap1a, kp1a, cp1a, Ap1b, kp1b, cp1b, rfl, hu⟩ := hu.open
 have HX1 := h0d hu
 clear hu
 go_enter Tryz.func125, Tryz.ntmps125
 obtain ⟨W1, HW1, HB2, s1w, j1⟩ := st_al0 w #[.bool gp0a, .slice Ap0a kp0a cp0a, .slice Ap0b kp0b cp0b] 40
 have HBw := h0d j1
 obtain ⟨W3, HW3, HB4, s3w, j2⟩ := st_alk 1 2 #[.bool gp1a, .slice Ap1a kp1a cp1a, .slice Ap1b kp1b cp1b] 40 s1w rfl
 obtain ⟨W5, HW5, HB6, s5w, j3⟩ := st_alk 2 3 #[.bool false, .slice none 0 0, .slice none 0 0] 40 s3w rfl
 have n2b6 : Hid (w.heap.size ≠ w.heap.size + 2) := by show _ ≠ _; omega
 have n4b6 : Hid (w.heap.size + 1 ≠ w.heap.size + 2) := by show _ ≠ _; omega
 have l6b : Hid (w.heap.size ≤ w.heap.size + 2) := by show _ ≤ _; omega
 go_wp2_with fail
 rw [← HW1.out, ← HW3.out, ← HW5.out]
 obtain ⟨W7, hW7⟩ : ∃ W, W = W5.drew := ⟨_, rfl⟩
 have j4 : Below W5.heap.size W5 W7 := by rw [hW7]; exact (Below.refl _ _).drew
 have jm1 := tt (tt j2 j3) j4
 replace HB2 := kB HB2 jm1
 have jm2 := tt j3 j4
 replace HB4 := kB HB4 jm2
 refine seq_start (S := fun w' => w'.cell? ⟨w.heap.size, 0, none⟩ = some (.bool gp0a) ∧ w'.cell? ⟨w.heap.size + 1, 0, none⟩ = some (.bool gp1a) ∧ w'.cell? ⟨w.heap.size, 1, none⟩ = some (.slice Ap0a kp0a cp0a) ∧ w'.cell? ⟨w.heap.size + 1, 1, none⟩ = some (.slice Ap1a kp1a cp1a) ∧ w'.cell? ⟨w.heap.size, 2, none⟩ = some (.slice Ap0b kp0b cp0b) ∧ w'.cell? ⟨w.heap.size + 1, 2, none⟩ = some (.slice Ap1b kp1b cp1b)) (by kernel_rfl) (by kernel_rfl) (by rw [← hW7]; exact ⟨kD HB2 0, kD HB4 0, kD HB2 1, kD HB4 1, kD HB2 2, kD HB4 2⟩) ?_
 rw [← hW7]
 clear hW7
 iterate 9 refine tk0 (h := ?_)
 refine plq 1 (h := ?_)
 refine tk0 (h := ?_)
 refine plq 2 (h := ?_)
 refine tk0 (h := ?_)
 refine sop (h := fun K9 hK9 => ?_)
 go_simp
 replace HBw := kU HBw jm1
 replace HX0 := kV HBw.out HX0
 replace HX1 := kV HBw.out HX1
 refine mN (rprod_any _ _ x.num.natAbs y.num.natAbs _ HX0.out.abs HX1.out.abs (by have := HQX.out.1; omega) (by have := HQY.out.1; omega)) fun w1 A1 k1 c1 HR1 j1c => ?_
 replace HB2 := kB HB2 j1c
 replace HB4 := kB HB4 j1c
 refine ckk hK9 (by exact ⟨kD HB2 0, kD HB4 0, kD HB2 1, kD HB4 1, kD HB2 2, kD HB4 2⟩) (h := ?_)
 clear hK9 K9
 refine sop (h := fun K9 hK9 => ?_)
 go_simp
 replace HX0 := kV j1c HX0
 refine mN (runder_any _ x _ HX0.out) fun w2 A2 k2 c2 HR2 j2c => ?_
 replace HB2 := kB HB2 j2c
 replace HB4 := kB HB4 j2c
 refine ckk hK9 (by exact ⟨kD HB2 0, kD HB4 0, kD HB2 1, kD HB4 1, kD HB2 2, kD HB4 2⟩) (h := ?_)
 clear hK9 K9
 refine sop (h := fun K9 hK9 => ?_)
 go_simp
 have jm3 := tt j1c j2c
 replace HX1 := kV jm3 HX1
 refine mN (runder_any _ y _ HX1.out) fun w3 A3 k3 c3 HR3 j3c => ?_
 replace HB2 := kB HB2 j3c
 replace HB4 := kB HB4 j3c
 refine ckk hK9 (by exact ⟨kD HB2 0, kD HB4 0, kD HB2 1, kD HB4 1, kD HB2 2, kD HB4 2⟩) (h := ?_)
 clear hK9 K9
 refine sop (h := fun K9 hK9 => ?_)
 go_simp
 replace HR2 := kV j3c HR2
 refine mN (rprod_any _ _ x.den y.den _ HR2.out HR3.out (by have := HQX.out.2; omega) (by have := HQY.out.2; omega)) fun w4 A4 k4 c4 HR4 j4c => ?_
 replace HB2 := kB HB2 j4c
 replace HB4 := kB HB4 j4c
 refine ckk hK9 (by exact ⟨kD HB2 0, kD HB4 0, kD HB2 1, kD HB4 1, kD HB2 2, kD HB4 2⟩) (h := ?_)
 clear hK9 K9
 refine sop (h := fun K9 hK9 => ?_)
 go_simp
 have jm4 := tt (tt j2c j3c) j4c
 replace HR1 := kV jm4 HR1
 refine mQ (rfrac_any _ _ _ (x.num.natAbs * y.num.natAbs) (x.den * y.den) _ HR1.out HR4.out (Nat.mul_ne_zero x.den_nz y.den_nz) (by have := HP.out.1; omega) (by have := HP.out.2; omega)) fun w5 g5a A5a k5a c5a A5b k5b c5b HR5 j5c => ?_
 have jm5 := tt jm4 j5c
 replace HX0 := kV jm5 HX0
 have jm6 := tt (tt j3c j4c) j5c
 replace HX1 := kV jm6 HX1
 rw [rmul_val HX0.out.sign HX1.out.sign] at HR5
 replace HB2 := kB HB2 j5c
 replace HB4 := kB HB4 j5c
 refine ckk hK9 (by exact ⟨kD HB2 0, kD HB4 0, kD HB2 1, kD HB4 1, kD HB2 2, kD HB4 2⟩) (h := ?_)
 clear hK9 K9
 refine sop (h := fun K9 hK9 => ?_)
 have jm7 := tt (tt (tt (tt (tt j4 j1c) j2c) j3c) j4c) j5c
 replace HB6 := kB HB6 jm7
 have c8 := kC HB6 0 rfl
 have c9 := kF HB6 0
 have c10 := kC HB6 1 rfl
 have c11 := kF HB6 1
 have c12 := kC HB6 2 rfl
 have c13 := kF HB6 2
 go_simp
 obtain ⟨W14, HW14⟩ : ∃ W, Hid (W = (((w5.setCell ⟨w.heap.size + 2, 0, none⟩ (.bool g5a)).setCell ⟨w.heap.size + 2, 1, none⟩ (.slice A5a k5a c5a)).setCell ⟨w.heap.size + 2, 2, none⟩ (.slice A5b k5b c5b))) := ⟨_, rfl⟩
 have SW14 : Hid (W14 = setsW w5 (w.heap.size + 2) 0 [.bool g5a, .slice A5a k5a c5a, .slice A5b k5b c5b]) := HW14.out
 have TW14 := kN (SW14.out) HB6 rfl rfl
 replace HB6 := kP (ds := [.bool g5a, .slice A5a k5a c5a, .slice A5b k5b c5b]) (SW14.out) HB6 rfl rfl
 rw [← HW14.out]
 replace HB2 := kO (SW14.out) HB2 n2b6.out
 replace HB4 := kO (SW14.out) HB4 n4b6.out
 refine ckk hK9 (by exact ⟨kD HB2 0, kD HB4 0, kD HB2 1, kD HB4 1, kD HB2 2, kD HB4 2⟩) (h := ?_)
 clear hK9 K9 c8 c9 c10 c11 c12 c13
 refine seq_done (by kernel_rfl) ?_
 go_wp2_with fail
 have c15 := kC HB6 0 rfl
 have c16 := kC HB6 1 rfl
 have c17 := kC HB6 2 rfl
 replace HR5 := kW TW14 HR5
 have jm8 := tt j1c jm5
 replace HBw := kS (SW14.out) l6b (kU HBw jm8)
 exact bodyPost_ret (v := .agg #[.bool g5a, .slice A5a k5a c5a, .slice A5b k5b c5b]) (by simp [results, Tryz.results125, go_sem, c15, c16, c17]) rfl ⟨⟨_, rfl, HR5.out⟩, HBw.out⟩
theorem rzero_no (v : Value) (x : Rat) (w : World) (hv : RdF w v x) (hx : x ≠ 0) : Calls Tryz.prog 172 #[v] w fun e w' => e = .returned (.bool false) ∧ Below w.heap.size w w' := by
 have := rzero_any v x w hv
 rwa [decide_eq_false hx] at this
theorem rdiv_any (v u : Value) (x y : Rat) (w : World) (hv : RdF w v x) (hu : RdF w u y) (hy : y ≠ 0) (hx6 : QM 400000 x) (hy6 : QM 400000 y) :
  Calls Tryz.prog 200 #[v, u] w fun e w' => (∃ v', e = .returned (.tuple #[v', .int .i64 0]) ∧ RdF w' v' (x / y)) ∧ Below w.heap.size w w' := by
 have HQX := h0d hx6
 have HQY := h0d hy6
 have HY0 := h0d hy
 have HNZ : Hid (x.den * y.num.natAbs ≠ 0) := Nat.mul_ne_zero x.den_nz (fun e => hy (Rat.num_eq_zero.1 (Int.natAbs_eq_zero.1 e)))
 have HP : Hid (dm (x.num.natAbs * y.den) ≤ 900000 ∧ dm (x.den * y.num.natAbs) ≤ 900000) := ⟨by have := dm_mul x.num.natAbs y.den; have := hx6.1; have := hy6.2; omega, by have := dm_mul x.den y.num.natAbs; have := hx6.2; have := hy6.1; omega⟩
 clear hx6 hy6 hy
 obtain ⟨gp0a, Ap0a, kp0a, cp0a, Ap0b, kp0b, cp0b, rfl, hv⟩ := hv.open
 have HX0 := h0d hv
 clear hv
 obtain ⟨gp1a, Ap1a, kp1a, cp1a, Ap1b, kp1b, cp1b, rfl, hu⟩ := hu.open
 have HX1 := h0d hu
 clear hu
 go_enter Tryz.func200, Tryz.ntmps200
 obtain ⟨W1, HW1, HB2, s1w, j1⟩ := st_al0 w #[.bool gp0a, .slice Ap0a kp0a cp0a, .slice Ap0b kp0b cp0b] 40
 have HBw := h0d j1
 obtain ⟨W3, HW3, HB4, s3w, j2⟩ := st_alk 1 2 #[.bool gp1a, .slice Ap1a kp1a cp1a, .slice Ap1b kp1b cp1b] 40 s1w rfl
 obtain ⟨W5, HW5, HB6, s5w, j3⟩ := st_alk 2 3 #[.bool false, .slice none 0 0, .slice none 0 0] 40 s3w rfl
 have n2b6 : Hid (w.heap.size ≠ w.heap.size + 2) := by show _ ≠ _; omega
 have n4b6 : Hid (w.heap.size + 1 ≠ w.heap.size + 2) := by show _ ≠ _; omega
 have l6b : Hid (w.heap.size ≤ w.heap.size + 2) := by show _ ≤ _; omega
 go_wp2_with fail
 rw [← HW1.out, ← HW3.out, ← HW5.out]
 have jm1 := tt j2 j3
 replace HBw := kU HBw jm1
 replace HX1 := kV HBw.out HX1
 refine mV (rzero_no _ y _ HX1.out HY0.out) fun w1 j1c => ?_
 go_wp2_with fail
 obtain ⟨W7, hW7⟩ : ∃ W, W = w1.drew := ⟨_, rfl⟩
 have j4 : Below w1.heap.size w1 W7 := by rw [hW7]; exact (Below.refl _ _).drew
 have jm2 := tt (tt jm1 j1c) j4
 replace HB2 := kB HB2 jm2
 have jm3 := tt (tt j3 j1c) j4
 replace HB4 := kB HB4 jm3
 refine seq_start (S := fun w' => w'.cell? ⟨w.heap.size, 0, none⟩ = some (.bool gp0a) ∧ w'.cell? ⟨w.heap.size + 1, 0, none⟩ = some (.bool gp1a) ∧ w'.cell? ⟨w.heap.size, 1, none⟩ = some (.slice Ap0a kp0a cp0a) ∧ w'.cell? ⟨w.heap.size + 1, 1, none⟩ = some (.slice Ap1a kp1a cp1a) ∧ w'.cell? ⟨w.heap.size + 1, 2, none⟩ = some (.slice Ap1b kp1b cp1b) ∧ w'.cell? ⟨w.heap.size, 2, none⟩ = some (.slice Ap0b kp0b cp0b)) (by kernel_rfl) (by kernel_rfl) (by rw [← hW7]; exact ⟨kD HB2 0, kD HB4 0, kD HB2 1, kD HB4 1, kD HB4 2, kD HB2 2⟩) ?_
 rw [← hW7]
 clear hW7
 iterate 8 refine tk0 (h := ?_)
 refine plq 2 (h := ?_)
 refine tk0 (h := ?_)
 iterate 2 (refine plq 3 (h := ?_); refine tk0 (h := ?_))
 refine sop (h := fun K9 hK9 => ?_)
 go_simp
 have jm4 := tt j1c j4
 replace HX1 := kV jm4 HX1
 refine mN (runder_any _ y _ HX1.out) fun w2 A2 k2 c2 HR2 j2c => ?_
 replace HB2 := kB HB2 j2c
 replace HB4 := kB HB4 j2c
 refine ckk hK9 (by exact ⟨kD HB2 0, kD HB4 0, kD HB2 1, kD HB4 1, kD HB4 2, kD HB2 2⟩) (h := ?_)
 clear hK9 K9
 refine sop (h := fun K9 hK9 => ?_)
 go_simp
 have jm5 := tt jm4 j2c
 replace HBw := kU HBw jm5
 replace HX0 := kV HBw.out HX0
 refine mN (rprod_any _ _ x.num.natAbs y.den _ HX0.out.abs HR2.out (by have := HQX.out.1; omega) (by have := HQY.out.2; omega)) fun w3 A3 k3 c3 HR3 j3c => ?_
 replace HB2 := kB HB2 j3c
 replace HB4 := kB HB4 j3c
 refine ckk hK9 (by exact ⟨kD HB2 0, kD HB4 0, kD HB2 1, kD HB4 1, kD HB4 2, kD HB2 2⟩) (h := ?_)
 clear hK9 K9
 refine sop (h := fun K9 hK9 => ?_)
 go_simp
 replace HX0 := kV j3c HX0
 refine mN (runder_any _ x _ HX0.out) fun w4 A4 k4 c4 HR4 j4c => ?_
 replace HB2 := kB HB2 j4c
 replace HB4 := kB HB4 j4c
 refine ckk hK9 (by exact ⟨kD HB2 0, kD HB4 0, kD HB2 1, kD HB4 1, kD HB4 2, kD HB2 2⟩) (h := ?_)
 clear hK9 K9
 refine sop (h := fun K9 hK9 => ?_)
 go_simp
 have jm6 := tt (tt j2c j3c) j4c
 replace HX1 := kV jm6 HX1
 refine mN (rprod_any _ _ x.den y.num.natAbs _ HR4.out HX1.out.abs (by have := HQX.out.2; omega) (by have := HQY.out.1; omega)) fun w5 A5 k5 c5 HR5 j5c => ?_
 replace HB2 := kB HB2 j5c
 replace HB4 := kB HB4 j5c
 refine ckk hK9 (by exact ⟨kD HB2 0, kD HB4 0, kD HB2 1, kD HB4 1, kD HB4 2, kD HB2 2⟩) (h := ?_)
 clear hK9 K9
 refine sop (h := fun K9 hK9 => ?_)
 go_simp
 have jm7 := tt j4c j5c
 replace HR3 := kV jm7 HR3
 refine mQ (rfrac_any _ _ _ (x.num.natAbs * y.den) (x.den * y.num.natAbs) _ HR3.out HR5.out HNZ.out (by have := HP.out.1; omega) (by have := HP.out.2; omega)) fun w6 g6a A6a k6a c6a A6b k6b c6b HR6 j6c => ?_
 have jm8 := tt jm7 j6c
 replace HX0 := kV jm8 HX0
 have jm9 := tt j5c j6c
 replace HX1 := kV jm9 HX1
 rw [rdiv_val HX0.out.sign HX1.out.sign HY0.out] at HR6
 replace HB2 := kB HB2 j6c
 replace HB4 := kB HB4 j6c
 refine ckk hK9 (by exact ⟨kD HB2 0, kD HB4 0, kD HB2 1, kD HB4 1, kD HB4 2, kD HB2 2⟩) (h := ?_)
 clear hK9 K9
 refine sop (h := fun K9 hK9 => ?_)
 have jm10 := tt (tt (tt (tt jm5 j3c) j4c) j5c) j6c
 replace HB6 := kB HB6 jm10
 have c8 := kC HB6 0 rfl
 have c9 := kF HB6 0
 have c10 := kC HB6 1 rfl
 have c11 := kF HB6 1
 have c12 := kC HB6 2 rfl
 have c13 := kF HB6 2
 go_simp
 obtain ⟨W14, HW14⟩ : ∃ W, Hid (W = (((w6.setCell ⟨w.heap.size + 2, 0, none⟩ (.bool g6a)).setCell ⟨w.heap.size + 2, 1, none⟩ (.slice A6a k6a c6a)).setCell ⟨w.heap.size + 2, 2, none⟩ (.slice A6b k6b c6b))) := ⟨_, rfl⟩
 have SW14 : Hid (W14 = setsW w6 (w.heap.size + 2) 0 [.bool g6a, .slice A6a k6a c6a, .slice A6b k6b c6b]) := HW14.out
 have TW14 := kN (SW14.out) HB6 rfl rfl
 replace HB6 := kP (ds := [.bool g6a, .slice A6a k6a c6a, .slice A6b k6b c6b]) (SW14.out) HB6 rfl rfl
 rw [← HW14.out]
 replace HB2 := kO (SW14.out) HB2 n2b6.out
 replace HB4 := kO (SW14.out) HB4 n4b6.out
 refine ckk hK9 (by exact ⟨kD HB2 0, kD HB4 0, kD HB2 1, kD HB4 1, kD HB4 2, kD HB2 2⟩) (h := ?_)
 clear hK9 K9 c8 c9 c10 c11 c12 c13
 refine tk0 (h := ?_)
 refine seq_done (by kernel_rfl) ?_
 go_wp2_with fail
 have c15 := kC HB6 0 rfl
 have c16 := kC HB6 1 rfl
 have c17 := kC HB6 2 rfl
 replace HR6 := kW TW14 HR6
 have jm11 := tt j3c jm8
 replace HBw := kS (SW14.out) l6b (kU HBw jm11)
 exact bodyPost_ret (v := .tuple #[.agg #[.bool g6a, .slice A6a k6a c6a, .slice A6b k6b c6b], .int .i64 0]) (by simp [results, Tryz.results200, go_sem, c15, c16, c17]) rfl ⟨⟨_, rfl, HR6.out⟩, HBw.out⟩
theorem rby_any (v u : Value) (x y : Rat) (w : World) (hv : RdF w v x) (hu : RdF w u y) (hy : y ≠ 0) (hx6 : QM 400000 x) (hy6 : QM 400000 y) :
  Calls Tryz.prog 124 #[v, u] w fun e w' => (∃ v', e = .returned v' ∧ RdF w' v' (x / y)) ∧ Below w.heap.size w w' := by
 have HQX := h0d hx6
 have HQY := h0d hy6
 have HY0 := h0d hy
 clear hx6 hy6 hy
 obtain ⟨gp0a, Ap0a, kp0a, cp0a, Ap0b, kp0b, cp0b, rfl, hv⟩ := hv.open
 have HX0 := h0d hv
 clear hv
 obtain ⟨gp1a, Ap1a, kp1a, cp1a, Ap1b, kp1b, cp1b, rfl, hu⟩ := hu.open
 have HX1 := h0d hu
 clear hu
 go_enter Tryz.func124, Tryz.ntmps124
 obtain ⟨W1, HW1, HB2, s1w, j1⟩ := st_al0 w #[.bool gp0a, .slice Ap0a kp0a cp0a, .slice Ap0b kp0b cp0b] 40
 have HBw := h0d j1
 obtain ⟨W3, HW3, HB4, s3w, j2⟩ := st_alk 1 2 #[.bool gp1a, .slice Ap1a kp1a cp1a, .slice Ap1b kp1b cp1b] 40 s1w rfl
 obtain ⟨W5, HW5, HB6, s5w, j3⟩ := st_alk 2 3 #[.bool false, .slice none 0 0, .slice none 0 0] 40 s3w rfl
 have l6b : Hid (w.heap.size ≤ w.heap.size + 2) := by show _ ≤ _; omega
 go_wp2_with fail
 rw [← HW1.out, ← HW3.out, ← HW5.out]
 have jm1 := tt j2 j3
 replace HBw := kU HBw jm1
 replace HX0 := kV HBw.out HX0
 replace HX1 := kV HBw.out HX1
 refine (rdiv_any _ _ x y _ HX0.out HX1.out HY0.out HQX.out HQY.out).mono ?_
 rintro e w1 ⟨⟨vx, rfl, hr⟩, j1c⟩
 obtain ⟨g1a, A1a, k1a, c1a, A1b, k1b, c1b, rfl, hr⟩ := hr.open
 have HR1 := h0d hr
 clear hr
 obtain ⟨W7, HW7, HB8, s7w, j4⟩ := st_al0 w1 #[.bool g1a, .slice A1a k1a c1a, .slice A1b k1b c1b] 40
 have jm2 := tt j1c j4
 replace HB6 := kB HB6 jm2
 have c9 := kC HB6 0 rfl
 have c10 := kF HB6 0
 have c11 := kC HB6 1 rfl
 have c12 := kF HB6 1
 have c13 := kC HB6 2 rfl
 have c14 := kF HB6 2
 obtain ⟨W15, HW15⟩ : ∃ W, Hid (W = (((W7.setCell ⟨w.heap.size + 2, 0, none⟩ (.bool g1a)).setCell ⟨w.heap.size + 2, 1, none⟩ (.slice A1a k1a c1a)).setCell ⟨w.heap.size + 2, 2, none⟩ (.slice A1b k1b c1b))) := ⟨_, rfl⟩
 have SW15 : Hid (W15 = setsW W7 (w.heap.size + 2) 0 [.bool g1a, .slice A1a k1a c1a, .slice A1b k1b c1b]) := HW15.out
 have TW15 := kN (SW15.out) HB6 rfl rfl
 replace HB6 := kP (ds := [.bool g1a, .slice A1a k1a c1a, .slice A1b k1b c1b]) (SW15.out) HB6 rfl rfl
 rw [HW7.out] at c9
 rw [HW7.out] at c10
 rw [HW7.out] at c11
 rw [HW7.out] at c12
 rw [HW7.out] at c13
 rw [HW7.out] at c14
 go_wp2_with fail
 rw [← HW7.out, ← HW15.out]
 rw [← HW7.out] at c9
 rw [← HW7.out] at c10
 rw [← HW7.out] at c11
 rw [← HW7.out] at c12
 rw [← HW7.out] at c13
 rw [← HW7.out] at c14
 clear c9 c10 c11 c12 c13 c14
 have c16 := kC HB6 0 rfl
 have c17 := kC HB6 1 rfl
 have c18 := kC HB6 2 rfl
 replace HR1 := kW TW15 (kV j4 HR1)
 replace HBw := kS (SW15.out) l6b (kU HBw jm2)
 exact bodyPost_ret (v := .agg #[.bool g1a, .slice A1a k1a c1a, .slice A1b k1b c1b]) (by simp [results, Tryz.results124, go_sem, c16, c17, c18]) rfl ⟨⟨_, rfl, HR1.out⟩, HBw.out⟩
theorem rsign_any (v : Value) (x : Rat) (w : World) (hv : RdF w v x) : Calls Tryz.prog 85 #[v] w fun e w' => e = .returned (.int .i64 (Int.sign x.num)) ∧ Below w.heap.size w w' := by
 obtain ⟨g, A, k, c, B, m, d, rfl, hv⟩ := hv.open
 have hg := hv.sign
 have HV := h0d hv
 clear hv
 obtain ⟨W1, HW1, HB1, HSZ1, hb1⟩ := st_al0 w #[.bool g, .slice A k c, .slice B m d] 40
 have HZ := h0d (rzero_any _ x _ (HV.out.below hb1))
 have HB := h0d hb1
 clear hb1
 by_cases hx : x = 0
 ·rw [decide_eq_true hx] at HZ
  have hs : Int.sign x.num = 0 := by rw [hx]; rfl
  rw [hs]
  clear hs hg hx
  go_enter Tryz.func85, Tryz.ntmps85
  go_wp2_with fail
  rw [← HW1.out]
  refine HZ.out.mono ?_
  rintro e w2 ⟨rfl, hbx⟩
  replace HB := kU HB hbx
  clear hbx
  go_wp2_with fail
  go_ret
  exact ⟨rfl, HB.out⟩
 ·rw [decide_eq_false hx] at HZ
  have hn : x.num ≠ 0 := fun e => hx (Rat.num_eq_zero.1 e)
  by_cases h : x.num < 0
  ·rw [decide_eq_true h] at hg
   have hs : Int.sign x.num = -1 := Int.sign_eq_neg_one_of_neg h
   rw [hs]
   subst hg
   clear hs hx hn h
   go_enter Tryz.func85, Tryz.ntmps85
   go_wp2_with fail
   rw [← HW1.out]
   refine HZ.out.mono ?_
   rintro e w2 ⟨rfl, hbx⟩
   have c0 := kC (kB HB1 hbx) 0 rfl
   replace HB := kU HB hbx
   clear hbx
   go_wp2_with fail
   go_ret
   exact ⟨rfl, HB.out⟩
  ·rw [decide_eq_false h] at hg
   have hs : Int.sign x.num = 1 := Int.sign_eq_one_of_pos (by omega)
   rw [hs]
   subst hg
   clear hs hx hn h
   go_enter Tryz.func85, Tryz.ntmps85
   go_wp2_with fail
   rw [← HW1.out]
   refine HZ.out.mono ?_
   rintro e w2 ⟨rfl, hbx⟩
   have c0 := kC (kB HB1 hbx) 0 rfl
   replace HB := kU HB hbx
   clear hbx
   go_wp2_with fail
   go_ret
   exact ⟨rfl, HB.out⟩
theorem rcmp_any (v u : Value) (x y : Rat) (w : World) (hv : RdF w v x) (hu : RdF w u y) (hx6 : QM 400000 x) (hy6 : QM 400000 y) :
  Calls Tryz.prog 122 #[v, u] w fun e w' => e = .returned (.int .i64 (Int.sign (x - y).num)) ∧ Below w.heap.size w w' := by
 have HQX := h0d hx6
 have HQY := h0d hy6
 clear hx6 hy6
 obtain ⟨gp0a, Ap0a, kp0a, cp0a, Ap0b, kp0b, cp0b, rfl, hv⟩ := hv.open
 have HX0 := h0d hv
 clear hv
 obtain ⟨gp1a, Ap1a, kp1a, cp1a, Ap1b, kp1b, cp1b, rfl, hu⟩ := hu.open
 have HX1 := h0d hu
 clear hu
 go_enter Tryz.func122, Tryz.ntmps122
 obtain ⟨W1, HW1, HB2, s1w, j1⟩ := st_al0 w #[.bool gp0a, .slice Ap0a kp0a cp0a, .slice Ap0b kp0b cp0b] 40
 have HBw := h0d j1
 obtain ⟨W3, HW3, HB4, s3w, j2⟩ := st_alk 1 2 #[.bool gp1a, .slice Ap1a kp1a cp1a, .slice Ap1b kp1b cp1b] 40 s1w rfl
 go_wp2_with fail
 rw [← HW1.out, ← HW3.out]
 replace HBw := kU HBw j2
 replace HX0 := kV HBw.out HX0
 replace HX1 := kV HBw.out HX1
 refine mQ (rsub_any _ _ x y _ HX0.out HX1.out HQX.out HQY.out) fun w1 g1a A1a k1a c1a A1b k1b c1b HR1 j1c => ?_
 go_wp2_with fail
 refine mV (rsign_any _ (x - y) _ HR1.out) fun w2 j2c => ?_
 go_wp2_with fail
 go_ret
 have jm1 := tt j1c j2c
 replace HBw := kU HBw jm1
 exact ⟨rfl, HBw.out⟩
theorem r5zero_any (w : World) :
  Calls Tryz.prog 98 #[] w fun e w' => (∃ v', e = .returned v' ∧ RdF w' v' 0) ∧ Below w.heap.size w w' := by
 go_enter Tryz.func98, Tryz.ntmps98
 obtain ⟨W1, HW1, HB2, s1w, j1⟩ := st_al0 w #[.bool false, .slice none 0 0, .slice none 0 0] 40
 have l2b : Hid (w.heap.size ≤ w.heap.size) := by show _ ≤ _; omega
 have HBw := h0d j1
 go_wp2_with fail
 rw [← HW1.out]
 refine mQ (rwhole_any 0 _ (by omega) (by omega)) fun w1 g1a A1a k1a c1a A1b k1b c1b HR1 j1c => ?_
 replace HB2 := kB HB2 j1c
 have c3 := kC HB2 0 rfl
 have c4 := kF HB2 0
 have c5 := kC HB2 1 rfl
 have c6 := kF HB2 1
 have c7 := kC HB2 2 rfl
 have c8 := kF HB2 2
 obtain ⟨W9, HW9⟩ : ∃ W, Hid (W = (((w1.setCell ⟨w.heap.size, 0, none⟩ (.bool g1a)).setCell ⟨w.heap.size, 1, none⟩ (.slice A1a k1a c1a)).setCell ⟨w.heap.size, 2, none⟩ (.slice A1b k1b c1b))) := ⟨_, rfl⟩
 have SW9 : Hid (W9 = setsW w1 (w.heap.size) 0 [.bool g1a, .slice A1a k1a c1a, .slice A1b k1b c1b]) := HW9.out
 have TW9 := kN (SW9.out) HB2 rfl rfl
 replace HB2 := kP (ds := [.bool g1a, .slice A1a k1a c1a, .slice A1b k1b c1b]) (SW9.out) HB2 rfl rfl
 go_wp2_with fail
 rw [← HW9.out]
 clear c3 c4 c5 c6 c7 c8
 have c10 := kC HB2 0 rfl
 have c11 := kC HB2 1 rfl
 have c12 := kC HB2 2 rfl
 replace HR1 := kW TW9 HR1
 replace HBw := kS (SW9.out) l2b (kU HBw j1c)
 exact bodyPost_ret (v := .agg #[.bool g1a, .slice A1a k1a c1a, .slice A1b k1b c1b]) (by simp [results, Tryz.results98, go_sem, c10, c11, c12]) rfl ⟨⟨_, rfl, HR1.out⟩, HBw.out⟩
theorem r5one_any (w : World) :
  Calls Tryz.prog 123 #[] w fun e w' => (∃ v', e = .returned v' ∧ RdF w' v' 1) ∧ Below w.heap.size w w' := by
 go_enter Tryz.func123, Tryz.ntmps123
 obtain ⟨W1, HW1, HB2, s1w, j1⟩ := st_al0 w #[.bool false, .slice none 0 0, .slice none 0 0] 40
 have l2b : Hid (w.heap.size ≤ w.heap.size) := by show _ ≤ _; omega
 have HBw := h0d j1
 go_wp2_with fail
 rw [← HW1.out]
 refine mQ (rwhole_any 1 _ (by omega) (by omega)) fun w1 g1a A1a k1a c1a A1b k1b c1b HR1 j1c => ?_
 replace HB2 := kB HB2 j1c
 have c3 := kC HB2 0 rfl
 have c4 := kF HB2 0
 have c5 := kC HB2 1 rfl
 have c6 := kF HB2 1
 have c7 := kC HB2 2 rfl
 have c8 := kF HB2 2
 obtain ⟨W9, HW9⟩ : ∃ W, Hid (W = (((w1.setCell ⟨w.heap.size, 0, none⟩ (.bool g1a)).setCell ⟨w.heap.size, 1, none⟩ (.slice A1a k1a c1a)).setCell ⟨w.heap.size, 2, none⟩ (.slice A1b k1b c1b))) := ⟨_, rfl⟩
 have SW9 : Hid (W9 = setsW w1 (w.heap.size) 0 [.bool g1a, .slice A1a k1a c1a, .slice A1b k1b c1b]) := HW9.out
 have TW9 := kN (SW9.out) HB2 rfl rfl
 replace HB2 := kP (ds := [.bool g1a, .slice A1a k1a c1a, .slice A1b k1b c1b]) (SW9.out) HB2 rfl rfl
 go_wp2_with fail
 rw [← HW9.out]
 clear c3 c4 c5 c6 c7 c8
 have c10 := kC HB2 0 rfl
 have c11 := kC HB2 1 rfl
 have c12 := kC HB2 2 rfl
 replace HR1 := kW TW9 HR1
 replace HBw := kS (SW9.out) l2b (kU HBw j1c)
 exact bodyPost_ret (v := .agg #[.bool g1a, .slice A1a k1a c1a, .slice A1b k1b c1b]) (by simp [results, Tryz.results123, go_sem, c10, c11, c12]) rfl ⟨⟨_, rfl, HR1.out⟩, HBw.out⟩
end Go.Proofs.YtodckaioeomccaaGreat
