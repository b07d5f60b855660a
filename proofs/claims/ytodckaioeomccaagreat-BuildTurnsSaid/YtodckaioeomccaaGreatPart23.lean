/- Walks of fractions: Neg, Sub, Mul, Div, Sign, Cmp, Zero, Whole; one, ratio. Walks of fractions: Zero, Div, one, ratio, Whole, Same; Angle. -/
import Derived.Test.YtodckaioeomccaaGreatPart22
namespace Go.Proofs.YtodckaioeomccaaGreat
open Go.RowKit
set_option linter.unusedVariables false
set_option linter.unusedSimpArgs false
set_option maxRecDepth 100000
set_option maxHeartbeats 4000000
theorem signed_not (z : Int) : signed (!decide (z < 0)) z.natAbs = -z := by
 unfold signed
 by_cases h : z < 0
 ·simp [h]; omega
 ·simp [h]; omega
theorem signed_ne (z y : Int) : signed (decide (z < 0) != decide (y < 0)) (z.natAbs * y.natAbs) = z * y := by
 unfold signed
 rw [← Int.natAbs_mul]
 by_cases h : z < 0 <;> by_cases k : y < 0
 ·have := Int.mul_pos_of_neg_of_neg h k; simp [h, k]; omega
 ·have := Int.mul_nonpos_of_nonpos_of_nonneg (a := z) (b := y) (by omega) (by omega); simp [h, k]; omega
 ·have := Int.mul_nonpos_of_nonneg_of_nonpos (a := z) (b := y) (by omega) (by omega); simp [h, k]; omega
 ·have := Int.mul_nonneg (a := z) (b := y) (by omega) (by omega); simp [h, k]; omega
theorem QS.neg {k : Nat} {x : Rat} (h : QS k x) : QS k (-x) := ⟨by show dl (-x.num).natAbs ≤ k; rw [Int.natAbs_neg]; exact h.1, h.2⟩
theorem isign_any (v : Value) (z : Int) (w : World) (hv : RdZ w v z) : Calls Tryz.prog 197 #[v] w fun e w' => e = .returned (.int .i64 (Int.sign z)) ∧ Below w.heap.size w w' := by
 obtain ⟨g, A, k, c, rfl, hv⟩ := hv.open
 have hg := hv.sign
 have hk : dl z.natAbs = k := by
  obtain ⟨A', n', c', e, e1, _⟩ := RdW.open_ hv.abs
  simp only [Value.slice.injEq] at e
  obtain ⟨rfl, rfl, rfl⟩ := e
  exact e1
 clear hv
 rcases Int.lt_trichotomy z 0 with h | h | h
 ·have hgt : g = true := by rw [hg]; exact decide_eq_true h
  rw [Int.sign_eq_neg_one_of_neg h]
  subst hgt
  clear hg hk h
  go_enter Tryz.func197, Tryz.ntmps197
  go_wp2_with fail
  go_ret
  exact ⟨rfl, (Below.refl _ w).alloc (Nat.le_refl _) _⟩
 ·have hgt : g = false := by rw [hg]; exact decide_eq_false (by omega)
  have hk0 : k = 0 := by rw [← hk, h]; exact dl_zero
  subst hgt; subst hk0
  rw [h]
  clear hg hk h
  go_enter Tryz.func197, Tryz.ntmps197
  go_wp2_with fail
  go_ret
  exact ⟨rfl, (Below.refl _ w).alloc (Nat.le_refl _) _⟩
 ·have hgt : g = false := by rw [hg]; exact decide_eq_false (by omega)
  have hk0 : 0 < k := by rw [← hk]; exact dl_pos (by omega)
  rw [Int.sign_eq_one_of_pos h]
  subst hgt
  clear hg hk h
  go_enter Tryz.func197, Tryz.ntmps197
  go_wp2_with fail
  go_ret
  exact ⟨rfl, (Below.refl _ w).alloc (Nat.le_refl _) _⟩
theorem iminus_any (v : Value) (z : Int) (w : World) (hv : RdZ w v z) :
  Calls Tryz.prog 220 #[v] w fun e w' => (∃ v', e = .returned v' ∧ RdZ w' v' (-z)) ∧ Below w.heap.size w w' := by
 have HSG : Hid (∀ g, g = decide (z < 0) → signed (!g) z.natAbs = -z) := fun g h => by rw [h]; exact signed_not z
 obtain ⟨gp0a, Ap0a, kp0a, cp0a, rfl, hv⟩ := hv.open
 have HX0 := h0d hv
 clear hv
 go_enter Tryz.func220, Tryz.ntmps220
 obtain ⟨W1, HW1, HB2, s1w, j1⟩ := st_al0 w #[.bool gp0a, .slice Ap0a kp0a cp0a] 27
 have HBw := h0d j1
 obtain ⟨W3, HW3, HB4, s3w, j2⟩ := st_alk 1 2 #[.bool false, .slice none 0 0] 27 s1w rfl
 have l4b : Hid (w.heap.size ≤ w.heap.size + 1) := by show _ ≤ _; omega
 go_wp2_with fail
 rw [← HW1.out, ← HW3.out]
 replace HBw := kU HBw j2
 replace HX0 := kV HBw.out HX0
 refine mZ (whole_any _ _ z.natAbs _ HX0.out.abs) fun w1 g1a A1a k1a c1a HR1 j1c => ?_
 rw [HSG.out _ HX0.out.sign] at HR1
 replace HB4 := kB HB4 j1c
 have c5 := kC HB4 0 rfl
 have c6 := kF HB4 0
 have c7 := kC HB4 1 rfl
 have c8 := kF HB4 1
 obtain ⟨W9, HW9⟩ : ∃ W, Hid (W = ((w1.setCell ⟨w.heap.size + 1, 0, none⟩ (.bool g1a)).setCell ⟨w.heap.size + 1, 1, none⟩ (.slice A1a k1a c1a))) := ⟨_, rfl⟩
 have SW9 : Hid (W9 = setsW w1 (w.heap.size + 1) 0 [.bool g1a, .slice A1a k1a c1a]) := HW9.out
 have TW9 := kN (SW9.out) HB4 rfl rfl
 replace HB4 := kP (ds := [.bool g1a, .slice A1a k1a c1a]) (SW9.out) HB4 rfl rfl
 go_wp2_with fail
 rw [← HW9.out]
 clear c5 c6 c7 c8
 have c10 := kC HB4 0 rfl
 have c11 := kC HB4 1 rfl
 replace HR1 := kW TW9 HR1
 replace HBw := kS (SW9.out) l4b (kU HBw j1c)
 exact bodyPost_ret (v := .agg #[.bool g1a, .slice A1a k1a c1a]) (by simp [results, Tryz.results220, go_sem, c10, c11]) rfl ⟨⟨_, rfl, HR1.out⟩, HBw.out⟩
theorem itimes_any (v u : Value) (z y : Int) (w : World) (hv : RdZ w v z) (hu : RdZ w u y) (hz6 : dl z.natAbs ≤ 450000) (hy6 : dl y.natAbs ≤ 450000) :
  Calls Tryz.prog 168 #[v, u] w fun e w' => (∃ v', e = .returned v' ∧ RdZ w' v' (z * y)) ∧ Below w.heap.size w w' := by
 have HSG : Hid (∀ g k, g = decide (z < 0) → k = decide (y < 0) → signed (!g == k) (z.natAbs * y.natAbs) = z * y) := fun g k h h2 => by rw [h, h2]; exact signed_ne z y
 obtain ⟨gp0a, Ap0a, kp0a, cp0a, rfl, hv⟩ := hv.open
 have HX0 := h0d hv
 clear hv
 obtain ⟨gp1a, Ap1a, kp1a, cp1a, rfl, hu⟩ := hu.open
 have HX1 := h0d hu
 clear hu
 go_enter Tryz.func168, Tryz.ntmps168
 obtain ⟨W1, HW1, HB2, s1w, j1⟩ := st_al0 w #[.bool gp0a, .slice Ap0a kp0a cp0a] 27
 have HBw := h0d j1
 obtain ⟨W3, HW3, HB4, s3w, j2⟩ := st_alk 1 2 #[.bool gp1a, .slice Ap1a kp1a cp1a] 27 s1w rfl
 obtain ⟨W5, HW5, HB6, s5w, j3⟩ := st_alk 2 3 #[.bool false, .slice none 0 0] 27 s3w rfl
 have n2b6 : Hid (w.heap.size ≠ w.heap.size + 2) := by show _ ≠ _; omega
 have n4b6 : Hid (w.heap.size + 1 ≠ w.heap.size + 2) := by show _ ≠ _; omega
 have l6b : Hid (w.heap.size ≤ w.heap.size + 2) := by show _ ≤ _; omega
 go_wp2_with fail
 rw [← HW1.out, ← HW3.out, ← HW5.out]
 obtain ⟨W7, hW7⟩ : ∃ W, W = W5.drew := ⟨_, rfl⟩
 have j4 : Below W5.heap.size W5 W7 := by rw [hW7]; exact (Below.refl _ _).drew
 have jm1 := tt (tt j2 j3) j4
 replace HB2 := kB HB2 jm1
 have jm2 := tt j3 j4
 replace HB4 := kB HB4 jm2
 refine seq_start (S := fun w' => w'.cell? ⟨w.heap.size, 0, none⟩ = some (.bool gp0a) ∧ w'.cell? ⟨w.heap.size + 1, 0, none⟩ = some (.bool gp1a) ∧ w'.cell? ⟨w.heap.size, 1, none⟩ = some (.slice Ap0a kp0a cp0a) ∧ w'.cell? ⟨w.heap.size + 1, 1, none⟩ = some (.slice Ap1a kp1a cp1a)) (by kernel_rfl) (by kernel_rfl) (by rw [← hW7]; exact ⟨kD HB2 0, kD HB4 0, kD HB2 1, kD HB4 1⟩) ?_
 rw [← hW7]
 clear hW7
 iterate 9 refine tk0 (h := ?_)
 refine sop (h := fun K9 hK9 => ?_)
 go_simp
 replace HBw := kU HBw jm1
 replace HX0 := kV HBw.out HX0
 replace HX1 := kV HBw.out HX1
 refine mN (times_any _ _ z.natAbs y.natAbs _ HX0.out.abs HX1.out.abs (by omega) (by omega)) fun w1 A1 k1 c1 HR1 j1c => ?_
 replace HB2 := kB HB2 j1c
 replace HB4 := kB HB4 j1c
 refine ckk hK9 (by exact ⟨kD HB2 0, kD HB4 0, kD HB2 1, kD HB4 1⟩) (h := ?_)
 clear hK9 K9
 refine sop (h := fun K9 hK9 => ?_)
 go_simp
 refine mZ (whole_any _ _ _ _ HR1.out) fun w2 g2a A2a k2a c2a HR2 j2c => ?_
 have jm3 := tt j1c j2c
 replace HX0 := kV jm3 HX0
 replace HX1 := kV jm3 HX1
 rw [HSG.out _ _ HX0.out.sign HX1.out.sign] at HR2
 replace HB2 := kB HB2 j2c
 replace HB4 := kB HB4 j2c
 refine ckk hK9 (by exact ⟨kD HB2 0, kD HB4 0, kD HB2 1, kD HB4 1⟩) (h := ?_)
 clear hK9 K9
 refine sop (h := fun K9 hK9 => ?_)
 have jm4 := tt j4 jm3
 replace HB6 := kB HB6 jm4
 have c8 := kC HB6 0 rfl
 have c9 := kF HB6 0
 have c10 := kC HB6 1 rfl
 have c11 := kF HB6 1
 go_simp
 obtain ⟨W12, HW12⟩ : ∃ W, Hid (W = ((w2.setCell ⟨w.heap.size + 2, 0, none⟩ (.bool g2a)).setCell ⟨w.heap.size + 2, 1, none⟩ (.slice A2a k2a c2a))) := ⟨_, rfl⟩
 have SW12 : Hid (W12 = setsW w2 (w.heap.size + 2) 0 [.bool g2a, .slice A2a k2a c2a]) := HW12.out
 have TW12 := kN (SW12.out) HB6 rfl rfl
 replace HB6 := kP (ds := [.bool g2a, .slice A2a k2a c2a]) (SW12.out) HB6 rfl rfl
 rw [← HW12.out]
 replace HB2 := kO (SW12.out) HB2 n2b6.out
 replace HB4 := kO (SW12.out) HB4 n4b6.out
 refine ckk hK9 (by exact ⟨kD HB2 0, kD HB4 0, kD HB2 1, kD HB4 1⟩) (h := ?_)
 clear hK9 K9 c8 c9 c10 c11
 refine seq_done (by kernel_rfl) ?_
 go_wp2_with fail
 have c13 := kC HB6 0 rfl
 have c14 := kC HB6 1 rfl
 replace HR2 := kW TW12 HR2
 replace HBw := kS (SW12.out) l6b (kU HBw jm3)
 exact bodyPost_ret (v := .agg #[.bool g2a, .slice A2a k2a c2a]) (by simp [results, Tryz.results168, go_sem, c13, c14]) rfl ⟨⟨_, rfl, HR2.out⟩, HBw.out⟩
theorem ifold_any (v : Value) (z : Int) (n : Nat) (w : World) (hv : RdZ w v z) (hz6 : dl z.natAbs ≤ 450000) (hn : n < B64) :
  Calls Tryz.prog 219 #[v, .int .u64 (n : Int)] w fun e w' => (∃ v', e = .returned v' ∧ RdZ w' v' (z * n)) ∧ Below w.heap.size w w' := by
 have HNB := h0d hn
 clear hn
 obtain ⟨gp0a, Ap0a, kp0a, cp0a, rfl, hv⟩ := hv.open
 have HX0 := h0d hv
 clear hv
 go_enter Tryz.func219, Tryz.ntmps219
 obtain ⟨W1, HW1, HB2, s1w, j1⟩ := st_al0 w #[.bool gp0a, .slice Ap0a kp0a cp0a] 27
 have HBw := h0d j1
 obtain ⟨W3, HW3, HB4, s3w, j2⟩ := st_alk 1 2 #[.bool false, .slice none 0 0] 27 s1w rfl
 have n2b4 : Hid (w.heap.size ≠ w.heap.size + 1) := by show _ ≠ _; omega
 have l4b : Hid (w.heap.size ≤ w.heap.size + 1) := by show _ ≤ _; omega
 go_wp2_with fail
 rw [← HW1.out, ← HW3.out]
 obtain ⟨W5, hW5⟩ : ∃ W, W = W3.drew := ⟨_, rfl⟩
 have j3 : Below W3.heap.size W3 W5 := by rw [hW5]; exact (Below.refl _ _).drew
 have jm1 := tt j2 j3
 replace HB2 := kB HB2 jm1
 refine seq_start (S := fun w' => w'.cell? ⟨w.heap.size, 0, none⟩ = some (.bool gp0a) ∧ w'.cell? ⟨w.heap.size, 1, none⟩ = some (.slice Ap0a kp0a cp0a)) (by kernel_rfl) (by kernel_rfl) (by rw [← hW5]; exact ⟨kD HB2 0, kD HB2 1⟩) ?_
 rw [← hW5]
 clear hW5
 iterate 2 refine tk0 (h := ?_)
 refine sop (h := fun K9 hK9 => ?_)
 go_simp
 refine mN (word_any n _ HNB.out) fun w1 A1 k1 c1 HR1 j1c => ?_
 replace HB2 := kB HB2 j1c
 refine ckk hK9 (by exact ⟨kD HB2 0, kD HB2 1⟩) (h := ?_)
 clear hK9 K9
 refine sop (h := fun K9 hK9 => ?_)
 go_simp
 have jm2 := tt jm1 j1c
 replace HBw := kU HBw jm2
 replace HX0 := kV HBw.out HX0
 refine mZ (scaled_any _ _ z n _ HX0.out HR1.out (by omega) (by have := dl_small HNB.out; omega)) fun w2 g2a A2a k2a c2a HR2 j2c => ?_
 replace HB2 := kB HB2 j2c
 refine ckk hK9 (by exact ⟨kD HB2 0, kD HB2 1⟩) (h := ?_)
 clear hK9 K9
 refine sop (h := fun K9 hK9 => ?_)
 have jm3 := tt (tt j3 j1c) j2c
 replace HB4 := kB HB4 jm3
 have c6 := kC HB4 0 rfl
 have c7 := kF HB4 0
 have c8 := kC HB4 1 rfl
 have c9 := kF HB4 1
 go_simp
 obtain ⟨W10, HW10⟩ : ∃ W, Hid (W = ((w2.setCell ⟨w.heap.size + 1, 0, none⟩ (.bool g2a)).setCell ⟨w.heap.size + 1, 1, none⟩ (.slice A2a k2a c2a))) := ⟨_, rfl⟩
 have SW10 : Hid (W10 = setsW w2 (w.heap.size + 1) 0 [.bool g2a, .slice A2a k2a c2a]) := HW10.out
 have TW10 := kN (SW10.out) HB4 rfl rfl
 replace HB4 := kP (ds := [.bool g2a, .slice A2a k2a c2a]) (SW10.out) HB4 rfl rfl
 rw [← HW10.out]
 replace HB2 := kO (SW10.out) HB2 n2b4.out
 refine ckk hK9 (by exact ⟨kD HB2 0, kD HB2 1⟩) (h := ?_)
 clear hK9 K9 c6 c7 c8 c9
 refine seq_done (by kernel_rfl) ?_
 go_wp2_with fail
 have c11 := kC HB4 0 rfl
 have c12 := kC HB4 1 rfl
 replace HR2 := kW TW10 HR2
 replace HBw := kS (SW10.out) l4b (kU HBw j2c)
 exact bodyPost_ret (v := .agg #[.bool g2a, .slice A2a k2a c2a]) (by simp [results, Tryz.results219, go_sem, c11, c12]) rfl ⟨⟨_, rfl, HR2.out⟩, HBw.out⟩
theorem sign_any (v : Value) (x : Rat) (w : World) (hv : RdQ w v x) :
  Calls Tryz.prog 118 #[v] w fun e w' => e = .returned (.int .i64 (Int.sign x.num)) ∧ Below w.heap.size w w' := by
 obtain ⟨gp0a, Ap0a, kp0a, cp0a, Ap0b, kp0b, cp0b, rfl, hv⟩ := hv.open
 have HX0 := h0d hv
 clear hv
 go_enter Tryz.func118, Tryz.ntmps118
 obtain ⟨W1, HW1, HB2, s1w, j1⟩ := st_al0 w #[.bool gp0a, .slice Ap0a kp0a cp0a, .slice Ap0b kp0b cp0b] 32
 have HBw := h0d j1
 go_wp2_with fail
 rw [← HW1.out]
 replace HX0 := kV j1 HX0
 refine mV (isign_any _ x.num _ HX0.out.num) fun w1 j1c => ?_
 go_wp2_with fail
 go_ret
 replace HBw := kU HBw j1c
 exact ⟨rfl, HBw.out⟩
theorem neg_any (v : Value) (x : Rat) (w : World) (hv : RdQ w v x) :
  Calls Tryz.prog 167 #[v] w fun e w' => (∃ v', e = .returned v' ∧ RdQ w' v' (-x)) ∧ Below w.heap.size w w' := by
 obtain ⟨gp0a, Ap0a, kp0a, cp0a, Ap0b, kp0b, cp0b, rfl, hv⟩ := hv.open
 have HX0 := h0d hv
 clear hv
 go_enter Tryz.func167, Tryz.ntmps167
 obtain ⟨W1, HW1, HB2, s1w, j1⟩ := st_al0 w #[.bool gp0a, .slice Ap0a kp0a cp0a, .slice Ap0b kp0b cp0b] 32
 have HBw := h0d j1
 obtain ⟨W3, HW3, HB4, s3w, j2⟩ := st_alk 1 2 #[.bool false, .slice none 0 0, .slice none 0 0] 32 s1w rfl
 have n2b4 : Hid (w.heap.size ≠ w.heap.size + 1) := by show _ ≠ _; omega
 have l4b : Hid (w.heap.size ≤ w.heap.size + 1) := by show _ ≤ _; omega
 go_wp2_with fail
 rw [← HW1.out, ← HW3.out]
 obtain ⟨W5, hW5⟩ : ∃ W, W = W3.drew := ⟨_, rfl⟩
 have j3 : Below W3.heap.size W3 W5 := by rw [hW5]; exact (Below.refl _ _).drew
 have jm1 := tt j2 j3
 replace HB2 := kB HB2 jm1
 refine seq_start (S := fun w' => w'.cell? ⟨w.heap.size, 0, none⟩ = some (.bool gp0a) ∧ w'.cell? ⟨w.heap.size, 1, none⟩ = some (.slice Ap0a kp0a cp0a) ∧ w'.cell? ⟨w.heap.size, 2, none⟩ = some (.slice Ap0b kp0b cp0b)) (by kernel_rfl) (by kernel_rfl) (by rw [← hW5]; exact ⟨kD HB2 0, kD HB2 1, kD HB2 2⟩) ?_
 rw [← hW5]
 clear hW5
 iterate 2 refine tk0 (h := ?_)
 iterate 2 (refine plq 1 (h := ?_); refine tk0 (h := ?_))
 refine sop (h := fun K9 hK9 => ?_)
 go_simp
 replace HBw := kU HBw jm1
 replace HX0 := kV HBw.out HX0
 refine mZ (iminus_any _ x.num _ HX0.out.num) fun w1 g1a A1a k1a c1a HR1 j1c => ?_
 replace HB2 := kB HB2 j1c
 refine ckk hK9 (by exact ⟨kD HB2 0, kD HB2 1, kD HB2 2⟩) (h := ?_)
 clear hK9 K9
 refine tk0 (h := ?_)
 refine sop (h := fun K9 hK9 => ?_)
 have jm2 := tt j3 j1c
 replace HB4 := kB HB4 jm2
 have c6 := kC HB4 0 rfl
 have c7 := kF HB4 0
 have c8 := kC HB4 1 rfl
 have c9 := kF HB4 1
 have c10 := kC HB4 2 rfl
 have c11 := kF HB4 2
 go_simp
 obtain ⟨W12, HW12⟩ : ∃ W, Hid (W = (((w1.setCell ⟨w.heap.size + 1, 0, none⟩ (.bool g1a)).setCell ⟨w.heap.size + 1, 1, none⟩ (.slice A1a k1a c1a)).setCell ⟨w.heap.size + 1, 2, none⟩ (.slice Ap0b kp0b cp0b))) := ⟨_, rfl⟩
 have SW12 : Hid (W12 = setsW w1 (w.heap.size + 1) 0 [.bool g1a, .slice A1a k1a c1a, .slice Ap0b kp0b cp0b]) := HW12.out
 have TW12 := kN (SW12.out) HB4 rfl rfl
 replace HB4 := kP (ds := [.bool g1a, .slice A1a k1a c1a, .slice Ap0b kp0b cp0b]) (SW12.out) HB4 rfl rfl
 rw [← HW12.out]
 replace HB2 := kO (SW12.out) HB2 n2b4.out
 refine ckk hK9 (by exact ⟨kD HB2 0, kD HB2 1, kD HB2 2⟩) (h := ?_)
 clear hK9 K9 c6 c7 c8 c9 c10 c11
 refine seq_done (by kernel_rfl) ?_
 go_wp2_with fail
 have c13 := kC HB4 0 rfl
 have c14 := kC HB4 1 rfl
 have c15 := kC HB4 2 rfl
 replace HR1 := kW TW12 HR1
 replace HX0 := kW TW12 (kV j1c HX0)
 replace HBw := kS (SW12.out) l4b (kU HBw j1c)
 exact bodyPost_ret (v := .agg #[.bool g1a, .slice A1a k1a c1a, .slice Ap0b kp0b cp0b]) (by simp [results, Tryz.results167, go_sem, c13, c14, c15]) rfl ⟨⟨_, rfl, (RdQ.mk (x := -x) HR1.out HX0.out.den)⟩, HBw.out⟩
theorem sub_any (v u : Value) (x y : Rat) (w : World) (hv : RdQ w v x) (hu : RdQ w u y) (hx6 : QS 100000 x) (hy6 : QS 100000 y) :
  Calls Tryz.prog 78 #[v, u] w fun e w' => (∃ v', e = .returned v' ∧ RdQ w' v' (x - y)) ∧ Below w.heap.size w w' := by
 have HQX := h0d hx6
 have HQY := h0d hy6
 clear hx6 hy6
 obtain ⟨gp0a, Ap0a, kp0a, cp0a, Ap0b, kp0b, cp0b, rfl, hv⟩ := hv.open
 have HX0 := h0d hv
 clear hv
 obtain ⟨gp1a, Ap1a, kp1a, cp1a, Ap1b, kp1b, cp1b, rfl, hu⟩ := hu.open
 have HX1 := h0d hu
 clear hu
 go_enter Tryz.func78, Tryz.ntmps78
 obtain ⟨W1, HW1, HB2, s1w, j1⟩ := st_al0 w #[.bool gp0a, .slice Ap0a kp0a cp0a, .slice Ap0b kp0b cp0b] 32
 have HBw := h0d j1
 obtain ⟨W3, HW3, HB4, s3w, j2⟩ := st_alk 1 2 #[.bool gp1a, .slice Ap1a kp1a cp1a, .slice Ap1b kp1b cp1b] 32 s1w rfl
 obtain ⟨W5, HW5, HB6, s5w, j3⟩ := st_alk 2 3 #[.bool false, .slice none 0 0, .slice none 0 0] 32 s3w rfl
 have n2b6 : Hid (w.heap.size ≠ w.heap.size + 2) := by show _ ≠ _; omega
 have n4b6 : Hid (w.heap.size + 1 ≠ w.heap.size + 2) := by show _ ≠ _; omega
 have l6b : Hid (w.heap.size ≤ w.heap.size + 2) := by show _ ≤ _; omega
 go_wp2_with fail
 rw [← HW1.out, ← HW3.out, ← HW5.out]
 obtain ⟨W7, hW7⟩ : ∃ W, W = W5.drew := ⟨_, rfl⟩
 have j4 : Below W5.heap.size W5 W7 := by rw [hW7]; exact (Below.refl _ _).drew
 have jm1 := tt (tt j2 j3) j4
 replace HB2 := kB HB2 jm1
 have jm2 := tt j3 j4
 replace HB4 := kB HB4 jm2
 refine seq_start (S := fun w' => w'.cell? ⟨w.heap.size, 0, none⟩ = some (.bool gp0a) ∧ w'.cell? ⟨w.heap.size, 1, none⟩ = some (.slice Ap0a kp0a cp0a) ∧ w'.cell? ⟨w.heap.size, 2, none⟩ = some (.slice Ap0b kp0b cp0b) ∧ w'.cell? ⟨w.heap.size + 1, 0, none⟩ = some (.bool gp1a) ∧ w'.cell? ⟨w.heap.size + 1, 1, none⟩ = some (.slice Ap1a kp1a cp1a) ∧ w'.cell? ⟨w.heap.size + 1, 2, none⟩ = some (.slice Ap1b kp1b cp1b)) (by kernel_rfl) (by kernel_rfl) (by rw [← hW7]; exact ⟨kD HB2 0, kD HB2 1, kD HB2 2, kD HB4 0, kD HB4 1, kD HB4 2⟩) ?_
 rw [← hW7]
 clear hW7
 iterate 2 refine tk0 (h := ?_)
 refine sop (h := fun K9 hK9 => ?_)
 go_simp
 replace HBw := kU HBw jm1
 replace HX1 := kV HBw.out HX1
 refine mQ (neg_any _ y _ HX1.out) fun w1 g1a A1a k1a c1a A1b k1b c1b HR1 j1c => ?_
 replace HB2 := kB HB2 j1c
 replace HB4 := kB HB4 j1c
 refine ckk hK9 (by exact ⟨kD HB2 0, kD HB2 1, kD HB2 2, kD HB4 0, kD HB4 1, kD HB4 2⟩) (h := ?_)
 clear hK9 K9
 refine sop (h := fun K9 hK9 => ?_)
 go_simp
 replace HBw := kU HBw j1c
 replace HX0 := kV HBw.out HX0
 refine mQ (add_any _ _ x (-y) _ HX0.out HR1.out HQX.out HQY.out.neg) fun w2 g2a A2a k2a c2a A2b k2b c2b HR2 j2c => ?_
 rw [← Rat.sub_eq_add_neg] at HR2
 replace HB2 := kB HB2 j2c
 replace HB4 := kB HB4 j2c
 refine ckk hK9 (by exact ⟨kD HB2 0, kD HB2 1, kD HB2 2, kD HB4 0, kD HB4 1, kD HB4 2⟩) (h := ?_)
 clear hK9 K9
 refine sop (h := fun K9 hK9 => ?_)
 have jm3 := tt (tt j4 j1c) j2c
 replace HB6 := kB HB6 jm3
 have c8 := kC HB6 0 rfl
 have c9 := kF HB6 0
 have c10 := kC HB6 1 rfl
 have c11 := kF HB6 1
 have c12 := kC HB6 2 rfl
 have c13 := kF HB6 2
 go_simp
 obtain ⟨W14, HW14⟩ : ∃ W, Hid (W = (((w2.setCell ⟨w.heap.size + 2, 0, none⟩ (.bool g2a)).setCell ⟨w.heap.size + 2, 1, none⟩ (.slice A2a k2a c2a)).setCell ⟨w.heap.size + 2, 2, none⟩ (.slice A2b k2b c2b))) := ⟨_, rfl⟩
 have SW14 : Hid (W14 = setsW w2 (w.heap.size + 2) 0 [.bool g2a, .slice A2a k2a c2a, .slice A2b k2b c2b]) := HW14.out
 have TW14 := kN (SW14.out) HB6 rfl rfl
 replace HB6 := kP (ds := [.bool g2a, .slice A2a k2a c2a, .slice A2b k2b c2b]) (SW14.out) HB6 rfl rfl
 rw [← HW14.out]
 replace HB2 := kO (SW14.out) HB2 n2b6.out
 replace HB4 := kO (SW14.out) HB4 n4b6.out
 refine ckk hK9 (by exact ⟨kD HB2 0, kD HB2 1, kD HB2 2, kD HB4 0, kD HB4 1, kD HB4 2⟩) (h := ?_)
 clear hK9 K9 c8 c9 c10 c11 c12 c13
 refine seq_done (by kernel_rfl) ?_
 go_wp2_with fail
 have c15 := kC HB6 0 rfl
 have c16 := kC HB6 1 rfl
 have c17 := kC HB6 2 rfl
 replace HR2 := kW TW14 HR2
 replace HBw := kS (SW14.out) l6b (kU HBw j2c)
 exact bodyPost_ret (v := .agg #[.bool g2a, .slice A2a k2a c2a, .slice A2b k2b c2b]) (by simp [results, Tryz.results78, go_sem, c15, c16, c17]) rfl ⟨⟨_, rfl, HR2.out⟩, HBw.out⟩
theorem mk_sizes {z : Int} {D : Nat} (hD : D ≠ 0) : (mkRat z D).num.natAbs ≤ z.natAbs ∧ (mkRat z D).den ≤ D := by
 rw [mk_num hD, mk_den hD]
 constructor
 ·rw [Int.natAbs_ediv_of_dvd (Int.ofNat_dvd_left.2 (Nat.gcd_dvd_left _ _))]; exact Nat.div_le_self _ _
 ·exact Nat.div_le_self _ _
theorem QS.mul {a b : Nat} {x y : Rat} (h : QS a x) (k : QS b y) : QS (a + b) (x * y) := by
 have hxd := x.den_nz
 have hyd := y.den_nz
 have e : x * y = mkRat (x.num * y.num) (x.den * y.den) := Rat.mul_def' x y
 have h1 := mk_sizes (z := x.num * y.num) (D := x.den * y.den) (Nat.mul_ne_zero hxd hyd)
 rw [← e] at h1
 refine ⟨Nat.le_trans (dl_mono h1.1) ?_, Nat.le_trans (dl_mono h1.2) ?_⟩
 ·rw [Int.natAbs_mul]; have := dl_mul x.num.natAbs y.num.natAbs; have := h.1; have := k.1; omega
 ·have := dl_mul x.den y.den; have := h.2; have := k.2; omega
theorem mul_any (v u : Value) (x y : Rat) (w : World) (hv : RdQ w v x) (hu : RdQ w u y) (hx6 : QS 100000 x) (hy6 : QS 100000 y) :
  Calls Tryz.prog 79 #[v, u] w fun e w' => (∃ v', e = .returned v' ∧ RdQ w' v' (x * y)) ∧ Below w.heap.size w w' := by
 have HQX := h0d hx6
 have HQY := h0d hy6
 have HP : Hid (dl (x.num * y.num).natAbs ≤ 900000 ∧ dl (x.den * y.den) ≤ 900000) := ⟨by rw [Int.natAbs_mul]; have := dl_mul x.num.natAbs y.num.natAbs; have := hx6.1; have := hy6.1; omega, by have := dl_mul x.den y.den; have := hx6.2; have := hy6.2; omega⟩
 clear hx6 hy6
 obtain ⟨gp0a, Ap0a, kp0a, cp0a, Ap0b, kp0b, cp0b, rfl, hv⟩ := hv.open
 have HX0 := h0d hv
 clear hv
 obtain ⟨gp1a, Ap1a, kp1a, cp1a, Ap1b, kp1b, cp1b, rfl, hu⟩ := hu.open
 have HX1 := h0d hu
 clear hu
 go_enter Tryz.func79, Tryz.ntmps79
 obtain ⟨W1, HW1, HB2, s1w, j1⟩ := st_al0 w #[.bool gp0a, .slice Ap0a kp0a cp0a, .slice Ap0b kp0b cp0b] 32
 have HBw := h0d j1
 obtain ⟨W3, HW3, HB4, s3w, j2⟩ := st_alk 1 2 #[.bool gp1a, .slice Ap1a kp1a cp1a, .slice Ap1b kp1b cp1b] 32 s1w rfl
 obtain ⟨W5, HW5, HB6, s5w, j3⟩ := st_alk 2 3 #[.bool false, .slice none 0 0, .slice none 0 0] 32 s3w rfl
 have n2b6 : Hid (w.heap.size ≠ w.heap.size + 2) := by show _ ≠ _; omega
 have n4b6 : Hid (w.heap.size + 1 ≠ w.heap.size + 2) := by show _ ≠ _; omega
 have l6b : Hid (w.heap.size ≤ w.heap.size + 2) := by show _ ≤ _; omega
 go_wp2_with fail
 rw [← HW1.out, ← HW3.out, ← HW5.out]
 obtain ⟨W7, hW7⟩ : ∃ W, W = W5.drew := ⟨_, rfl⟩
 have j4 : Below W5.heap.size W5 W7 := by rw [hW7]; exact (Below.refl _ _).drew
 have jm1 := tt (tt j2 j3) j4
 replace HB2 := kB HB2 jm1
 have jm2 := tt j3 j4
 replace HB4 := kB HB4 jm2
 refine seq_start (S := fun w' => w'.cell? ⟨w.heap.size, 0, none⟩ = some (.bool gp0a) ∧ w'.cell? ⟨w.heap.size, 1, none⟩ = some (.slice Ap0a kp0a cp0a) ∧ w'.cell? ⟨w.heap.size + 1, 0, none⟩ = some (.bool gp1a) ∧ w'.cell? ⟨w.heap.size + 1, 1, none⟩ = some (.slice Ap1a kp1a cp1a) ∧ w'.cell? ⟨w.heap.size, 2, none⟩ = some (.slice Ap0b kp0b cp0b) ∧ w'.cell? ⟨w.heap.size + 1, 2, none⟩ = some (.slice Ap1b kp1b cp1b)) (by kernel_rfl) (by kernel_rfl) (by rw [← hW7]; exact ⟨kD HB2 0, kD HB2 1, kD HB4 0, kD HB4 1, kD HB2 2, kD HB4 2⟩) ?_
 rw [← hW7]
 clear hW7
 iterate 4 refine tk0 (h := ?_)
 iterate 2 (refine plq 1 (h := ?_); refine tk0 (h := ?_))
 iterate 2 (refine plq 2 (h := ?_); refine tk0 (h := ?_))
 refine sop (h := fun K9 hK9 => ?_)
 go_simp
 replace HBw := kU HBw jm1
 replace HX0 := kV HBw.out HX0
 replace HX1 := kV HBw.out HX1
 refine mZ (itimes_any _ _ x.num y.num _ HX0.out.num HX1.out.num (by have := HQX.out.1; omega) (by have := HQY.out.1; omega)) fun w1 g1a A1a k1a c1a HR1 j1c => ?_
 replace HB2 := kB HB2 j1c
 replace HB4 := kB HB4 j1c
 refine ckk hK9 (by exact ⟨kD HB2 0, kD HB2 1, kD HB4 0, kD HB4 1, kD HB2 2, kD HB4 2⟩) (h := ?_)
 clear hK9 K9
 refine sop (h := fun K9 hK9 => ?_)
 go_simp
 replace HX0 := kV j1c HX0
 refine mN (under_any _ x.den _ x.den_nz HX0.out.den) fun w2 A2 k2 c2 HR2 j2c => ?_
 replace HB2 := kB HB2 j2c
 replace HB4 := kB HB4 j2c
 refine ckk hK9 (by exact ⟨kD HB2 0, kD HB2 1, kD HB4 0, kD HB4 1, kD HB2 2, kD HB4 2⟩) (h := ?_)
 clear hK9 K9
 refine sop (h := fun K9 hK9 => ?_)
 go_simp
 have jm3 := tt j1c j2c
 replace HX1 := kV jm3 HX1
 refine mN (under_any _ y.den _ y.den_nz HX1.out.den) fun w3 A3 k3 c3 HR3 j3c => ?_
 replace HB2 := kB HB2 j3c
 replace HB4 := kB HB4 j3c
 refine ckk hK9 (by exact ⟨kD HB2 0, kD HB2 1, kD HB4 0, kD HB4 1, kD HB2 2, kD HB4 2⟩) (h := ?_)
 clear hK9 K9
 refine sop (h := fun K9 hK9 => ?_)
 go_simp
 replace HR2 := kV j3c HR2
 refine mN (times_any _ _ x.den y.den _ HR2.out HR3.out (by have := HQX.out.2; omega) (by have := HQY.out.2; omega)) fun w4 A4 k4 c4 HR4 j4c => ?_
 replace HB2 := kB HB2 j4c
 replace HB4 := kB HB4 j4c
 refine ckk hK9 (by exact ⟨kD HB2 0, kD HB2 1, kD HB4 0, kD HB4 1, kD HB2 2, kD HB4 2⟩) (h := ?_)
 clear hK9 K9
 refine sop (h := fun K9 hK9 => ?_)
 go_simp
 have jm4 := tt (tt j2c j3c) j4c
 replace HR1 := kV jm4 HR1
 refine mQ (over_any _ _ (x.num * y.num) (x.den * y.den) _ HR1.out HR4.out (Nat.mul_ne_zero x.den_nz y.den_nz) HP.out.1 HP.out.2) fun w5 g5a A5a k5a c5a A5b k5b c5b HR5 j5c => ?_
 rw [← Rat.mul_def'] at HR5
 replace HB2 := kB HB2 j5c
 replace HB4 := kB HB4 j5c
 refine ckk hK9 (by exact ⟨kD HB2 0, kD HB2 1, kD HB4 0, kD HB4 1, kD HB2 2, kD HB4 2⟩) (h := ?_)
 clear hK9 K9
 refine sop (h := fun K9 hK9 => ?_)
 have jm5 := tt (tt (tt (tt (tt j4 j1c) j2c) j3c) j4c) j5c
 replace HB6 := kB HB6 jm5
 have c8 := kC HB6 0 rfl
 have c9 := kF HB6 0
 have c10 := kC HB6 1 rfl
 have c11 := kF HB6 1
 have c12 := kC HB6 2 rfl
 have c13 := kF HB6 2
 go_simp
 obtain ⟨W14, HW14⟩ : ∃ W, Hid (W = (((w5.setCell ⟨w.heap.size + 2, 0, none⟩ (.bool g5a)).setCell ⟨w.heap.size + 2, 1, none⟩ (.slice A5a k5a c5a)).setCell ⟨w.heap.size + 2, 2, none⟩ (.slice A5b k5b c5b))) := ⟨_, rfl⟩
 have SW14 : Hid (W14 = setsW w5 (w.heap.size + 2) 0 [.bool g5a, .slice A5a k5a c5a, .slice A5b k5b c5b]) := HW14.out
 have TW14 := kN (SW14.out) HB6 rfl rfl
 replace HB6 := kP (ds := [.bool g5a, .slice A5a k5a c5a, .slice A5b k5b c5b]) (SW14.out) HB6 rfl rfl
 rw [← HW14.out]
 replace HB2 := kO (SW14.out) HB2 n2b6.out
 replace HB4 := kO (SW14.out) HB4 n4b6.out
 refine ckk hK9 (by exact ⟨kD HB2 0, kD HB2 1, kD HB4 0, kD HB4 1, kD HB2 2, kD HB4 2⟩) (h := ?_)
 clear hK9 K9 c8 c9 c10 c11 c12 c13
 refine seq_done (by kernel_rfl) ?_
 go_wp2_with fail
 have c15 := kC HB6 0 rfl
 have c16 := kC HB6 1 rfl
 have c17 := kC HB6 2 rfl
 replace HR5 := kW TW14 HR5
 have jm6 := tt (tt (tt jm3 j3c) j4c) j5c
 replace HBw := kS (SW14.out) l6b (kU HBw jm6)
 exact bodyPost_ret (v := .agg #[.bool g5a, .slice A5a k5a c5a, .slice A5b k5b c5b]) (by simp [results, Tryz.results79, go_sem, c15, c16, c17]) rfl ⟨⟨_, rfl, HR5.out⟩, HBw.out⟩
theorem cmpQ_any (v u : Value) (x y : Rat) (w : World) (hv : RdQ w v x) (hu : RdQ w u y) (hx6 : QS 100000 x) (hy6 : QS 100000 y) :
  Calls Tryz.prog 76 #[v, u] w fun e w' => e = .returned (.int .i64 (Int.sign (x - y).num)) ∧ Below w.heap.size w w' := by
 have HQX := h0d hx6
 have HQY := h0d hy6
 clear hx6 hy6
 obtain ⟨gp0a, Ap0a, kp0a, cp0a, Ap0b, kp0b, cp0b, rfl, hv⟩ := hv.open
 have HX0 := h0d hv
 clear hv
 obtain ⟨gp1a, Ap1a, kp1a, cp1a, Ap1b, kp1b, cp1b, rfl, hu⟩ := hu.open
 have HX1 := h0d hu
 clear hu
 go_enter Tryz.func76, Tryz.ntmps76
 obtain ⟨W1, HW1, HB2, s1w, j1⟩ := st_al0 w #[.bool gp0a, .slice Ap0a kp0a cp0a, .slice Ap0b kp0b cp0b] 32
 have HBw := h0d j1
 obtain ⟨W3, HW3, HB4, s3w, j2⟩ := st_alk 1 2 #[.bool gp1a, .slice Ap1a kp1a cp1a, .slice Ap1b kp1b cp1b] 32 s1w rfl
 go_wp2_with fail
 rw [← HW1.out, ← HW3.out]
 replace HBw := kU HBw j2
 replace HX0 := kV HBw.out HX0
 replace HX1 := kV HBw.out HX1
 refine mQ (sub_any _ _ x y _ HX0.out HX1.out HQX.out HQY.out) fun w1 g1a A1a k1a c1a A1b k1b c1b HR1 j1c => ?_
 go_wp2_with fail
 refine mV (sign_any _ (x - y) _ HR1.out) fun w2 j2c => ?_
 go_wp2_with fail
 go_ret
 have jm1 := tt j1c j2c
 replace HBw := kU HBw jm1
 exact ⟨rfl, HBw.out⟩
end Go.Proofs.YtodckaioeomccaaGreat
namespace Go.Proofs.YtodckaioeomccaaGreat
open Go.RowKit
set_option linter.unusedVariables false
set_option linter.unusedSimpArgs false
set_option maxRecDepth 100000
set_option maxHeartbeats 4000000
theorem ratio_div (n d : Int) (hd : d ≠ 0) : ratio n d = (n : Rat) / (d : Rat) := by
 unfold ratio
 rw [Rat.mkRat_eq_div]
 by_cases h : d < 0
 ·rw [if_pos h]
  have e : ((d.natAbs : Nat) : Int) = -d := by omega
  have e2 : (((d.natAbs : Nat) : Int) : Rat) = ((-d : Int) : Rat) := by rw [e]
  rw [show ((d.natAbs : Nat) : Rat) = (((d.natAbs : Nat) : Int) : Rat) from (Rat.intCast_natCast _).symm, e2, Rat.intCast_neg, Rat.intCast_neg]
  grind
 ·rw [if_neg h]
  have e : ((d.natAbs : Nat) : Int) = d := by omega
  rw [show ((d.natAbs : Nat) : Rat) = (((d.natAbs : Nat) : Int) : Rat) from (Rat.intCast_natCast _).symm, e]
theorem num_div (x : Rat) : x = (x.num : Rat) / ((x.den : Int) : Rat) := by
 rw [Rat.intCast_natCast, ← Rat.mkRat_eq_div, Rat.mkRat_self]
theorem div_ratio (x y : Rat) (hy : y ≠ 0) : ratio (x.num * y.den) (x.den * y.num) = x / y := by
 have hn : y.num ≠ 0 := fun h => hy (Rat.num_eq_zero.1 h)
 have hd : (x.den : Int) ≠ 0 := by have := x.den_nz; omega
 have hd2 : (y.den : Int) ≠ 0 := by have := y.den_nz; omega
 rw [ratio_div _ _ (Int.mul_ne_zero hd hn)]
 have h1 : ((x.den : Int) : Rat) ≠ 0 := fun h => hd (by exact_mod_cast h)
 have h2 : ((y.num : Int) : Rat) ≠ 0 := fun h => hn (by exact_mod_cast h)
 have h3 : ((y.den : Int) : Rat) ≠ 0 := fun h => hd2 (by exact_mod_cast h)
 conv => rhs; rw [num_div x, num_div y]
 rw [Rat.intCast_mul, Rat.intCast_mul]
 grind
theorem zero_len {w : World} {g : Bool} {A B : Option Addr} {k c m d : Nat} {x : Rat} (h : RdQ w (.agg #[.bool g, .slice A k c, .slice B m d]) x) : k = 0 ↔ x = 0 := by
 obtain ⟨A', n', c', e, e1, _⟩ := RdW.open_ h.num.abs
 simp only [Value.slice.injEq] at e
 obtain ⟨rfl, rfl, rfl⟩ := e
 rw [← Rat.num_eq_zero]
 have e2 : dl x.num.natAbs = k := e1
 constructor
 ·intro hk
  rcases Nat.eq_zero_or_pos x.num.natAbs with h0 | h0
  ·omega
  ·have := dl_pos (show x.num.natAbs ≠ 0 by omega); omega
 ·intro hx
  rw [← e2, hx]; exact dl_zero
theorem zero_yes (v : Value) (x : Rat) (w : World) (hv : RdQ w v x) (h0 : x = 0) :
  Calls Tryz.prog 81 #[v] w fun e w' => e = .returned (.bool true) ∧ Below w.heap.size w w' := by
 obtain ⟨gp0a, Ap0a, kp0a, cp0a, Ap0b, kp0b, cp0b, rfl, hv⟩ := hv.open
 have HX0 := h0d hv
 clear hv
 have hk : kp0a = 0 := (zero_len HX0.out).2 h0
 clear h0
 subst hk
 go_enter Tryz.func81, Tryz.ntmps81
 obtain ⟨W1, HW1, HB2, s1w, j1⟩ := st_al0 w #[.bool gp0a, .slice Ap0a 0 cp0a, .slice Ap0b kp0b cp0b] 32
 have l2b : Hid (w.heap.size ≤ w.heap.size) := by show _ ≤ _; omega
 have HBw := h0d j1
 go_wp2_with fail
 rw [← HW1.out]
 go_ret
 exact ⟨rfl, HBw.out⟩
theorem zero_no (v : Value) (x : Rat) (w : World) (hv : RdQ w v x) (h0 : x ≠ 0) :
  Calls Tryz.prog 81 #[v] w fun e w' => e = .returned (.bool false) ∧ Below w.heap.size w w' := by
 obtain ⟨gp0a, Ap0a, kp0a, cp0a, Ap0b, kp0b, cp0b, rfl, hv⟩ := hv.open
 have HX0 := h0d hv
 clear hv
 have hk : ((kp0a : Int) == 0) = false := by have : kp0a ≠ 0 := fun e => h0 ((zero_len HX0.out).1 e); simp; omega
 clear h0
 go_enter Tryz.func81, Tryz.ntmps81
 obtain ⟨W1, HW1, HB2, s1w, j1⟩ := st_al0 w #[.bool gp0a, .slice Ap0a kp0a cp0a, .slice Ap0b kp0b cp0b] 32
 have l2b : Hid (w.heap.size ≤ w.heap.size) := by show _ ≤ _; omega
 have HBw := h0d j1
 go_wp2_with fail
 rw [← HW1.out]
 go_ret
 exact ⟨rfl, HBw.out⟩
theorem div_signed (x y : Rat) (hy : y ≠ 0) : mkRat (signed (decide (x.num * y.den < 0) != decide (y.num < 0)) (x.num * y.den).natAbs) (x.den * y.num.natAbs) = x / y := by
 rw [← div_ratio x y hy]
 have hd : 0 < (x.den : Int) := by have := x.den_nz; omega
 have hn : y.num ≠ 0 := fun h => hy (Rat.num_eq_zero.1 h)
 have h1 : decide (y.num < 0) = decide ((x.den : Int) * y.num < 0) := by
  rw [Bool.eq_iff_iff, decide_eq_true_iff, decide_eq_true_iff]
  constructor
  ·intro h; exact Int.mul_neg_of_pos_of_neg hd h
  ·intro h; refine Int.not_le.1 fun h2 => ?_; have := Int.mul_nonneg (Int.le_of_lt hd) h2; omega
 have h2 : ((x.den : Int) * y.num).natAbs = x.den * y.num.natAbs := by rw [Int.natAbs_mul, Int.natAbs_natCast]
 rw [h1, ← h2]
 exact ratio_signed _ _ (Int.mul_ne_zero (by omega) hn)
theorem QS.div {a b : Nat} {x y : Rat} (h : QS a x) (k : QS b y) (hy : y ≠ 0) : QS (a + b) (x / y) := by
 have hxd := x.den_nz
 have hn : y.num.natAbs ≠ 0 := fun h => hy (Rat.num_eq_zero.1 (by omega))
 have h1 := mk_sizes (z := signed (decide (x.num * y.den < 0) != decide (y.num < 0)) (x.num * y.den).natAbs) (D := x.den * y.num.natAbs) (Nat.mul_ne_zero hxd hn)
 rw [div_signed x y hy, signed_abs] at h1
 refine ⟨Nat.le_trans (dl_mono h1.1) ?_, Nat.le_trans (dl_mono h1.2) ?_⟩
 ·have := dl_imul x.num y.den; have := h.1; have := k.2; omega
 ·have := dl_mul x.den y.num.natAbs; have := h.2; have := k.1; omega
theorem div_any (v u : Value) (x y : Rat) (w : World) (hv : RdQ w v x) (hu : RdQ w u y) (hy : y ≠ 0) (hx6 : QS 100000 x) (hy6 : QS 100000 y) :
  Calls Tryz.prog 198 #[v, u] w fun e w' => (∃ v', e = .returned (.tuple #[v', .int .i64 0]) ∧ RdQ w' v' (x / y)) ∧ Below w.heap.size w w' := by
 have HQX := h0d hx6
 have HQY := h0d hy6
 have HY0 := h0d hy
 have HDS : Hid (mkRat (signed (!decide (x.num * y.den < 0) == decide (y.num < 0)) (x.num * y.den).natAbs) (x.den * y.num.natAbs) = x / y) := div_signed x y hy
 have HP : Hid (dl (x.num * y.den).natAbs ≤ 900000 ∧ dl (x.den * y.num.natAbs) ≤ 900000 ∧ x.den * y.num.natAbs ≠ 0) := ⟨by have := dl_imul x.num y.den; have := hx6.1; have := hy6.2; omega, by have := dl_mul x.den y.num.natAbs; have := hx6.2; have := hy6.1; omega, Nat.mul_ne_zero x.den_nz fun h => hy (Rat.num_eq_zero.1 (by omega))⟩
 clear hx6 hy6 hy
 obtain ⟨gp0a, Ap0a, kp0a, cp0a, Ap0b, kp0b, cp0b, rfl, hv⟩ := hv.open
 have HX0 := h0d hv
 clear hv
 obtain ⟨gp1a, Ap1a, kp1a, cp1a, Ap1b, kp1b, cp1b, rfl, hu⟩ := hu.open
 have HX1 := h0d hu
 clear hu
 go_enter Tryz.func198, Tryz.ntmps198
 obtain ⟨W1, HW1, HB2, s1w, j1⟩ := st_al0 w #[.bool gp0a, .slice Ap0a kp0a cp0a, .slice Ap0b kp0b cp0b] 32
 have HBw := h0d j1
 obtain ⟨W3, HW3, HB4, s3w, j2⟩ := st_alk 1 2 #[.bool gp1a, .slice Ap1a kp1a cp1a, .slice Ap1b kp1b cp1b] 32 s1w rfl
 obtain ⟨W5, HW5, HB6, s5w, j3⟩ := st_alk 2 3 #[.bool false, .slice none 0 0, .slice none 0 0] 32 s3w rfl
 have n2b6 : Hid (w.heap.size ≠ w.heap.size + 2) := by show _ ≠ _; omega
 have n4b6 : Hid (w.heap.size + 1 ≠ w.heap.size + 2) := by show _ ≠ _; omega
 have l6b : Hid (w.heap.size ≤ w.heap.size + 2) := by show _ ≤ _; omega
 go_wp2_with fail
 rw [← HW1.out, ← HW3.out, ← HW5.out]
 have jm1 := tt j2 j3
 replace HBw := kU HBw jm1
 replace HX1 := kV HBw.out HX1
 refine mV (zero_no _ y _ HX1.out HY0.out) fun w1 j1c => ?_
 go_wp2_with fail
 obtain ⟨W7, hW7⟩ : ∃ W, W = w1.drew := ⟨_, rfl⟩
 have j4 : Below w1.heap.size w1 W7 := by rw [hW7]; exact (Below.refl _ _).drew
 have jm2 := tt (tt jm1 j1c) j4
 replace HB2 := kB HB2 jm2
 have jm3 := tt (tt j3 j1c) j4
 replace HB4 := kB HB4 jm3
 refine seq_start (S := fun w' => w'.cell? ⟨w.heap.size, 0, none⟩ = some (.bool gp0a) ∧ w'.cell? ⟨w.heap.size, 1, none⟩ = some (.slice Ap0a kp0a cp0a) ∧ w'.cell? ⟨w.heap.size + 1, 2, none⟩ = some (.slice Ap1b kp1b cp1b)) (by kernel_rfl) (by kernel_rfl) (by rw [← hW7]; exact ⟨kD HB2 0, kD HB2 1, kD HB4 2⟩) ?_
 rw [← hW7]
 clear hW7
 iterate 4 refine tk0 (h := ?_)
 refine plq 2 (h := ?_)
 refine seq_both ?_ ?_ ?_ ?_ ?_
 ·kernel_rfl
 ·rfl
 ·rfl
 ·intro K9 hK9
  go_simp
  obtain ⟨W8, HW8, HB9, s8w, j5⟩ := st_al0 W7 #[.bool false, .slice none 0 0] 27
  have n2b9 : Hid (w.heap.size ≠ W7.heap.size) := by show _ ≠ _; have hlt := blk_lt HB2.out; omega
  have n4b9 : Hid (w.heap.size + 1 ≠ W7.heap.size) := by show _ ≠ _; have hlt := blk_lt HB4.out; omega
  have n6b9 : Hid (w.heap.size + 2 ≠ W7.heap.size) := by show _ ≠ _; have hlt := blk_lt HB6.out; have := j1c.size; have := j4.size; omega
  have l9b : Hid (w.heap.size ≤ W7.heap.size) := by show _ ≤ _; have hlt := HBw.out.size; have := j1c.size; have := j4.size; omega
  rw [← HW8.out]
  replace HB2 := kB HB2 j5
  replace HB4 := kB HB4 j5
  refine ckk hK9 (by exact ⟨kD HB2 0, kD HB2 1, kD HB4 2⟩) (h := ?_)
  clear hK9 K9
  refine sop (h := fun K9 hK9 => ?_)
  go_simp
  have jm4 := tt (tt j1c j4) j5
  replace HX1 := kV jm4 HX1
  refine mN (under_any _ y.den _ y.den_nz HX1.out.den) fun w2 A2 k2 c2 HR2 j2c => ?_
  replace HB2 := kB HB2 j2c
  replace HB4 := kB HB4 j2c
  refine ckk hK9 (by exact ⟨kD HB2 0, kD HB2 1, kD HB4 2⟩) (h := ?_)
  clear hK9 K9
  refine sop (h := fun K9 hK9 => ?_)
  go_simp
  have jm5 := tt jm4 j2c
  replace HBw := kU HBw jm5
  replace HX0 := kV HBw.out HX0
  refine mZ (scaled_any _ _ x.num y.den _ HX0.out.num HR2.out (by have := HQX.out.1; omega) (by have := HQY.out.2; omega)) fun w3 g3a A3a k3a c3a HR3 j3c => ?_
  replace HB2 := kB HB2 j3c
  replace HB4 := kB HB4 j3c
  refine ckk hK9 (by exact ⟨kD HB2 0, kD HB2 1, kD HB4 2⟩) (h := ?_)
  clear hK9 K9
  refine sop (h := fun K9 hK9 => ?_)
  have jm6 := tt j2c j3c
  replace HB9 := kB HB9 jm6
  have c10 := kC HB9 0 rfl
  have c11 := kF HB9 0
  have c12 := kC HB9 1 rfl
  have c13 := kF HB9 1
  go_simp
  obtain ⟨W14, HW14⟩ : ∃ W, Hid (W = ((w3.setCell ⟨W7.heap.size, 0, none⟩ (.bool g3a)).setCell ⟨W7.heap.size, 1, none⟩ (.slice A3a k3a c3a))) := ⟨_, rfl⟩
  have SW14 : Hid (W14 = setsW w3 (W7.heap.size) 0 [.bool g3a, .slice A3a k3a c3a]) := HW14.out
  have TW14 := kN (SW14.out) HB9 rfl rfl
  replace HB9 := kP (ds := [.bool g3a, .slice A3a k3a c3a]) (SW14.out) HB9 rfl rfl
  rw [← HW14.out]
  replace HB2 := kO (SW14.out) HB2 n2b9.out
  replace HB4 := kO (SW14.out) HB4 n4b9.out
  refine ckk hK9 (by exact ⟨kD HB2 0, kD HB2 1, kD HB4 2⟩) (h := ?_)
  clear hK9 K9 c10 c11 c12 c13
  refine seq_done (by kernel_rfl) ?_
  go_wp2_with fail
  obtain ⟨W15, hW15⟩ : ∃ W, W = W14.drew := ⟨_, rfl⟩
  have j6 : Below W14.heap.size W14 W15 := by rw [hW15]; exact (Below.refl _ _).drew
  replace HB9 := kB HB9 j6
  replace HB4 := kB HB4 j6
  replace HB2 := kB HB2 j6
  refine seq_start (S := fun w' => w'.cell? ⟨W7.heap.size, 0, none⟩ = some (.bool g3a) ∧ w'.cell? ⟨w.heap.size + 1, 0, none⟩ = some (.bool gp1a) ∧ w'.cell? ⟨W7.heap.size, 1, none⟩ = some (.slice A3a k3a c3a) ∧ w'.cell? ⟨w.heap.size, 2, none⟩ = some (.slice Ap0b kp0b cp0b) ∧ w'.cell? ⟨w.heap.size + 1, 1, none⟩ = some (.slice Ap1a kp1a cp1a)) (by kernel_rfl) (by kernel_rfl) (by rw [← hW15]; exact ⟨kD HB9 0, kD HB4 0, kD HB9 1, kD HB2 2, kD HB4 1⟩) ?_
  rw [← hW15]
  clear hW15
  iterate 8 refine tk0 (h := ?_)
  iterate 2 (refine plq 1 (h := ?_); refine tk0 (h := ?_))
  iterate 3 (refine plq 2 (h := ?_); refine tk0 (h := ?_))
  refine sop (h := fun K9 hK9 => ?_)
  go_simp
  replace HR3 := kV j6 (kW TW14 HR3)
  refine mZ (whole_any _ _ (x.num * y.den).natAbs _ HR3.out.abs) fun w4 g4a A4a k4a c4a HR4 j4c => ?_
  replace HB9 := kB HB9 j4c
  replace HB4 := kB HB4 j4c
  replace HB2 := kB HB2 j4c
  refine ckk hK9 (by exact ⟨kD HB9 0, kD HB4 0, kD HB9 1, kD HB2 2, kD HB4 1⟩) (h := ?_)
  clear hK9 K9
  refine sop (h := fun K9 hK9 => ?_)
  go_simp
  have jm7 := tt j6 j4c
  replace HX0 := kV jm7 (kW TW14 (kV j3c HX0))
  refine mN (under_any _ x.den _ x.den_nz HX0.out.den) fun w5 A5 k5 c5 HR5 j5c => ?_
  replace HB9 := kB HB9 j5c
  replace HB4 := kB HB4 j5c
  replace HB2 := kB HB2 j5c
  refine ckk hK9 (by exact ⟨kD HB9 0, kD HB4 0, kD HB9 1, kD HB2 2, kD HB4 1⟩) (h := ?_)
  clear hK9 K9
  refine sop (h := fun K9 hK9 => ?_)
  go_simp
  have jm8 := tt jm7 j5c
  replace HX1 := kV jm8 (kW TW14 (kV jm6 HX1))
  refine mN (times_any _ _ x.den y.num.natAbs _ HR5.out HX1.out.num.abs (by have := HQX.out.2; omega) (by have := HQY.out.1; omega)) fun w6 A6 k6 c6 HR6 j6c => ?_
  replace HB9 := kB HB9 j6c
  replace HB4 := kB HB4 j6c
  replace HB2 := kB HB2 j6c
  refine ckk hK9 (by exact ⟨kD HB9 0, kD HB4 0, kD HB9 1, kD HB2 2, kD HB4 1⟩) (h := ?_)
  clear hK9 K9
  refine sop (h := fun K9 hK9 => ?_)
  go_simp
  have jm9 := tt j5c j6c
  replace HR4 := kV jm9 HR4
  refine mQ (over_any _ _ _ _ _ HR4.out HR6.out HP.out.2.2 (by rw [signed_abs]; exact HP.out.1) HP.out.2.1) fun w7 g7a A7a k7a c7a A7b k7b c7b HR7 j7c => ?_
  have hq := HR7.out
  have jm10 := tt (tt (tt j4c j5c) j6c) j7c
  replace HR3 := kV jm10 HR3
  have jm11 := tt j6c j7c
  replace HX1 := kV jm11 HX1
  rw [HR3.out.sign, HX1.out.num.sign, HDS.out] at hq
  replace HR7 := h0d hq
  clear hq
  replace HB9 := kB HB9 j7c
  replace HB4 := kB HB4 j7c
  replace HB2 := kB HB2 j7c
  refine ckk hK9 (by exact ⟨kD HB9 0, kD HB4 0, kD HB9 1, kD HB2 2, kD HB4 1⟩) (h := ?_)
  clear hK9 K9
  refine sop (h := fun K9 hK9 => ?_)
  have jm12 := tt jm5 j3c
  have jm13 := tt j6 jm10
  replace HB6 := kB (kO (SW14.out) (kB HB6 jm12) n6b9.out) jm13
  have c16 := kC HB6 0 rfl
  have c17 := kF HB6 0
  have c18 := kC HB6 1 rfl
  have c19 := kF HB6 1
  have c20 := kC HB6 2 rfl
  have c21 := kF HB6 2
  go_simp
  obtain ⟨W22, HW22⟩ : ∃ W, Hid (W = (((w7.setCell ⟨w.heap.size + 2, 0, none⟩ (.bool g7a)).setCell ⟨w.heap.size + 2, 1, none⟩ (.slice A7a k7a c7a)).setCell ⟨w.heap.size + 2, 2, none⟩ (.slice A7b k7b c7b))) := ⟨_, rfl⟩
  have SW22 : Hid (W22 = setsW w7 (w.heap.size + 2) 0 [.bool g7a, .slice A7a k7a c7a, .slice A7b k7b c7b]) := HW22.out
  have TW22 := kN (SW22.out) HB6 rfl rfl
  replace HB6 := kP (ds := [.bool g7a, .slice A7a k7a c7a, .slice A7b k7b c7b]) (SW22.out) HB6 rfl rfl
  rw [← HW22.out]
  replace HB9 := kO (SW22.out) HB9 n6b9.out.symm
  replace HB4 := kO (SW22.out) HB4 n4b6.out
  replace HB2 := kO (SW22.out) HB2 n2b6.out
  refine ckk hK9 (by exact ⟨kD HB9 0, kD HB4 0, kD HB9 1, kD HB2 2, kD HB4 1⟩) (h := ?_)
  clear hK9 K9 c16 c17 c18 c19 c20 c21
  refine tk0 (h := ?_)
  refine seq_done (by kernel_rfl) ?_
  go_wp2_with fail
  have c23 := kC HB6 0 rfl
  have c24 := kC HB6 1 rfl
  have c25 := kC HB6 2 rfl
  replace HR7 := kW TW22 HR7
  replace HBw := kS (SW22.out) l6b (kU (kS (SW14.out) l9b (kU HBw j3c)) jm13)
  exact bodyPost_ret (v := .tuple #[.agg #[.bool g7a, .slice A7a k7a c7a, .slice A7b k7b c7b], .int .i64 0]) (by simp [results, Tryz.results198, go_sem, c23, c24, c25]) rfl ⟨⟨_, rfl, HR7.out⟩, HBw.out⟩
 intro K9 hK9
 go_simp
 have jm4 := tt j1c j4
 replace HX1 := kV jm4 HX1
 refine mN (under_any _ y.den _ y.den_nz HX1.out.den) fun w2 A2 k2 c2 HR2 j2c => ?_
 replace HB2 := kB HB2 j2c
 replace HB4 := kB HB4 j2c
 refine ckk hK9 (by exact ⟨kD HB2 0, kD HB2 1, kD HB4 2⟩) (h := ?_)
 clear hK9 K9
 refine plq 1 (h := ?_)
 refine plq 1 (h := ?_)
 refine seq_both ?_ ?_ ?_ ?_ ?_
 ·kernel_rfl
 ·rfl
 ·rfl
 ·intro K9 hK9
  go_simp
  obtain ⟨W8, HW8, HB9, s8w, j5⟩ := st_al0 w2 #[.bool false, .slice none 0 0] 27
  have n2b9 : Hid (w.heap.size ≠ w2.heap.size) := by show _ ≠ _; have hlt := blk_lt HB2.out; omega
  have n4b9 : Hid (w.heap.size + 1 ≠ w2.heap.size) := by show _ ≠ _; have hlt := blk_lt HB4.out; omega
  have n6b9 : Hid (w.heap.size + 2 ≠ w2.heap.size) := by show _ ≠ _; have hlt := blk_lt HB6.out; have := j1c.size; have := j4.size; have := j2c.size; omega
  have l9b : Hid (w.heap.size ≤ w2.heap.size) := by show _ ≤ _; have hlt := HBw.out.size; have := j1c.size; have := j4.size; have := j2c.size; omega
  rw [← HW8.out]
  replace HB2 := kB HB2 j5
  replace HB4 := kB HB4 j5
  refine ckk hK9 (by exact ⟨kD HB2 0, kD HB2 1, kD HB4 2⟩) (h := ?_)
  clear hK9 K9
  refine sop (h := fun K9 hK9 => ?_)
  go_simp
  have jm5 := tt (tt jm4 j2c) j5
  replace HBw := kU HBw jm5
  replace HX0 := kV HBw.out HX0
  replace HR2 := kV j5 HR2
  refine mZ (scaled_any _ _ x.num y.den _ HX0.out.num HR2.out (by have := HQX.out.1; omega) (by have := HQY.out.2; omega)) fun w3 g3a A3a k3a c3a HR3 j3c => ?_
  replace HB2 := kB HB2 j3c
  replace HB4 := kB HB4 j3c
  refine ckk hK9 (by exact ⟨kD HB2 0, kD HB2 1, kD HB4 2⟩) (h := ?_)
  clear hK9 K9
  refine sop (h := fun K9 hK9 => ?_)
  replace HB9 := kB HB9 j3c
  have c10 := kC HB9 0 rfl
  have c11 := kF HB9 0
  have c12 := kC HB9 1 rfl
  have c13 := kF HB9 1
  go_simp
  obtain ⟨W14, HW14⟩ : ∃ W, Hid (W = ((w3.setCell ⟨w2.heap.size, 0, none⟩ (.bool g3a)).setCell ⟨w2.heap.size, 1, none⟩ (.slice A3a k3a c3a))) := ⟨_, rfl⟩
  have SW14 : Hid (W14 = setsW w3 (w2.heap.size) 0 [.bool g3a, .slice A3a k3a c3a]) := HW14.out
  have TW14 := kN (SW14.out) HB9 rfl rfl
  replace HB9 := kP (ds := [.bool g3a, .slice A3a k3a c3a]) (SW14.out) HB9 rfl rfl
  rw [← HW14.out]
  replace HB2 := kO (SW14.out) HB2 n2b9.out
  replace HB4 := kO (SW14.out) HB4 n4b9.out
  refine ckk hK9 (by exact ⟨kD HB2 0, kD HB2 1, kD HB4 2⟩) (h := ?_)
  clear hK9 K9 c10 c11 c12 c13
  refine seq_done (by kernel_rfl) ?_
  go_wp2_with fail
  obtain ⟨W15, hW15⟩ : ∃ W, W = W14.drew := ⟨_, rfl⟩
  have j6 : Below W14.heap.size W14 W15 := by rw [hW15]; exact (Below.refl _ _).drew
  replace HB9 := kB HB9 j6
  replace HB4 := kB HB4 j6
  replace HB2 := kB HB2 j6
  refine seq_start (S := fun w' => w'.cell? ⟨w2.heap.size, 0, none⟩ = some (.bool g3a) ∧ w'.cell? ⟨w.heap.size + 1, 0, none⟩ = some (.bool gp1a) ∧ w'.cell? ⟨w2.heap.size, 1, none⟩ = some (.slice A3a k3a c3a) ∧ w'.cell? ⟨w.heap.size, 2, none⟩ = some (.slice Ap0b kp0b cp0b) ∧ w'.cell? ⟨w.heap.size + 1, 1, none⟩ = some (.slice Ap1a kp1a cp1a)) (by kernel_rfl) (by kernel_rfl) (by rw [← hW15]; exact ⟨kD HB9 0, kD HB4 0, kD HB9 1, kD HB2 2, kD HB4 1⟩) ?_
  rw [← hW15]
  clear hW15
  iterate 8 refine tk0 (h := ?_)
  iterate 2 (refine plq 1 (h := ?_); refine tk0 (h := ?_))
  iterate 3 (refine plq 2 (h := ?_); refine tk0 (h := ?_))
  refine sop (h := fun K9 hK9 => ?_)
  go_simp
  replace HR3 := kV j6 (kW TW14 HR3)
  refine mZ (whole_any _ _ (x.num * y.den).natAbs _ HR3.out.abs) fun w4 g4a A4a k4a c4a HR4 j4c => ?_
  replace HB9 := kB HB9 j4c
  replace HB4 := kB HB4 j4c
  replace HB2 := kB HB2 j4c
  refine ckk hK9 (by exact ⟨kD HB9 0, kD HB4 0, kD HB9 1, kD HB2 2, kD HB4 1⟩) (h := ?_)
  clear hK9 K9
  refine sop (h := fun K9 hK9 => ?_)
  go_simp
  have jm6 := tt j6 j4c
  replace HX0 := kV jm6 (kW TW14 (kV j3c HX0))
  refine mN (under_any _ x.den _ x.den_nz HX0.out.den) fun w5 A5 k5 c5 HR5 j5c => ?_
  replace HB9 := kB HB9 j5c
  replace HB4 := kB HB4 j5c
  replace HB2 := kB HB2 j5c
  refine ckk hK9 (by exact ⟨kD HB9 0, kD HB4 0, kD HB9 1, kD HB2 2, kD HB4 1⟩) (h := ?_)
  clear hK9 K9
  refine sop (h := fun K9 hK9 => ?_)
  go_simp
  have jm7 := tt (tt j2c j5) j3c
  have jm8 := tt jm6 j5c
  replace HX1 := kV jm8 (kW TW14 (kV jm7 HX1))
  refine mN (times_any _ _ x.den y.num.natAbs _ HR5.out HX1.out.num.abs (by have := HQX.out.2; omega) (by have := HQY.out.1; omega)) fun w6 A6 k6 c6 HR6 j6c => ?_
  replace HB9 := kB HB9 j6c
  replace HB4 := kB HB4 j6c
  replace HB2 := kB HB2 j6c
  refine ckk hK9 (by exact ⟨kD HB9 0, kD HB4 0, kD HB9 1, kD HB2 2, kD HB4 1⟩) (h := ?_)
  clear hK9 K9
  refine sop (h := fun K9 hK9 => ?_)
  go_simp
  have jm9 := tt j5c j6c
  replace HR4 := kV jm9 HR4
  refine mQ (over_any _ _ _ _ _ HR4.out HR6.out HP.out.2.2 (by rw [signed_abs]; exact HP.out.1) HP.out.2.1) fun w7 g7a A7a k7a c7a A7b k7b c7b HR7 j7c => ?_
  have hq := HR7.out
  have jm10 := tt (tt (tt j4c j5c) j6c) j7c
  replace HR3 := kV jm10 HR3
  have jm11 := tt j6c j7c
  replace HX1 := kV jm11 HX1
  rw [HR3.out.sign, HX1.out.num.sign, HDS.out] at hq
  replace HR7 := h0d hq
  clear hq
  replace HB9 := kB HB9 j7c
  replace HB4 := kB HB4 j7c
  replace HB2 := kB HB2 j7c
  refine ckk hK9 (by exact ⟨kD HB9 0, kD HB4 0, kD HB9 1, kD HB2 2, kD HB4 1⟩) (h := ?_)
  clear hK9 K9
  refine sop (h := fun K9 hK9 => ?_)
  have jm12 := tt jm5 j3c
  have jm13 := tt j6 jm10
  replace HB6 := kB (kO (SW14.out) (kB HB6 jm12) n6b9.out) jm13
  have c16 := kC HB6 0 rfl
  have c17 := kF HB6 0
  have c18 := kC HB6 1 rfl
  have c19 := kF HB6 1
  have c20 := kC HB6 2 rfl
  have c21 := kF HB6 2
  go_simp
  obtain ⟨W22, HW22⟩ : ∃ W, Hid (W = (((w7.setCell ⟨w.heap.size + 2, 0, none⟩ (.bool g7a)).setCell ⟨w.heap.size + 2, 1, none⟩ (.slice A7a k7a c7a)).setCell ⟨w.heap.size + 2, 2, none⟩ (.slice A7b k7b c7b))) := ⟨_, rfl⟩
  have SW22 : Hid (W22 = setsW w7 (w.heap.size + 2) 0 [.bool g7a, .slice A7a k7a c7a, .slice A7b k7b c7b]) := HW22.out
  have TW22 := kN (SW22.out) HB6 rfl rfl
  replace HB6 := kP (ds := [.bool g7a, .slice A7a k7a c7a, .slice A7b k7b c7b]) (SW22.out) HB6 rfl rfl
  rw [← HW22.out]
  replace HB9 := kO (SW22.out) HB9 n6b9.out.symm
  replace HB4 := kO (SW22.out) HB4 n4b6.out
  replace HB2 := kO (SW22.out) HB2 n2b6.out
  refine ckk hK9 (by exact ⟨kD HB9 0, kD HB4 0, kD HB9 1, kD HB2 2, kD HB4 1⟩) (h := ?_)
  clear hK9 K9 c16 c17 c18 c19 c20 c21
  refine tk0 (h := ?_)
  refine seq_done (by kernel_rfl) ?_
  go_wp2_with fail
  have c23 := kC HB6 0 rfl
  have c24 := kC HB6 1 rfl
  have c25 := kC HB6 2 rfl
  replace HR7 := kW TW22 HR7
  replace HBw := kS (SW22.out) l6b (kU (kS (SW14.out) l9b (kU HBw j3c)) jm13)
  exact bodyPost_ret (v := .tuple #[.agg #[.bool g7a, .slice A7a k7a c7a, .slice A7b k7b c7b], .int .i64 0]) (by simp [results, Tryz.results198, go_sem, c23, c24, c25]) rfl ⟨⟨_, rfl, HR7.out⟩, HBw.out⟩
 intro K9 hK9
 go_simp
 have jm5 := tt jm4 j2c
 replace HBw := kU HBw jm5
 replace HX0 := kV HBw.out HX0
 refine mZ (scaled_any _ _ x.num y.den _ HX0.out.num HR2.out (by have := HQX.out.1; omega) (by have := HQY.out.2; omega)) fun w3 g3a A3a k3a c3a HR3 j3c => ?_
 replace HB2 := kB HB2 j3c
 replace HB4 := kB HB4 j3c
 refine ckk hK9 (by exact ⟨kD HB2 0, kD HB2 1, kD HB4 2⟩) (h := ?_)
 clear hK9 K9
 refine sop (h := fun K9 hK9 => ?_)
 go_simp
 obtain ⟨W8, HW8, HB9, s8w, j5⟩ := st_al0 w3 #[.bool false, .slice none 0 0] 27
 have n2b9 : Hid (w.heap.size ≠ w3.heap.size) := by show _ ≠ _; have hlt := blk_lt HB2.out; omega
 have n4b9 : Hid (w.heap.size + 1 ≠ w3.heap.size) := by show _ ≠ _; have hlt := blk_lt HB4.out; omega
 have n6b9 : Hid (w.heap.size + 2 ≠ w3.heap.size) := by show _ ≠ _; have hlt := blk_lt HB6.out; have := j1c.size; have := j4.size; have := j2c.size; have := j3c.size; omega
 have l9b : Hid (w.heap.size ≤ w3.heap.size) := by show _ ≤ _; have hlt := HBw.out.size; have := j3c.size; omega
 rw [← HW8.out]
 replace HB2 := kB HB2 j5
 replace HB4 := kB HB4 j5
 refine ckk hK9 (by exact ⟨kD HB2 0, kD HB2 1, kD HB4 2⟩) (h := ?_)
 clear hK9 K9
 refine sop (h := fun K9 hK9 => ?_)
 have c10 := kC HB9 0 rfl
 have c11 := kF HB9 0
 have c12 := kC HB9 1 rfl
 have c13 := kF HB9 1
 go_simp
 obtain ⟨W14, HW14⟩ : ∃ W, Hid (W = ((W8.setCell ⟨w3.heap.size, 0, none⟩ (.bool g3a)).setCell ⟨w3.heap.size, 1, none⟩ (.slice A3a k3a c3a))) := ⟨_, rfl⟩
 have SW14 : Hid (W14 = setsW W8 (w3.heap.size) 0 [.bool g3a, .slice A3a k3a c3a]) := HW14.out
 have TW14 := kN (SW14.out) HB9 rfl rfl
 replace HB9 := kP (ds := [.bool g3a, .slice A3a k3a c3a]) (SW14.out) HB9 rfl rfl
 rw [← HW14.out]
 replace HB2 := kO (SW14.out) HB2 n2b9.out
 replace HB4 := kO (SW14.out) HB4 n4b9.out
 refine ckk hK9 (by exact ⟨kD HB2 0, kD HB2 1, kD HB4 2⟩) (h := ?_)
 clear hK9 K9 c10 c11 c12 c13
 refine seq_done (by kernel_rfl) ?_
 go_wp2_with fail
 obtain ⟨W15, hW15⟩ : ∃ W, W = W14.drew := ⟨_, rfl⟩
 have j6 : Below W14.heap.size W14 W15 := by rw [hW15]; exact (Below.refl _ _).drew
 replace HB9 := kB HB9 j6
 replace HB4 := kB HB4 j6
 replace HB2 := kB HB2 j6
 refine seq_start (S := fun w' => w'.cell? ⟨w3.heap.size, 0, none⟩ = some (.bool g3a) ∧ w'.cell? ⟨w.heap.size + 1, 0, none⟩ = some (.bool gp1a) ∧ w'.cell? ⟨w3.heap.size, 1, none⟩ = some (.slice A3a k3a c3a) ∧ w'.cell? ⟨w.heap.size, 2, none⟩ = some (.slice Ap0b kp0b cp0b) ∧ w'.cell? ⟨w.heap.size + 1, 1, none⟩ = some (.slice Ap1a kp1a cp1a)) (by kernel_rfl) (by kernel_rfl) (by rw [← hW15]; exact ⟨kD HB9 0, kD HB4 0, kD HB9 1, kD HB2 2, kD HB4 1⟩) ?_
 rw [← hW15]
 clear hW15
 iterate 8 refine tk0 (h := ?_)
 iterate 2 (refine plq 1 (h := ?_); refine tk0 (h := ?_))
 iterate 3 (refine plq 2 (h := ?_); refine tk0 (h := ?_))
 refine sop (h := fun K9 hK9 => ?_)
 go_simp
 replace HR3 := kV j6 (kW TW14 (kV j5 HR3))
 refine mZ (whole_any _ _ (x.num * y.den).natAbs _ HR3.out.abs) fun w4 g4a A4a k4a c4a HR4 j4c => ?_
 replace HB9 := kB HB9 j4c
 replace HB4 := kB HB4 j4c
 replace HB2 := kB HB2 j4c
 refine ckk hK9 (by exact ⟨kD HB9 0, kD HB4 0, kD HB9 1, kD HB2 2, kD HB4 1⟩) (h := ?_)
 clear hK9 K9
 refine sop (h := fun K9 hK9 => ?_)
 go_simp
 have jm6 := tt j3c j5
 have jm7 := tt j6 j4c
 replace HX0 := kV jm7 (kW TW14 (kV jm6 HX0))
 refine mN (under_any _ x.den _ x.den_nz HX0.out.den) fun w5 A5 k5 c5 HR5 j5c => ?_
 replace HB9 := kB HB9 j5c
 replace HB4 := kB HB4 j5c
 replace HB2 := kB HB2 j5c
 refine ckk hK9 (by exact ⟨kD HB9 0, kD HB4 0, kD HB9 1, kD HB2 2, kD HB4 1⟩) (h := ?_)
 clear hK9 K9
 refine sop (h := fun K9 hK9 => ?_)
 go_simp
 have jm8 := tt j2c jm6
 have jm9 := tt jm7 j5c
 replace HX1 := kV jm9 (kW TW14 (kV jm8 HX1))
 refine mN (times_any _ _ x.den y.num.natAbs _ HR5.out HX1.out.num.abs (by have := HQX.out.2; omega) (by have := HQY.out.1; omega)) fun w6 A6 k6 c6 HR6 j6c => ?_
 replace HB9 := kB HB9 j6c
 replace HB4 := kB HB4 j6c
 replace HB2 := kB HB2 j6c
 refine ckk hK9 (by exact ⟨kD HB9 0, kD HB4 0, kD HB9 1, kD HB2 2, kD HB4 1⟩) (h := ?_)
 clear hK9 K9
 refine sop (h := fun K9 hK9 => ?_)
 go_simp
 have jm10 := tt j5c j6c
 replace HR4 := kV jm10 HR4
 refine mQ (over_any _ _ _ _ _ HR4.out HR6.out HP.out.2.2 (by rw [signed_abs]; exact HP.out.1) HP.out.2.1) fun w7 g7a A7a k7a c7a A7b k7b c7b HR7 j7c => ?_
 have hq := HR7.out
 have jm11 := tt (tt (tt j4c j5c) j6c) j7c
 replace HR3 := kV jm11 HR3
 have jm12 := tt j6c j7c
 replace HX1 := kV jm12 HX1
 rw [HR3.out.sign, HX1.out.num.sign, HDS.out] at hq
 replace HR7 := h0d hq
 clear hq
 replace HB9 := kB HB9 j7c
 replace HB4 := kB HB4 j7c
 replace HB2 := kB HB2 j7c
 refine ckk hK9 (by exact ⟨kD HB9 0, kD HB4 0, kD HB9 1, kD HB2 2, kD HB4 1⟩) (h := ?_)
 clear hK9 K9
 refine sop (h := fun K9 hK9 => ?_)
 have jm13 := tt (tt jm5 j3c) j5
 have jm14 := tt j6 jm11
 replace HB6 := kB (kO (SW14.out) (kB HB6 jm13) n6b9.out) jm14
 have c16 := kC HB6 0 rfl
 have c17 := kF HB6 0
 have c18 := kC HB6 1 rfl
 have c19 := kF HB6 1
 have c20 := kC HB6 2 rfl
 have c21 := kF HB6 2
 go_simp
 obtain ⟨W22, HW22⟩ : ∃ W, Hid (W = (((w7.setCell ⟨w.heap.size + 2, 0, none⟩ (.bool g7a)).setCell ⟨w.heap.size + 2, 1, none⟩ (.slice A7a k7a c7a)).setCell ⟨w.heap.size + 2, 2, none⟩ (.slice A7b k7b c7b))) := ⟨_, rfl⟩
 have SW22 : Hid (W22 = setsW w7 (w.heap.size + 2) 0 [.bool g7a, .slice A7a k7a c7a, .slice A7b k7b c7b]) := HW22.out
 have TW22 := kN (SW22.out) HB6 rfl rfl
 replace HB6 := kP (ds := [.bool g7a, .slice A7a k7a c7a, .slice A7b k7b c7b]) (SW22.out) HB6 rfl rfl
 rw [← HW22.out]
 replace HB9 := kO (SW22.out) HB9 n6b9.out.symm
 replace HB4 := kO (SW22.out) HB4 n4b6.out
 replace HB2 := kO (SW22.out) HB2 n2b6.out
 refine ckk hK9 (by exact ⟨kD HB9 0, kD HB4 0, kD HB9 1, kD HB2 2, kD HB4 1⟩) (h := ?_)
 clear hK9 K9 c16 c17 c18 c19 c20 c21
 refine tk0 (h := ?_)
 refine seq_done (by kernel_rfl) ?_
 go_wp2_with fail
 have c23 := kC HB6 0 rfl
 have c24 := kC HB6 1 rfl
 have c25 := kC HB6 2 rfl
 replace HR7 := kW TW22 HR7
 replace HBw := kS (SW22.out) l6b (kU (kS (SW14.out) l9b (kU HBw jm6)) jm14)
 exact bodyPost_ret (v := .tuple #[.agg #[.bool g7a, .slice A7a k7a c7a, .slice A7b k7b c7b], .int .i64 0]) (by simp [results, Tryz.results198, go_sem, c23, c24, c25]) rfl ⟨⟨_, rfl, HR7.out⟩, HBw.out⟩
theorem one_any (w : World) :
  Calls Tryz.prog 119 #[] w fun e w' => (∃ v', e = .returned v' ∧ RdQ w' v' 1) ∧ Below w.heap.size w w' := by
 go_enter Tryz.func119, Tryz.ntmps119
 obtain ⟨W1, HW1, HB2, s1w, j1⟩ := st_al0 w #[.bool false, .slice none 0 0, .slice none 0 0] 32
 have l2b : Hid (w.heap.size ≤ w.heap.size) := by show _ ≤ _; omega
 have HBw := h0d j1
 go_wp2_with fail
 rw [← HW1.out]
 refine mQ (int_any 1 _ (by omega) (by omega)) fun w1 g1a A1a k1a c1a A1b k1b c1b HR1 j1c => ?_
 replace HB2 := kB HB2 j1c
 have c3 := kC HB2 0 rfl
 have c4 := kF HB2 0
 have c5 := kC HB2 1 rfl
 have c6 := kF HB2 1
 have c7 := kC HB2 2 rfl
 have c8 := kF HB2 2
 obtain ⟨W9, HW9⟩ : ∃ W, Hid (W = (((w1.setCell ⟨w.heap.size, 0, none⟩ (.bool g1a)).setCell ⟨w.heap.size, 1, none⟩ (.slice A1a k1a c1a)).setCell ⟨w.heap.size, 2, none⟩ (.slice A1b k1b c1b))) := ⟨_, rfl⟩
 have SW9 : Hid (W9 = setsW w1 (w.heap.size) 0 [.bool g1a, .slice A1a k1a c1a, .slice A1b k1b c1b]) := HW9.out
 have TW9 := kN (SW9.out) HB2 rfl rfl
 replace HB2 := kP (ds := [.bool g1a, .slice A1a k1a c1a, .slice A1b k1b c1b]) (SW9.out) HB2 rfl rfl
 go_wp2_with fail
 rw [← HW9.out]
 clear c3 c4 c5 c6 c7 c8
 have c10 := kC HB2 0 rfl
 have c11 := kC HB2 1 rfl
 have c12 := kC HB2 2 rfl
 replace HR1 := kW TW9 HR1
 replace HBw := kS (SW9.out) l2b (kU HBw j1c)
 exact bodyPost_ret (v := .agg #[.bool g1a, .slice A1a k1a c1a, .slice A1b k1b c1b]) (by simp [results, Tryz.results119, go_sem, c10, c11, c12]) rfl ⟨⟨_, rfl, HR1.out⟩, HBw.out⟩
theorem ratioB_any (v u : Value) (x y : Rat) (w : World) (hv : RdQ w v x) (hu : RdQ w u y) (hy : y ≠ 0) (hx6 : QS 100000 x) (hy6 : QS 100000 y) :
  Calls Tryz.prog 120 #[v, u] w fun e w' => (∃ v', e = .returned v' ∧ RdQ w' v' (x / y)) ∧ Below w.heap.size w w' := by
 have HQX := h0d hx6
 have HQY := h0d hy6
 have HY0 := h0d hy
 clear hx6 hy6 hy
 obtain ⟨gp0a, Ap0a, kp0a, cp0a, Ap0b, kp0b, cp0b, rfl, hv⟩ := hv.open
 have HX0 := h0d hv
 clear hv
 obtain ⟨gp1a, Ap1a, kp1a, cp1a, Ap1b, kp1b, cp1b, rfl, hu⟩ := hu.open
 have HX1 := h0d hu
 clear hu
 go_enter Tryz.func120, Tryz.ntmps120
 obtain ⟨W1, HW1, HB2, s1w, j1⟩ := st_al0 w #[.bool gp0a, .slice Ap0a kp0a cp0a, .slice Ap0b kp0b cp0b] 32
 have HBw := h0d j1
 obtain ⟨W3, HW3, HB4, s3w, j2⟩ := st_alk 1 2 #[.bool gp1a, .slice Ap1a kp1a cp1a, .slice Ap1b kp1b cp1b] 32 s1w rfl
 obtain ⟨W5, HW5, HB6, s5w, j3⟩ := st_alk 2 3 #[.bool false, .slice none 0 0, .slice none 0 0] 32 s3w rfl
 have l6b : Hid (w.heap.size ≤ w.heap.size + 2) := by show _ ≤ _; omega
 go_wp2_with fail
 rw [← HW1.out, ← HW3.out, ← HW5.out]
 have jm1 := tt j2 j3
 replace HBw := kU HBw jm1
 replace HX0 := kV HBw.out HX0
 replace HX1 := kV HBw.out HX1
 refine (div_any _ _ x y _ HX0.out HX1.out HY0.out HQX.out HQY.out).mono ?_
 rintro e w1 ⟨⟨vx, rfl, hr⟩, j1c⟩
 obtain ⟨g1a, A1a, k1a, c1a, A1b, k1b, c1b, rfl, hr⟩ := hr.open
 have HR1 := h0d hr
 clear hr
 obtain ⟨W7, HW7, HB8, s7w, j4⟩ := st_al0 w1 #[.bool g1a, .slice A1a k1a c1a, .slice A1b k1b c1b] 32
 have jm2 := tt j1c j4
 replace HB6 := kB HB6 jm2
 have c9 := kC HB6 0 rfl
 have c10 := kF HB6 0
 have c11 := kC HB6 1 rfl
 have c12 := kF HB6 1
 have c13 := kC HB6 2 rfl
 have c14 := kF HB6 2
 obtain ⟨W15, HW15⟩ : ∃ W, Hid (W = (((W7.setCell ⟨w.heap.size + 2, 0, none⟩ (.bool g1a)).setCell ⟨w.heap.size + 2, 1, none⟩ (.slice A1a k1a c1a)).setCell ⟨w.heap.size + 2, 2, none⟩ (.slice A1b k1b c1b))) := ⟨_, rfl⟩
 have SW15 : Hid (W15 = setsW W7 (w.heap.size + 2) 0 [.bool g1a, .slice A1a k1a c1a, .slice A1b k1b c1b]) := HW15.out
 have TW15 := kN (SW15.out) HB6 rfl rfl
 replace HB6 := kP (ds := [.bool g1a, .slice A1a k1a c1a, .slice A1b k1b c1b]) (SW15.out) HB6 rfl rfl
 rw [HW7.out] at c9
 rw [HW7.out] at c10
 rw [HW7.out] at c11
 rw [HW7.out] at c12
 rw [HW7.out] at c13
 rw [HW7.out] at c14
 go_wp2_with fail
 rw [← HW7.out, ← HW15.out]
 rw [← HW7.out] at c9
 rw [← HW7.out] at c10
 rw [← HW7.out] at c11
 rw [← HW7.out] at c12
 rw [← HW7.out] at c13
 rw [← HW7.out] at c14
 clear c9 c10 c11 c12 c13 c14
 have c16 := kC HB6 0 rfl
 have c17 := kC HB6 1 rfl
 have c18 := kC HB6 2 rfl
 replace HR1 := kW TW15 (kV j4 HR1)
 replace HBw := kS (SW15.out) l6b (kU HBw jm2)
 exact bodyPost_ret (v := .agg #[.bool g1a, .slice A1a k1a c1a, .slice A1b k1b c1b]) (by simp [results, Tryz.results120, go_sem, c16, c17, c18]) rfl ⟨⟨_, rfl, HR1.out⟩, HBw.out⟩
end Go.Proofs.YtodckaioeomccaaGreat
