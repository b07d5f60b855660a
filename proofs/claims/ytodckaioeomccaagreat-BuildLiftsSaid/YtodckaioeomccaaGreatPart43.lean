/- Walks of cuts: the reference's Angle; Piece. Walks of Lift: the program's and the reference's. What Lift returns. -/
import Derived.Test.YtodckaioeomccaaGreatPart37
import Derived.Test.YtodckaioeomccaaGreatPart38
namespace Go.Proofs.YtodckaioeomccaaGreat
open Go.RowKit
set_option linter.unusedVariables false
set_option linter.unusedSimpArgs false
set_option maxRecDepth 100000
set_option maxHeartbeats 4000000
theorem rsign_is (v : Value) (x : Rat) (s : Int) (w : World) (hv : RdF w v x) (hs : Int.sign x.num = s) : Calls Tryz.prog 85 #[v] w fun e w' => e = .returned (.int .i64 s) ∧ Below w.heap.size w w' := hs ▸ rsign_any v x w hv
theorem rcmp_is (v u : Value) (x y : Rat) (s : Int) (w : World) (hv : RdF w v x) (hu : RdF w u y) (hx6 : QM 400000 x) (hy6 : QM 400000 y) (hs : Int.sign (x - y).num = s) : Calls Tryz.prog 122 #[v, u] w fun e w' => e = .returned (.int .i64 s) ∧ Below w.heap.size w w' := hs ▸ rcmp_any v u x y w hv hu hx6 hy6
theorem QS.rm {k : Nat} {x : Rat} (h : QS k x) (hk : 2 * k ≤ 400000) : QM 400000 x := h.qm.mono hk
theorem qs_zero : QS 1 (0 : Rat) := ⟨by show dl 0 ≤ 1; exact Nat.le_trans (dl_mono (Nat.zero_le 1)) (by rw [dl_one]; exact Nat.le_refl _), by show dl 1 ≤ 1; rw [dl_one]; exact Nat.le_refl _⟩
theorem sgn_pos (x : Rat) : 0 < Int.sign x.num ↔ 0 < x := by
 rw [← num_pos']
 constructor
 ·intro h; refine Int.not_le.1 fun h0 => ?_; have := Int.sign_nonpos_iff.2 h0; omega
 ·intro h; rw [Int.sign_eq_one_of_pos h]; decide
end Go.Proofs.YtodckaioeomccaaGreat
namespace Go.Proofs.YtodckaioeomccaaGreat
open Go.RowKit
set_option linter.unusedVariables false
set_option linter.unusedSimpArgs false
set_option maxRecDepth 100000
set_option maxHeartbeats 4000000
theorem lift_1 (v u t : Value) (c f g : Rat) (w : World) (hv : RdQ w v c) (hu : RdQ w u f) (ht : RdQ w t g) (hq : QS 1000 c) (hq1 : QS 1000 f) (hq2 : QS 1000 g) (hsc : Int.sign c.num = (-1)) :
  Calls Tryz.prog 26 #[v, u, t] w fun e w' => (∃ v1 v2, e = .returned (.tuple #[v1, v2, .int .i64 1]) ∧ RdQ w' v1 (0) ∧ RdQ w' v2 (0)) ∧ Below w.heap.size w w' := by
 have HQ := h0d hq
 have HQ1 := h0d hq1
 have HQ2 := h0d hq2
 have Hsc := h0d hsc
 clear hsc
 clear hq hq1 hq2
 obtain ⟨gp0a, Ap0a, kp0a, cp0a, Ap0b, kp0b, cp0b, rfl, hv⟩ := hv.open
 have HX0 := h0d hv
 clear hv
 obtain ⟨gp1a, Ap1a, kp1a, cp1a, Ap1b, kp1b, cp1b, rfl, hu⟩ := hu.open
 have HX1 := h0d hu
 clear hu
 obtain ⟨gp2a, Ap2a, kp2a, cp2a, Ap2b, kp2b, cp2b, rfl, ht⟩ := ht.open
 have HX2 := h0d ht
 clear ht
 go_enter Tryz.func26, Tryz.ntmps26
 obtain ⟨W1, HW1, HB2, s1w, j1⟩ := st_al0 w #[.bool gp0a, .slice Ap0a kp0a cp0a, .slice Ap0b kp0b cp0b] 32
 have HBw := h0d j1
 obtain ⟨W3, HW3, HB4, s3w, j2⟩ := st_alk 1 2 #[.bool gp1a, .slice Ap1a kp1a cp1a, .slice Ap1b kp1b cp1b] 32 s1w rfl
 obtain ⟨W5, HW5, HB6, s5w, j3⟩ := st_alk 2 3 #[.bool gp2a, .slice Ap2a kp2a cp2a, .slice Ap2b kp2b cp2b] 32 s3w rfl
 obtain ⟨W7, HW7, HB8, s7w, j4⟩ := st_alk 3 4 #[.bool false, .slice none 0 0, .slice none 0 0] 32 s5w rfl
 have l8b : Hid (w.heap.size ≤ w.heap.size + 3) := by show _ ≤ _; omega
 obtain ⟨W9, HW9, HB10, s9w, j5⟩ := st_alk 4 5 #[.bool false, .slice none 0 0, .slice none 0 0] 32 s7w rfl
 have n8b10 : Hid (w.heap.size + 3 ≠ w.heap.size + 4) := by show _ ≠ _; omega
 have l10b : Hid (w.heap.size ≤ w.heap.size + 4) := by show _ ≤ _; omega
 go_wp2_with fail
 rw [← HW1.out, ← HW3.out, ← HW5.out, ← HW7.out, ← HW9.out]
 obtain ⟨W11, hW11⟩ : ∃ W, W = W9.drew := ⟨_, rfl⟩
 have j6 : Below W9.heap.size W9 W11 := by rw [hW11]; exact (Below.refl _ _).drew
 have jm1 := tt (tt (tt (tt j2 j3) j4) j5) j6
 replace HB2 := kB HB2 jm1
 have jm2 := tt (tt (tt j3 j4) j5) j6
 replace HB4 := kB HB4 jm2
 have jm3 := tt (tt j4 j5) j6
 replace HB6 := kB HB6 jm3
 refine seq_start (S := fun w' => w'.cell? ⟨w.heap.size, 0, none⟩ = some (.bool gp0a) ∧ w'.cell? ⟨w.heap.size, 1, none⟩ = some (.slice Ap0a kp0a cp0a) ∧ w'.cell? ⟨w.heap.size, 2, none⟩ = some (.slice Ap0b kp0b cp0b) ∧ w'.cell? ⟨w.heap.size + 1, 0, none⟩ = some (.bool gp1a) ∧ w'.cell? ⟨w.heap.size + 1, 1, none⟩ = some (.slice Ap1a kp1a cp1a) ∧ w'.cell? ⟨w.heap.size + 1, 2, none⟩ = some (.slice Ap1b kp1b cp1b) ∧ w'.cell? ⟨w.heap.size + 2, 0, none⟩ = some (.bool gp2a) ∧ w'.cell? ⟨w.heap.size + 2, 1, none⟩ = some (.slice Ap2a kp2a cp2a) ∧ w'.cell? ⟨w.heap.size + 2, 2, none⟩ = some (.slice Ap2b kp2b cp2b)) (by kernel_rfl) (by kernel_rfl) (by rw [← hW11]; exact ⟨kD HB2 0, kD HB2 1, kD HB2 2, kD HB4 0, kD HB4 1, kD HB4 2, kD HB6 0, kD HB6 1, kD HB6 2⟩) ?_
 rw [← hW11]
 clear hW11
 refine tk0 (h := ?_)
 refine sop (h := fun K9 hK9 => ?_)
 go_simp
 replace HBw := kU HBw jm1
 replace HX0 := kV HBw.out HX0
 refine mV (sign_is _ c (-1) _ HX0.out Hsc.out) fun w1 j1c => ?_
 replace HB2 := kB HB2 j1c
 replace HB4 := kB HB4 j1c
 replace HB6 := kB HB6 j1c
 refine ckk hK9 (by exact ⟨kD HB2 0, kD HB2 1, kD HB2 2, kD HB4 0, kD HB4 1, kD HB4 2, kD HB6 0, kD HB6 1, kD HB6 2⟩) (h := ?_)
 clear hK9 K9
 iterate 2 refine tk0 (h := ?_)
 iterate 4 refine skG (h := ?_)
 iterate 2 refine tk0 (h := ?_)
 iterate 3 refine skG (h := ?_)
 iterate 2 refine tk0 (h := ?_)
 iterate 3 refine skG (h := ?_)
 refine tk0 (h := ?_)
 refine seq_done (by kernel_rfl) ?_
 have jm4 := tt (tt j5 j6) j1c
 replace HB8 := kB HB8 jm4
 have t12h := kth 0 3 HB8
 obtain ⟨W13, HW13⟩ : ∃ W, Hid (W = w1.setCells (w.heap.size + 3) 0 [.bool false, .slice none 0 0, .slice none 0 0]) := ⟨_, rfl⟩
 replace HB8 := kPf (kM HW13) HB8 rfl
 have jm5 := tt j6 j1c
 replace HB10 := kO (kM HW13) (kB HB10 jm5) n8b10.out.symm
 have t14h := kth 0 3 HB10
 obtain ⟨W15, HW15⟩ : ∃ W, Hid (W = W13.setCells (w.heap.size + 4) 0 [.bool false, .slice none 0 0, .slice none 0 0]) := ⟨_, rfl⟩
 replace HB10 := kPf (kM HW15) HB10 rfl
 rw [HW13.out] at t14h
 go_wp2_with (first | (refine smd 32 (w.heap.size + 3) 0 (ht := by exact t12h) (h := ?_)) | (refine smd 32 (w.heap.size + 4) 0 (ht := by exact t14h) (h := ?_)))
 rw [← HW13.out, ← HW15.out]
 rw [← HW13.out] at t14h
 clear t12h t14h
 replace HB8 := kO (kM HW15) HB8 n8b10.out
 replace HBw := kS (kM HW15) l10b (kS (kM HW13) l8b (kU HBw j1c))
 exact bodyPost_ret (v := .tuple #[.agg #[.bool false, .slice none 0 0, .slice none 0 0], .agg #[.bool false, .slice none 0 0, .slice none 0 0], .int .i64 1]) (results_cct rfl (by rfl) (blk_all HB8.out) Tryz.underlying32 rfl (by kernel_rfl) (by rfl) (blk_all HB10.out) Tryz.underlying32 rfl (by kernel_rfl) (by rfl)) rfl ⟨⟨_, _, rfl, RdQ.nil0 _, RdQ.nil0 _⟩, HBw.out⟩
theorem lift_2 (v u t : Value) (c f g : Rat) (w : World) (hv : RdQ w v c) (hu : RdQ w u f) (ht : RdQ w t g) (hq : QS 1000 c) (hq1 : QS 1000 f) (hq2 : QS 1000 g) (sc : Int) (hsc : Int.sign c.num = sc) (ksc : ¬ sc < 0) (hcc : Int.sign (c - 1).num = 1) :
  Calls Tryz.prog 26 #[v, u, t] w fun e w' => (∃ v1 v2, e = .returned (.tuple #[v1, v2, .int .i64 1]) ∧ RdQ w' v1 (0) ∧ RdQ w' v2 (0)) ∧ Below w.heap.size w w' := by
 have HQ := h0d hq
 have HQ1 := h0d hq1
 have HQ2 := h0d hq2
 have Hsc := h0d hsc
 clear hsc
 have dsc : decide (sc < 0) = false := decide_eq_false ksc
 have Hcc := h0d hcc
 clear hcc
 clear hq hq1 hq2
 obtain ⟨gp0a, Ap0a, kp0a, cp0a, Ap0b, kp0b, cp0b, rfl, hv⟩ := hv.open
 have HX0 := h0d hv
 clear hv
 obtain ⟨gp1a, Ap1a, kp1a, cp1a, Ap1b, kp1b, cp1b, rfl, hu⟩ := hu.open
 have HX1 := h0d hu
 clear hu
 obtain ⟨gp2a, Ap2a, kp2a, cp2a, Ap2b, kp2b, cp2b, rfl, ht⟩ := ht.open
 have HX2 := h0d ht
 clear ht
 go_enter Tryz.func26, Tryz.ntmps26
 obtain ⟨W1, HW1, HB2, s1w, j1⟩ := st_al0 w #[.bool gp0a, .slice Ap0a kp0a cp0a, .slice Ap0b kp0b cp0b] 32
 have HBw := h0d j1
 obtain ⟨W3, HW3, HB4, s3w, j2⟩ := st_alk 1 2 #[.bool gp1a, .slice Ap1a kp1a cp1a, .slice Ap1b kp1b cp1b] 32 s1w rfl
 obtain ⟨W5, HW5, HB6, s5w, j3⟩ := st_alk 2 3 #[.bool gp2a, .slice Ap2a kp2a cp2a, .slice Ap2b kp2b cp2b] 32 s3w rfl
 obtain ⟨W7, HW7, HB8, s7w, j4⟩ := st_alk 3 4 #[.bool false, .slice none 0 0, .slice none 0 0] 32 s5w rfl
 have l8b : Hid (w.heap.size ≤ w.heap.size + 3) := by show _ ≤ _; omega
 obtain ⟨W9, HW9, HB10, s9w, j5⟩ := st_alk 4 5 #[.bool false, .slice none 0 0, .slice none 0 0] 32 s7w rfl
 have n8b10 : Hid (w.heap.size + 3 ≠ w.heap.size + 4) := by show _ ≠ _; omega
 have l10b : Hid (w.heap.size ≤ w.heap.size + 4) := by show _ ≤ _; omega
 go_wp2_with fail
 rw [← HW1.out, ← HW3.out, ← HW5.out, ← HW7.out, ← HW9.out]
 obtain ⟨W11, hW11⟩ : ∃ W, W = W9.drew := ⟨_, rfl⟩
 have j6 : Below W9.heap.size W9 W11 := by rw [hW11]; exact (Below.refl _ _).drew
 have jm1 := tt (tt (tt (tt j2 j3) j4) j5) j6
 replace HB2 := kB HB2 jm1
 have jm2 := tt (tt (tt j3 j4) j5) j6
 replace HB4 := kB HB4 jm2
 have jm3 := tt (tt j4 j5) j6
 replace HB6 := kB HB6 jm3
 refine seq_start (S := fun w' => w'.cell? ⟨w.heap.size, 0, none⟩ = some (.bool gp0a) ∧ w'.cell? ⟨w.heap.size, 1, none⟩ = some (.slice Ap0a kp0a cp0a) ∧ w'.cell? ⟨w.heap.size, 2, none⟩ = some (.slice Ap0b kp0b cp0b) ∧ w'.cell? ⟨w.heap.size + 1, 0, none⟩ = some (.bool gp1a) ∧ w'.cell? ⟨w.heap.size + 1, 1, none⟩ = some (.slice Ap1a kp1a cp1a) ∧ w'.cell? ⟨w.heap.size + 1, 2, none⟩ = some (.slice Ap1b kp1b cp1b) ∧ w'.cell? ⟨w.heap.size + 2, 0, none⟩ = some (.bool gp2a) ∧ w'.cell? ⟨w.heap.size + 2, 1, none⟩ = some (.slice Ap2a kp2a cp2a) ∧ w'.cell? ⟨w.heap.size + 2, 2, none⟩ = some (.slice Ap2b kp2b cp2b)) (by kernel_rfl) (by kernel_rfl) (by rw [← hW11]; exact ⟨kD HB2 0, kD HB2 1, kD HB2 2, kD HB4 0, kD HB4 1, kD HB4 2, kD HB6 0, kD HB6 1, kD HB6 2⟩) ?_
 rw [← hW11]
 clear hW11
 refine tk0 (h := ?_)
 refine sop (h := fun K9 hK9 => ?_)
 go_simp
 replace HBw := kU HBw jm1
 replace HX0 := kV HBw.out HX0
 refine mV (sign_is _ c sc _ HX0.out Hsc.out) fun w1 j1c => ?_
 replace HB2 := kB HB2 j1c
 replace HB4 := kB HB4 j1c
 replace HB6 := kB HB6 j1c
 refine ckk hK9 (by exact ⟨kD HB2 0, kD HB2 1, kD HB2 2, kD HB4 0, kD HB4 1, kD HB4 2, kD HB6 0, kD HB6 1, kD HB6 2⟩) (h := ?_)
 clear hK9 K9
 iterate 2 refine tk0 (h := ?_)
 refine tkG (h := ?_)
 refine sop (h := fun K9 hK9 => ?_)
 go_simp
 refine mQ (one_any _) fun w2 g2a A2a k2a c2a A2b k2b c2b HR2 j2c => ?_
 replace HB2 := kB HB2 j2c
 replace HB4 := kB HB4 j2c
 replace HB6 := kB HB6 j2c
 refine ckk hK9 (by exact ⟨kD HB2 0, kD HB2 1, kD HB2 2, kD HB4 0, kD HB4 1, kD HB4 2, kD HB6 0, kD HB6 1, kD HB6 2⟩) (h := ?_)
 clear hK9 K9
 refine sop (h := fun K9 hK9 => ?_)
 go_simp
 have jm4 := tt j1c j2c
 replace HX0 := kV jm4 HX0
 refine mV (cmp_is _ _ c 1 1 _ HX0.out HR2.out (HQ.out.up (by omega)) (qs_one.up (by omega)) Hcc.out) fun w3 j3c => ?_
 replace HB2 := kB HB2 j3c
 replace HB4 := kB HB4 j3c
 replace HB6 := kB HB6 j3c
 refine ckk hK9 (by exact ⟨kD HB2 0, kD HB2 1, kD HB2 2, kD HB4 0, kD HB4 1, kD HB4 2, kD HB6 0, kD HB6 1, kD HB6 2⟩) (h := ?_)
 clear hK9 K9
 refine tkG (h := ?_)
 iterate 2 refine tk0 (h := ?_)
 iterate 3 refine skG (h := ?_)
 iterate 2 refine tk0 (h := ?_)
 iterate 3 refine skG (h := ?_)
 refine tk0 (h := ?_)
 refine seq_done (by kernel_rfl) ?_
 have jm5 := tt (tt (tt (tt j5 j6) j1c) j2c) j3c
 replace HB8 := kB HB8 jm5
 have t12h := kth 0 3 HB8
 obtain ⟨W13, HW13⟩ : ∃ W, Hid (W = w3.setCells (w.heap.size + 3) 0 [.bool false, .slice none 0 0, .slice none 0 0]) := ⟨_, rfl⟩
 replace HB8 := kPf (kM HW13) HB8 rfl
 have jm6 := tt (tt (tt j6 j1c) j2c) j3c
 replace HB10 := kO (kM HW13) (kB HB10 jm6) n8b10.out.symm
 have t14h := kth 0 3 HB10
 obtain ⟨W15, HW15⟩ : ∃ W, Hid (W = W13.setCells (w.heap.size + 4) 0 [.bool false, .slice none 0 0, .slice none 0 0]) := ⟨_, rfl⟩
 replace HB10 := kPf (kM HW15) HB10 rfl
 rw [HW13.out] at t14h
 go_wp2_with (first | (refine smd 32 (w.heap.size + 3) 0 (ht := by exact t12h) (h := ?_)) | (refine smd 32 (w.heap.size + 4) 0 (ht := by exact t14h) (h := ?_)))
 rw [← HW13.out, ← HW15.out]
 rw [← HW13.out] at t14h
 clear t12h t14h
 replace HB8 := kO (kM HW15) HB8 n8b10.out
 have jm7 := tt jm4 j3c
 replace HBw := kS (kM HW15) l10b (kS (kM HW13) l8b (kU HBw jm7))
 exact bodyPost_ret (v := .tuple #[.agg #[.bool false, .slice none 0 0, .slice none 0 0], .agg #[.bool false, .slice none 0 0, .slice none 0 0], .int .i64 1]) (results_cct rfl (by rfl) (blk_all HB8.out) Tryz.underlying32 rfl (by kernel_rfl) (by rfl) (blk_all HB10.out) Tryz.underlying32 rfl (by kernel_rfl) (by rfl)) rfl ⟨⟨_, _, rfl, RdQ.nil0 _, RdQ.nil0 _⟩, HBw.out⟩
theorem lift_3 (v u t : Value) (c f g : Rat) (w : World) (hv : RdQ w v c) (hu : RdQ w u f) (ht : RdQ w t g) (hq : QS 1000 c) (hq1 : QS 1000 f) (hq2 : QS 1000 g) (sc : Int) (hsc : Int.sign c.num = sc) (ksc : ¬ sc < 0) (cc : Int) (hcc : Int.sign (c - 1).num = cc) (kcc : ¬ 0 < cc) (sf : Int) (hsf : Int.sign f.num = sf) (ksf : sf ≤ 0) :
  Calls Tryz.prog 26 #[v, u, t] w fun e w' => (∃ v1 v2, e = .returned (.tuple #[v1, v2, .int .i64 1]) ∧ RdQ w' v1 (0) ∧ RdQ w' v2 (0)) ∧ Below w.heap.size w w' := by
 have HQ := h0d hq
 have HQ1 := h0d hq1
 have HQ2 := h0d hq2
 have Hsc := h0d hsc
 clear hsc
 have dsc : decide (sc < 0) = false := decide_eq_false ksc
 have Hcc := h0d hcc
 clear hcc
 have dcc : decide (0 < cc) = false := decide_eq_false kcc
 have Hsf := h0d hsf
 clear hsf
 have dsf : decide (sf ≤ 0) = true := decide_eq_true ksf
 clear hq hq1 hq2
 obtain ⟨gp0a, Ap0a, kp0a, cp0a, Ap0b, kp0b, cp0b, rfl, hv⟩ := hv.open
 have HX0 := h0d hv
 clear hv
 obtain ⟨gp1a, Ap1a, kp1a, cp1a, Ap1b, kp1b, cp1b, rfl, hu⟩ := hu.open
 have HX1 := h0d hu
 clear hu
 obtain ⟨gp2a, Ap2a, kp2a, cp2a, Ap2b, kp2b, cp2b, rfl, ht⟩ := ht.open
 have HX2 := h0d ht
 clear ht
 go_enter Tryz.func26, Tryz.ntmps26
 obtain ⟨W1, HW1, HB2, s1w, j1⟩ := st_al0 w #[.bool gp0a, .slice Ap0a kp0a cp0a, .slice Ap0b kp0b cp0b] 32
 have HBw := h0d j1
 obtain ⟨W3, HW3, HB4, s3w, j2⟩ := st_alk 1 2 #[.bool gp1a, .slice Ap1a kp1a cp1a, .slice Ap1b kp1b cp1b] 32 s1w rfl
 obtain ⟨W5, HW5, HB6, s5w, j3⟩ := st_alk 2 3 #[.bool gp2a, .slice Ap2a kp2a cp2a, .slice Ap2b kp2b cp2b] 32 s3w rfl
 obtain ⟨W7, HW7, HB8, s7w, j4⟩ := st_alk 3 4 #[.bool false, .slice none 0 0, .slice none 0 0] 32 s5w rfl
 have l8b : Hid (w.heap.size ≤ w.heap.size + 3) := by show _ ≤ _; omega
 obtain ⟨W9, HW9, HB10, s9w, j5⟩ := st_alk 4 5 #[.bool false, .slice none 0 0, .slice none 0 0] 32 s7w rfl
 have n8b10 : Hid (w.heap.size + 3 ≠ w.heap.size + 4) := by show _ ≠ _; omega
 have l10b : Hid (w.heap.size ≤ w.heap.size + 4) := by show _ ≤ _; omega
 go_wp2_with fail
 rw [← HW1.out, ← HW3.out, ← HW5.out, ← HW7.out, ← HW9.out]
 obtain ⟨W11, hW11⟩ : ∃ W, W = W9.drew := ⟨_, rfl⟩
 have j6 : Below W9.heap.size W9 W11 := by rw [hW11]; exact (Below.refl _ _).drew
 have jm1 := tt (tt (tt (tt j2 j3) j4) j5) j6
 replace HB2 := kB HB2 jm1
 have jm2 := tt (tt (tt j3 j4) j5) j6
 replace HB4 := kB HB4 jm2
 have jm3 := tt (tt j4 j5) j6
 replace HB6 := kB HB6 jm3
 refine seq_start (S := fun w' => w'.cell? ⟨w.heap.size, 0, none⟩ = some (.bool gp0a) ∧ w'.cell? ⟨w.heap.size, 1, none⟩ = some (.slice Ap0a kp0a cp0a) ∧ w'.cell? ⟨w.heap.size, 2, none⟩ = some (.slice Ap0b kp0b cp0b) ∧ w'.cell? ⟨w.heap.size + 1, 0, none⟩ = some (.bool gp1a) ∧ w'.cell? ⟨w.heap.size + 1, 1, none⟩ = some (.slice Ap1a kp1a cp1a) ∧ w'.cell? ⟨w.heap.size + 1, 2, none⟩ = some (.slice Ap1b kp1b cp1b) ∧ w'.cell? ⟨w.heap.size + 2, 0, none⟩ = some (.bool gp2a) ∧ w'.cell? ⟨w.heap.size + 2, 1, none⟩ = some (.slice Ap2a kp2a cp2a) ∧ w'.cell? ⟨w.heap.size + 2, 2, none⟩ = some (.slice Ap2b kp2b cp2b)) (by kernel_rfl) (by kernel_rfl) (by rw [← hW11]; exact ⟨kD HB2 0, kD HB2 1, kD HB2 2, kD HB4 0, kD HB4 1, kD HB4 2, kD HB6 0, kD HB6 1, kD HB6 2⟩) ?_
 rw [← hW11]
 clear hW11
 refine tk0 (h := ?_)
 refine sop (h := fun K9 hK9 => ?_)
 go_simp
 replace HBw := kU HBw jm1
 replace HX0 := kV HBw.out HX0
 refine mV (sign_is _ c sc _ HX0.out Hsc.out) fun w1 j1c => ?_
 replace HB2 := kB HB2 j1c
 replace HB4 := kB HB4 j1c
 replace HB6 := kB HB6 j1c
 refine ckk hK9 (by exact ⟨kD HB2 0, kD HB2 1, kD HB2 2, kD HB4 0, kD HB4 1, kD HB4 2, kD HB6 0, kD HB6 1, kD HB6 2⟩) (h := ?_)
 clear hK9 K9
 iterate 2 refine tk0 (h := ?_)
 refine tkG (h := ?_)
 refine sop (h := fun K9 hK9 => ?_)
 go_simp
 refine mQ (one_any _) fun w2 g2a A2a k2a c2a A2b k2b c2b HR2 j2c => ?_
 replace HB2 := kB HB2 j2c
 replace HB4 := kB HB4 j2c
 replace HB6 := kB HB6 j2c
 refine ckk hK9 (by exact ⟨kD HB2 0, kD HB2 1, kD HB2 2, kD HB4 0, kD HB4 1, kD HB4 2, kD HB6 0, kD HB6 1, kD HB6 2⟩) (h := ?_)
 clear hK9 K9
 refine sop (h := fun K9 hK9 => ?_)
 go_simp
 have jm4 := tt j1c j2c
 replace HX0 := kV jm4 HX0
 refine mV (cmp_is _ _ c 1 cc _ HX0.out HR2.out (HQ.out.up (by omega)) (qs_one.up (by omega)) Hcc.out) fun w3 j3c => ?_
 replace HB2 := kB HB2 j3c
 replace HB4 := kB HB4 j3c
 replace HB6 := kB HB6 j3c
 refine ckk hK9 (by exact ⟨kD HB2 0, kD HB2 1, kD HB2 2, kD HB4 0, kD HB4 1, kD HB4 2, kD HB6 0, kD HB6 1, kD HB6 2⟩) (h := ?_)
 clear hK9 K9
 refine tkG (h := ?_)
 iterate 2 refine tk0 (h := ?_)
 refine tkG (h := ?_)
 refine sop (h := fun K9 hK9 => ?_)
 go_simp
 have jm5 := tt jm4 j3c
 replace HBw := kU HBw jm5
 replace HX1 := kV HBw.out HX1
 refine mV (sign_is _ f sf _ HX1.out Hsf.out) fun w4 j4c => ?_
 replace HB2 := kB HB2 j4c
 replace HB4 := kB HB4 j4c
 replace HB6 := kB HB6 j4c
 refine ckk hK9 (by exact ⟨kD HB2 0, kD HB2 1, kD HB2 2, kD HB4 0, kD HB4 1, kD HB4 2, kD HB6 0, kD HB6 1, kD HB6 2⟩) (h := ?_)
 clear hK9 K9
 refine tkG (h := ?_)
 iterate 2 refine tk0 (h := ?_)
 iterate 3 refine skG (h := ?_)
 refine tk0 (h := ?_)
 refine seq_done (by kernel_rfl) ?_
 have jm6 := tt (tt (tt (tt (tt j5 j6) j1c) j2c) j3c) j4c
 replace HB8 := kB HB8 jm6
 have t12h := kth 0 3 HB8
 obtain ⟨W13, HW13⟩ : ∃ W, Hid (W = w4.setCells (w.heap.size + 3) 0 [.bool false, .slice none 0 0, .slice none 0 0]) := ⟨_, rfl⟩
 replace HB8 := kPf (kM HW13) HB8 rfl
 have jm7 := tt (tt (tt (tt j6 j1c) j2c) j3c) j4c
 replace HB10 := kO (kM HW13) (kB HB10 jm7) n8b10.out.symm
 have t14h := kth 0 3 HB10
 obtain ⟨W15, HW15⟩ : ∃ W, Hid (W = W13.setCells (w.heap.size + 4) 0 [.bool false, .slice none 0 0, .slice none 0 0]) := ⟨_, rfl⟩
 replace HB10 := kPf (kM HW15) HB10 rfl
 rw [HW13.out] at t14h
 go_wp2_with (first | (refine smd 32 (w.heap.size + 3) 0 (ht := by exact t12h) (h := ?_)) | (refine smd 32 (w.heap.size + 4) 0 (ht := by exact t14h) (h := ?_)))
 rw [← HW13.out, ← HW15.out]
 rw [← HW13.out] at t14h
 clear t12h t14h
 replace HB8 := kO (kM HW15) HB8 n8b10.out
 replace HBw := kS (kM HW15) l10b (kS (kM HW13) l8b (kU HBw j4c))
 exact bodyPost_ret (v := .tuple #[.agg #[.bool false, .slice none 0 0, .slice none 0 0], .agg #[.bool false, .slice none 0 0, .slice none 0 0], .int .i64 1]) (results_cct rfl (by rfl) (blk_all HB8.out) Tryz.underlying32 rfl (by kernel_rfl) (by rfl) (blk_all HB10.out) Tryz.underlying32 rfl (by kernel_rfl) (by rfl)) rfl ⟨⟨_, _, rfl, RdQ.nil0 _, RdQ.nil0 _⟩, HBw.out⟩
theorem lift_4 (v u t : Value) (c f g : Rat) (w : World) (hv : RdQ w v c) (hu : RdQ w u f) (ht : RdQ w t g) (hq : QS 1000 c) (hq1 : QS 1000 f) (hq2 : QS 1000 g) (sc : Int) (hsc : Int.sign c.num = sc) (ksc : ¬ sc < 0) (cc : Int) (hcc : Int.sign (c - 1).num = cc) (kcc : ¬ 0 < cc) (hsf : Int.sign f.num = 1) (sg : Int) (hsg : Int.sign g.num = sg) (ksg : sg ≤ 0) :
  Calls Tryz.prog 26 #[v, u, t] w fun e w' => (∃ v1 v2, e = .returned (.tuple #[v1, v2, .int .i64 1]) ∧ RdQ w' v1 (0) ∧ RdQ w' v2 (0)) ∧ Below w.heap.size w w' := by
 have HQ := h0d hq
 have HQ1 := h0d hq1
 have HQ2 := h0d hq2
 have Hsc := h0d hsc
 clear hsc
 have dsc : decide (sc < 0) = false := decide_eq_false ksc
 have Hcc := h0d hcc
 clear hcc
 have dcc : decide (0 < cc) = false := decide_eq_false kcc
 have Hsf := h0d hsf
 clear hsf
 have Hsg := h0d hsg
 clear hsg
 have dsg : decide (sg ≤ 0) = true := decide_eq_true ksg
 clear hq hq1 hq2
 obtain ⟨gp0a, Ap0a, kp0a, cp0a, Ap0b, kp0b, cp0b, rfl, hv⟩ := hv.open
 have HX0 := h0d hv
 clear hv
 obtain ⟨gp1a, Ap1a, kp1a, cp1a, Ap1b, kp1b, cp1b, rfl, hu⟩ := hu.open
 have HX1 := h0d hu
 clear hu
 obtain ⟨gp2a, Ap2a, kp2a, cp2a, Ap2b, kp2b, cp2b, rfl, ht⟩ := ht.open
 have HX2 := h0d ht
 clear ht
 go_enter Tryz.func26, Tryz.ntmps26
 obtain ⟨W1, HW1, HB2, s1w, j1⟩ := st_al0 w #[.bool gp0a, .slice Ap0a kp0a cp0a, .slice Ap0b kp0b cp0b] 32
 have HBw := h0d j1
 obtain ⟨W3, HW3, HB4, s3w, j2⟩ := st_alk 1 2 #[.bool gp1a, .slice Ap1a kp1a cp1a, .slice Ap1b kp1b cp1b] 32 s1w rfl
 obtain ⟨W5, HW5, HB6, s5w, j3⟩ := st_alk 2 3 #[.bool gp2a, .slice Ap2a kp2a cp2a, .slice Ap2b kp2b cp2b] 32 s3w rfl
 obtain ⟨W7, HW7, HB8, s7w, j4⟩ := st_alk 3 4 #[.bool false, .slice none 0 0, .slice none 0 0] 32 s5w rfl
 have l8b : Hid (w.heap.size ≤ w.heap.size + 3) := by show _ ≤ _; omega
 obtain ⟨W9, HW9, HB10, s9w, j5⟩ := st_alk 4 5 #[.bool false, .slice none 0 0, .slice none 0 0] 32 s7w rfl
 have n8b10 : Hid (w.heap.size + 3 ≠ w.heap.size + 4) := by show _ ≠ _; omega
 have l10b : Hid (w.heap.size ≤ w.heap.size + 4) := by show _ ≤ _; omega
 go_wp2_with fail
 rw [← HW1.out, ← HW3.out, ← HW5.out, ← HW7.out, ← HW9.out]
 obtain ⟨W11, hW11⟩ : ∃ W, W = W9.drew := ⟨_, rfl⟩
 have j6 : Below W9.heap.size W9 W11 := by rw [hW11]; exact (Below.refl _ _).drew
 have jm1 := tt (tt (tt (tt j2 j3) j4) j5) j6
 replace HB2 := kB HB2 jm1
 have jm2 := tt (tt (tt j3 j4) j5) j6
 replace HB4 := kB HB4 jm2
 have jm3 := tt (tt j4 j5) j6
 replace HB6 := kB HB6 jm3
 refine seq_start (S := fun w' => w'.cell? ⟨w.heap.size, 0, none⟩ = some (.bool gp0a) ∧ w'.cell? ⟨w.heap.size, 1, none⟩ = some (.slice Ap0a kp0a cp0a) ∧ w'.cell? ⟨w.heap.size, 2, none⟩ = some (.slice Ap0b kp0b cp0b) ∧ w'.cell? ⟨w.heap.size + 1, 0, none⟩ = some (.bool gp1a) ∧ w'.cell? ⟨w.heap.size + 1, 1, none⟩ = some (.slice Ap1a kp1a cp1a) ∧ w'.cell? ⟨w.heap.size + 1, 2, none⟩ = some (.slice Ap1b kp1b cp1b) ∧ w'.cell? ⟨w.heap.size + 2, 0, none⟩ = some (.bool gp2a) ∧ w'.cell? ⟨w.heap.size + 2, 1, none⟩ = some (.slice Ap2a kp2a cp2a) ∧ w'.cell? ⟨w.heap.size + 2, 2, none⟩ = some (.slice Ap2b kp2b cp2b)) (by kernel_rfl) (by kernel_rfl) (by rw [← hW11]; exact ⟨kD HB2 0, kD HB2 1, kD HB2 2, kD HB4 0, kD HB4 1, kD HB4 2, kD HB6 0, kD HB6 1, kD HB6 2⟩) ?_
 rw [← hW11]
 clear hW11
 refine tk0 (h := ?_)
 refine sop (h := fun K9 hK9 => ?_)
 go_simp
 replace HBw := kU HBw jm1
 replace HX0 := kV HBw.out HX0
 refine mV (sign_is _ c sc _ HX0.out Hsc.out) fun w1 j1c => ?_
 replace HB2 := kB HB2 j1c
 replace HB4 := kB HB4 j1c
 replace HB6 := kB HB6 j1c
 refine ckk hK9 (by exact ⟨kD HB2 0, kD HB2 1, kD HB2 2, kD HB4 0, kD HB4 1, kD HB4 2, kD HB6 0, kD HB6 1, kD HB6 2⟩) (h := ?_)
 clear hK9 K9
 iterate 2 refine tk0 (h := ?_)
 refine tkG (h := ?_)
 refine sop (h := fun K9 hK9 => ?_)
 go_simp
 refine mQ (one_any _) fun w2 g2a A2a k2a c2a A2b k2b c2b HR2 j2c => ?_
 replace HB2 := kB HB2 j2c
 replace HB4 := kB HB4 j2c
 replace HB6 := kB HB6 j2c
 refine ckk hK9 (by exact ⟨kD HB2 0, kD HB2 1, kD HB2 2, kD HB4 0, kD HB4 1, kD HB4 2, kD HB6 0, kD HB6 1, kD HB6 2⟩) (h := ?_)
 clear hK9 K9
 refine sop (h := fun K9 hK9 => ?_)
 go_simp
 have jm4 := tt j1c j2c
 replace HX0 := kV jm4 HX0
 refine mV (cmp_is _ _ c 1 cc _ HX0.out HR2.out (HQ.out.up (by omega)) (qs_one.up (by omega)) Hcc.out) fun w3 j3c => ?_
 replace HB2 := kB HB2 j3c
 replace HB4 := kB HB4 j3c
 replace HB6 := kB HB6 j3c
 refine ckk hK9 (by exact ⟨kD HB2 0, kD HB2 1, kD HB2 2, kD HB4 0, kD HB4 1, kD HB4 2, kD HB6 0, kD HB6 1, kD HB6 2⟩) (h := ?_)
 clear hK9 K9
 refine tkG (h := ?_)
 iterate 2 refine tk0 (h := ?_)
 refine tkG (h := ?_)
 refine sop (h := fun K9 hK9 => ?_)
 go_simp
 have jm5 := tt jm4 j3c
 replace HBw := kU HBw jm5
 replace HX1 := kV HBw.out HX1
 refine mV (sign_is _ f 1 _ HX1.out Hsf.out) fun w4 j4c => ?_
 replace HB2 := kB HB2 j4c
 replace HB4 := kB HB4 j4c
 replace HB6 := kB HB6 j4c
 refine ckk hK9 (by exact ⟨kD HB2 0, kD HB2 1, kD HB2 2, kD HB4 0, kD HB4 1, kD HB4 2, kD HB6 0, kD HB6 1, kD HB6 2⟩) (h := ?_)
 clear hK9 K9
 refine tkG (h := ?_)
 iterate 2 refine tk0 (h := ?_)
 refine tkG (h := ?_)
 refine sop (h := fun K9 hK9 => ?_)
 go_simp
 replace HBw := kU HBw j4c
 replace HX2 := kV HBw.out HX2
 refine mV (sign_is _ g sg _ HX2.out Hsg.out) fun w5 j5c => ?_
 replace HB2 := kB HB2 j5c
 replace HB4 := kB HB4 j5c
 replace HB6 := kB HB6 j5c
 refine ckk hK9 (by exact ⟨kD HB2 0, kD HB2 1, kD HB2 2, kD HB4 0, kD HB4 1, kD HB4 2, kD HB6 0, kD HB6 1, kD HB6 2⟩) (h := ?_)
 clear hK9 K9
 refine tkG (h := ?_)
 refine tk0 (h := ?_)
 refine seq_done (by kernel_rfl) ?_
 have jm6 := tt (tt (tt (tt (tt (tt j5 j6) j1c) j2c) j3c) j4c) j5c
 replace HB8 := kB HB8 jm6
 have t12h := kth 0 3 HB8
 obtain ⟨W13, HW13⟩ : ∃ W, Hid (W = w5.setCells (w.heap.size + 3) 0 [.bool false, .slice none 0 0, .slice none 0 0]) := ⟨_, rfl⟩
 replace HB8 := kPf (kM HW13) HB8 rfl
 have jm7 := tt (tt (tt (tt (tt j6 j1c) j2c) j3c) j4c) j5c
 replace HB10 := kO (kM HW13) (kB HB10 jm7) n8b10.out.symm
 have t14h := kth 0 3 HB10
 obtain ⟨W15, HW15⟩ : ∃ W, Hid (W = W13.setCells (w.heap.size + 4) 0 [.bool false, .slice none 0 0, .slice none 0 0]) := ⟨_, rfl⟩
 replace HB10 := kPf (kM HW15) HB10 rfl
 rw [HW13.out] at t14h
 go_wp2_with (first | (refine smd 32 (w.heap.size + 3) 0 (ht := by exact t12h) (h := ?_)) | (refine smd 32 (w.heap.size + 4) 0 (ht := by exact t14h) (h := ?_)))
 rw [← HW13.out, ← HW15.out]
 rw [← HW13.out] at t14h
 clear t12h t14h
 replace HB8 := kO (kM HW15) HB8 n8b10.out
 replace HBw := kS (kM HW15) l10b (kS (kM HW13) l8b (kU HBw j5c))
 exact bodyPost_ret (v := .tuple #[.agg #[.bool false, .slice none 0 0, .slice none 0 0], .agg #[.bool false, .slice none 0 0, .slice none 0 0], .int .i64 1]) (results_cct rfl (by rfl) (blk_all HB8.out) Tryz.underlying32 rfl (by kernel_rfl) (by rfl) (blk_all HB10.out) Tryz.underlying32 rfl (by kernel_rfl) (by rfl)) rfl ⟨⟨_, _, rfl, RdQ.nil0 _, RdQ.nil0 _⟩, HBw.out⟩
theorem lift_5 (v u t : Value) (c f g : Rat) (w : World) (hv : RdQ w v c) (hu : RdQ w u f) (ht : RdQ w t g) (hq : QS 1000 c) (hq1 : QS 1000 f) (hq2 : QS 1000 g) (sc : Int) (hsc : Int.sign c.num = sc) (ksc : ¬ sc < 0) (cc : Int) (hcc : Int.sign (c - 1).num = cc) (kcc : ¬ 0 < cc) (hsf : Int.sign f.num = 1) (hsg : Int.sign g.num = 1) (hsd : Int.sign (c * g / f - 1).num = 1) :
  Calls Tryz.prog 26 #[v, u, t] w fun e w' => (∃ v1 v2, e = .returned (.tuple #[v1, v2, .int .i64 5]) ∧ RdQ w' v1 (0) ∧ RdQ w' v2 (0)) ∧ Below w.heap.size w w' := by
 have HQ := h0d hq
 have HQ1 := h0d hq1
 have HQ2 := h0d hq2
 have Hsc := h0d hsc
 clear hsc
 have dsc : decide (sc < 0) = false := decide_eq_false ksc
 have Hcc := h0d hcc
 clear hcc
 have dcc : decide (0 < cc) = false := decide_eq_false kcc
 have Hsf := h0d hsf
 clear hsf
 have Hsg := h0d hsg
 clear hsg
 have HNZ : Hid (f ≠ 0) := by show _ ≠ _; intro e; have := Hsf.out; rw [e] at this; exact absurd this (by decide)
 have HQD : Hid (QS 3000 (c * g / f)) := ((hq.mul hq2).div hq1 HNZ.out).up (by omega)
 have Hsd := h0d hsd
 clear hsd
 clear hq hq1 hq2
 obtain ⟨gp0a, Ap0a, kp0a, cp0a, Ap0b, kp0b, cp0b, rfl, hv⟩ := hv.open
 have HX0 := h0d hv
 clear hv
 obtain ⟨gp1a, Ap1a, kp1a, cp1a, Ap1b, kp1b, cp1b, rfl, hu⟩ := hu.open
 have HX1 := h0d hu
 clear hu
 obtain ⟨gp2a, Ap2a, kp2a, cp2a, Ap2b, kp2b, cp2b, rfl, ht⟩ := ht.open
 have HX2 := h0d ht
 clear ht
 go_enter Tryz.func26, Tryz.ntmps26
 obtain ⟨W1, HW1, HB2, s1w, j1⟩ := st_al0 w #[.bool gp0a, .slice Ap0a kp0a cp0a, .slice Ap0b kp0b cp0b] 32
 have HBw := h0d j1
 obtain ⟨W3, HW3, HB4, s3w, j2⟩ := st_alk 1 2 #[.bool gp1a, .slice Ap1a kp1a cp1a, .slice Ap1b kp1b cp1b] 32 s1w rfl
 obtain ⟨W5, HW5, HB6, s5w, j3⟩ := st_alk 2 3 #[.bool gp2a, .slice Ap2a kp2a cp2a, .slice Ap2b kp2b cp2b] 32 s3w rfl
 obtain ⟨W7, HW7, HB8, s7w, j4⟩ := st_alk 3 4 #[.bool false, .slice none 0 0, .slice none 0 0] 32 s5w rfl
 have l8b : Hid (w.heap.size ≤ w.heap.size + 3) := by show _ ≤ _; omega
 obtain ⟨W9, HW9, HB10, s9w, j5⟩ := st_alk 4 5 #[.bool false, .slice none 0 0, .slice none 0 0] 32 s7w rfl
 have n8b10 : Hid (w.heap.size + 3 ≠ w.heap.size + 4) := by show _ ≠ _; omega
 have l10b : Hid (w.heap.size ≤ w.heap.size + 4) := by show _ ≤ _; omega
 go_wp2_with fail
 rw [← HW1.out, ← HW3.out, ← HW5.out, ← HW7.out, ← HW9.out]
 obtain ⟨W11, hW11⟩ : ∃ W, W = W9.drew := ⟨_, rfl⟩
 have j6 : Below W9.heap.size W9 W11 := by rw [hW11]; exact (Below.refl _ _).drew
 have jm1 := tt (tt (tt (tt j2 j3) j4) j5) j6
 replace HB2 := kB HB2 jm1
 have jm2 := tt (tt (tt j3 j4) j5) j6
 replace HB4 := kB HB4 jm2
 have jm3 := tt (tt j4 j5) j6
 replace HB6 := kB HB6 jm3
 refine seq_start (S := fun w' => w'.cell? ⟨w.heap.size, 0, none⟩ = some (.bool gp0a) ∧ w'.cell? ⟨w.heap.size, 1, none⟩ = some (.slice Ap0a kp0a cp0a) ∧ w'.cell? ⟨w.heap.size, 2, none⟩ = some (.slice Ap0b kp0b cp0b) ∧ w'.cell? ⟨w.heap.size + 1, 0, none⟩ = some (.bool gp1a) ∧ w'.cell? ⟨w.heap.size + 1, 1, none⟩ = some (.slice Ap1a kp1a cp1a) ∧ w'.cell? ⟨w.heap.size + 1, 2, none⟩ = some (.slice Ap1b kp1b cp1b) ∧ w'.cell? ⟨w.heap.size + 2, 0, none⟩ = some (.bool gp2a) ∧ w'.cell? ⟨w.heap.size + 2, 1, none⟩ = some (.slice Ap2a kp2a cp2a) ∧ w'.cell? ⟨w.heap.size + 2, 2, none⟩ = some (.slice Ap2b kp2b cp2b)) (by kernel_rfl) (by kernel_rfl) (by rw [← hW11]; exact ⟨kD HB2 0, kD HB2 1, kD HB2 2, kD HB4 0, kD HB4 1, kD HB4 2, kD HB6 0, kD HB6 1, kD HB6 2⟩) ?_
 rw [← hW11]
 clear hW11
 refine tk0 (h := ?_)
 refine sop (h := fun K9 hK9 => ?_)
 go_simp
 replace HBw := kU HBw jm1
 replace HX0 := kV HBw.out HX0
 refine mV (sign_is _ c sc _ HX0.out Hsc.out) fun w1 j1c => ?_
 replace HB2 := kB HB2 j1c
 replace HB4 := kB HB4 j1c
 replace HB6 := kB HB6 j1c
 refine ckk hK9 (by exact ⟨kD HB2 0, kD HB2 1, kD HB2 2, kD HB4 0, kD HB4 1, kD HB4 2, kD HB6 0, kD HB6 1, kD HB6 2⟩) (h := ?_)
 clear hK9 K9
 iterate 2 refine tk0 (h := ?_)
 refine tkG (h := ?_)
 refine sop (h := fun K9 hK9 => ?_)
 go_simp
 refine mQ (one_any _) fun w2 g2a A2a k2a c2a A2b k2b c2b HR2 j2c => ?_
 replace HB2 := kB HB2 j2c
 replace HB4 := kB HB4 j2c
 replace HB6 := kB HB6 j2c
 refine ckk hK9 (by exact ⟨kD HB2 0, kD HB2 1, kD HB2 2, kD HB4 0, kD HB4 1, kD HB4 2, kD HB6 0, kD HB6 1, kD HB6 2⟩) (h := ?_)
 clear hK9 K9
 refine sop (h := fun K9 hK9 => ?_)
 go_simp
 have jm4 := tt j1c j2c
 replace HX0 := kV jm4 HX0
 refine mV (cmp_is _ _ c 1 cc _ HX0.out HR2.out (HQ.out.up (by omega)) (qs_one.up (by omega)) Hcc.out) fun w3 j3c => ?_
 replace HB2 := kB HB2 j3c
 replace HB4 := kB HB4 j3c
 replace HB6 := kB HB6 j3c
 refine ckk hK9 (by exact ⟨kD HB2 0, kD HB2 1, kD HB2 2, kD HB4 0, kD HB4 1, kD HB4 2, kD HB6 0, kD HB6 1, kD HB6 2⟩) (h := ?_)
 clear hK9 K9
 refine tkG (h := ?_)
 iterate 2 refine tk0 (h := ?_)
 refine tkG (h := ?_)
 refine sop (h := fun K9 hK9 => ?_)
 go_simp
 have jm5 := tt jm4 j3c
 replace HBw := kU HBw jm5
 replace HX1 := kV HBw.out HX1
 refine mV (sign_is _ f 1 _ HX1.out Hsf.out) fun w4 j4c => ?_
 replace HB2 := kB HB2 j4c
 replace HB4 := kB HB4 j4c
 replace HB6 := kB HB6 j4c
 refine ckk hK9 (by exact ⟨kD HB2 0, kD HB2 1, kD HB2 2, kD HB4 0, kD HB4 1, kD HB4 2, kD HB6 0, kD HB6 1, kD HB6 2⟩) (h := ?_)
 clear hK9 K9
 refine tkG (h := ?_)
 iterate 2 refine tk0 (h := ?_)
 refine tkG (h := ?_)
 refine sop (h := fun K9 hK9 => ?_)
 go_simp
 replace HBw := kU HBw j4c
 replace HX2 := kV HBw.out HX2
 refine mV (sign_is _ g 1 _ HX2.out Hsg.out) fun w5 j5c => ?_
 replace HB2 := kB HB2 j5c
 replace HB4 := kB HB4 j5c
 replace HB6 := kB HB6 j5c
 refine ckk hK9 (by exact ⟨kD HB2 0, kD HB2 1, kD HB2 2, kD HB4 0, kD HB4 1, kD HB4 2, kD HB6 0, kD HB6 1, kD HB6 2⟩) (h := ?_)
 clear hK9 K9
 refine tkG (h := ?_)
 refine tk0 (h := ?_)
 refine seq_done (by kernel_rfl) ?_
 go_wp2_with fail
 obtain ⟨W12, hW12⟩ : ∃ W, W = w5.drew := ⟨_, rfl⟩
 have j7 : Below w5.heap.size w5 W12 := by rw [hW12]; exact (Below.refl _ _).drew
 replace HB2 := kB HB2 j7
 replace HB6 := kB HB6 j7
 replace HB4 := kB HB4 j7
 refine seq_start (S := fun w' => w'.cell? ⟨w.heap.size, 0, none⟩ = some (.bool gp0a) ∧ w'.cell? ⟨w.heap.size, 1, none⟩ = some (.slice Ap0a kp0a cp0a) ∧ w'.cell? ⟨w.heap.size, 2, none⟩ = some (.slice Ap0b kp0b cp0b) ∧ w'.cell? ⟨w.heap.size + 2, 0, none⟩ = some (.bool gp2a) ∧ w'.cell? ⟨w.heap.size + 2, 1, none⟩ = some (.slice Ap2a kp2a cp2a) ∧ w'.cell? ⟨w.heap.size + 2, 2, none⟩ = some (.slice Ap2b kp2b cp2b) ∧ w'.cell? ⟨w.heap.size + 1, 0, none⟩ = some (.bool gp1a) ∧ w'.cell? ⟨w.heap.size + 1, 1, none⟩ = some (.slice Ap1a kp1a cp1a) ∧ w'.cell? ⟨w.heap.size + 1, 2, none⟩ = some (.slice Ap1b kp1b cp1b)) (by kernel_rfl) (by kernel_rfl) (by rw [← hW12]; exact ⟨kD HB2 0, kD HB2 1, kD HB2 2, kD HB6 0, kD HB6 1, kD HB6 2, kD HB4 0, kD HB4 1, kD HB4 2⟩) ?_
 rw [← hW12]
 clear hW12
 have jm6 := tt j5c j7
 replace HBw := kU HBw jm6
 have y1b2 := klt HB2
 have y1b4 := klt HB4
 have y1b6 := klt HB6
 have jm7 := tt (tt (tt (tt (tt (tt (tt j5 j6) j1c) j2c) j3c) j4c) j5c) j7
 replace HB8 := kB HB8 jm7
 have y1b8 := klt HB8
 have jm8 := tt (tt (tt (tt (tt (tt j6 j1c) j2c) j3c) j4c) j5c) j7
 replace HB10 := kB HB10 jm8
 have y1b10 := klt HB10
 have l1w := ksz HBw
 have HSR1 : Hid (∀ w', Below W12.heap.size W12 w' → w'.cell? ⟨w.heap.size, 0, none⟩ = some (.bool gp0a) ∧ w'.cell? ⟨w.heap.size, 1, none⟩ = some (.slice Ap0a kp0a cp0a) ∧ w'.cell? ⟨w.heap.size, 2, none⟩ = some (.slice Ap0b kp0b cp0b) ∧ w'.cell? ⟨w.heap.size + 2, 0, none⟩ = some (.bool gp2a) ∧ w'.cell? ⟨w.heap.size + 2, 1, none⟩ = some (.slice Ap2a kp2a cp2a) ∧ w'.cell? ⟨w.heap.size + 2, 2, none⟩ = some (.slice Ap2b kp2b cp2b) ∧ w'.cell? ⟨w.heap.size + 1, 0, none⟩ = some (.bool gp1a) ∧ w'.cell? ⟨w.heap.size + 1, 1, none⟩ = some (.slice Ap1a kp1a cp1a) ∧ w'.cell? ⟨w.heap.size + 1, 2, none⟩ = some (.slice Ap1b kp1b cp1b)) := fun w' hb => ⟨kD (kB HB2 hb) 0, kD (kB HB2 hb) 1, kD (kB HB2 hb) 2, kD (kB HB6 hb) 0, kD (kB HB6 hb) 1, kD (kB HB6 hb) 2, kD (kB HB4 hb) 0, kD (kB HB4 hb) 1, kD (kB HB4 hb) 2⟩
 iterate 2 refine tk0 (h := ?_)
 refine plq 1 (h := ?_)
 refine tk0 (h := ?_)
 refine plq 2 (h := ?_)
 refine fStart (fs := [⟨_, 32, [.bool false, .slice none 0 0, .slice none 0 0], _⟩]) (h := fun st HFz => ?_)
 refine nrm (hb := by first | (simp only [puts, Act.put, List.setIfInBounds_toArray, List.set_cons_zero, List.set_cons_succ]; rfl)) (h := ?_)
 refine fOp HFz HSR1.out (h := fun st z13 j8 HFz K9 hK9 => ?_)
 go_simp
 have jm9 := tt (tt (tt (tt j3c j4c) j5c) j7) j8
 replace HX0 := kV jm9 HX0
 have jm10 := tt jm6 j8
 replace HX2 := kV jm10 HX2
 refine mQ (mul_any _ _ c g _ HX0.out HX2.out (HQ.out.up (by omega)) (HQ2.out.up (by omega))) fun w6 g6a A6a k6a c6a A6b k6b c6b HR6 j6c => ?_
 replace HFz := h0d (HFz.out.below j6c)
 refine ckk hK9 (by exact HSR1.out _ HFz.out.bel) (h := ?_)
 clear hK9 K9
 refine fOp HFz HSR1.out (h := fun st z14 j9 HFz K9 hK9 => ?_)
 go_simp
 replace HR6 := kV j9 HR6
 have jm11 := tt (tt (tt (tt (tt j4c j5c) j7) j8) j6c) j9
 replace HX1 := kV jm11 HX1
 refine mQ (ratioB_any _ _ (c * g) f _ HR6.out HX1.out HNZ.out ((HQ.out.mul HQ2.out).up (by omega)) (HQ1.out.up (by omega))) fun w7 g7a A7a k7a c7a A7b k7b c7b HR7 j7c => ?_
 replace HFz := h0d (HFz.out.below j7c)
 refine ckk hK9 (by exact HSR1.out _ HFz.out.bel) (h := ?_)
 clear hK9 K9
 refine fEnd HFz HSR1.out (h := fun st z15 j10 HFz hst => ?_)
 obtain ⟨g1_0, e0⟩ := hst 0 nlt
 refine nrm (hb := by simp only [e0, pv]; rfl) (h := ?_)
 have HB16 : Hid (z15.heap[g1_0]? = some (.cells #[.bool false, .slice none 0 0, .slice none 0 0] 32 (0, 0))) := (HFz.out.blk 0 _ g1_0 rfl e0).2
 have n2b16 := kne y1b2 HFz e0
 have n4b16 := kne y1b4 HFz e0
 have n6b16 := kne y1b6 HFz e0
 have n8b16 := kne y1b8 HFz e0
 have n10b16 := kne y1b10 HFz e0
 have l16b := kle l1w HFz e0
 clear HFz hst e0
 refine sop (h := fun K9 hK9 => ?_)
 have t17h := kth 0 3 HB16
 refine smw 32 (g1_0) 0 (ht := by exact t17h) (h := ?_)
 obtain ⟨W18, HW18⟩ : ∃ W, Hid (W = z15.setCells (g1_0) 0 [.bool g7a, .slice A7a k7a c7a, .slice A7b k7b c7b]) := ⟨_, rfl⟩
 have TW18 := kN (kM HW18) HB16 rfl rfl
 replace HB16 := kPf (kM HW18) HB16 rfl
 rw [← HW18.out]
 have jm12 := tt (tt (tt (tt j8 j6c) j9) j7c) j10
 replace HB2 := kO (kM HW18) (kB HB2 jm12) n2b16.out
 replace HB6 := kO (kM HW18) (kB HB6 jm12) n6b16.out
 replace HB4 := kO (kM HW18) (kB HB4 jm12) n4b16.out
 refine ckk hK9 (by exact ⟨kD HB2 0, kD HB2 1, kD HB2 2, kD HB6 0, kD HB6 1, kD HB6 2, kD HB4 0, kD HB4 1, kD HB4 2⟩) (h := ?_)
 clear hK9 K9 t17h
 refine seq_done (by kernel_rfl) ?_
 go_wp2_with fail
 obtain ⟨W19, hW19⟩ : ∃ W, W = W18.drew := ⟨_, rfl⟩
 have j11 : Below W18.heap.size W18 W19 := by rw [hW19]; exact (Below.refl _ _).drew
 replace HB16 := kB HB16 j11
 refine seq_start (S := fun w' => w'.cell? ⟨g1_0, 0, none⟩ = some (.bool g7a) ∧ w'.cell? ⟨g1_0, 1, none⟩ = some (.slice A7a k7a c7a) ∧ w'.cell? ⟨g1_0, 2, none⟩ = some (.slice A7b k7b c7b)) (by kernel_rfl) (by kernel_rfl) (by rw [← hW19]; exact ⟨kD HB16 0, kD HB16 1, kD HB16 2⟩) ?_
 rw [← hW19]
 clear hW19
 refine tk0 (h := ?_)
 refine sop (h := fun K9 hK9 => ?_)
 go_simp
 refine mQ (one_any _) fun w8 g8a A8a k8a c8a A8b k8b c8b HR8 j8c => ?_
 replace HB16 := kB HB16 j8c
 refine ckk hK9 (by exact ⟨kD HB16 0, kD HB16 1, kD HB16 2⟩) (h := ?_)
 clear hK9 K9
 refine sop (h := fun K9 hK9 => ?_)
 go_simp
 have jm13 := tt j11 j8c
 replace HR7 := kV jm13 (kW TW18 (kV j10 HR7))
 refine mV (cmp_is _ _ (c * g / f) 1 1 _ HR7.out HR8.out (HQD.out.up (by omega)) (qs_one.up (by omega)) Hsd.out) fun w9 j9c => ?_
 replace HB16 := kB HB16 j9c
 refine ckk hK9 (by exact ⟨kD HB16 0, kD HB16 1, kD HB16 2⟩) (h := ?_)
 clear hK9 K9
 refine tk0 (h := ?_)
 refine seq_done (by kernel_rfl) ?_
 have jm14 := tt jm13 j9c
 replace HB8 := kB (kO (kM HW18) (kB HB8 jm12) n8b16.out) jm14
 have t20h := kth 0 3 HB8
 obtain ⟨W21, HW21⟩ : ∃ W, Hid (W = w9.setCells (w.heap.size + 3) 0 [.bool false, .slice none 0 0, .slice none 0 0]) := ⟨_, rfl⟩
 replace HB8 := kPf (kM HW21) HB8 rfl
 replace HB10 := kO (kM HW21) (kB (kO (kM HW18) (kB HB10 jm12) n10b16.out) jm14) n8b10.out.symm
 have t22h := kth 0 3 HB10
 obtain ⟨W23, HW23⟩ : ∃ W, Hid (W = W21.setCells (w.heap.size + 4) 0 [.bool false, .slice none 0 0, .slice none 0 0]) := ⟨_, rfl⟩
 replace HB10 := kPf (kM HW23) HB10 rfl
 rw [HW21.out] at t22h
 go_wp2_with (first | (refine smd 32 (w.heap.size + 3) 0 (ht := by exact t20h) (h := ?_)) | (refine smd 32 (w.heap.size + 4) 0 (ht := by exact t22h) (h := ?_)))
 rw [← HW21.out, ← HW23.out]
 rw [← HW21.out] at t22h
 clear t20h t22h
 replace HB8 := kO (kM HW23) HB8 n8b10.out
 replace HBw := kS (kM HW23) l10b (kS (kM HW21) l8b (kU (kS (kM HW18) l16b (kU HBw jm12)) jm14))
 exact bodyPost_ret (v := .tuple #[.agg #[.bool false, .slice none 0 0, .slice none 0 0], .agg #[.bool false, .slice none 0 0, .slice none 0 0], .int .i64 5]) (results_cct rfl (by rfl) (blk_all HB8.out) Tryz.underlying32 rfl (by kernel_rfl) (by rfl) (blk_all HB10.out) Tryz.underlying32 rfl (by kernel_rfl) (by rfl)) rfl ⟨⟨_, _, rfl, RdQ.nil0 _, RdQ.nil0 _⟩, HBw.out⟩
theorem lift_6 (v u t : Value) (c f g : Rat) (w : World) (hv : RdQ w v c) (hu : RdQ w u f) (ht : RdQ w t g) (hq : QS 1000 c) (hq1 : QS 1000 f) (hq2 : QS 1000 g) (sc : Int) (hsc : Int.sign c.num = sc) (ksc : ¬ sc < 0) (cc : Int) (hcc : Int.sign (c - 1).num = cc) (kcc : ¬ 0 < cc) (hsf : Int.sign f.num = 1) (hsg : Int.sign g.num = 1) (sd : Int) (hsd : Int.sign (c * g / f - 1).num = sd) (ksd : ¬ 0 < sd) :
  Calls Tryz.prog 26 #[v, u, t] w fun e w' => (∃ v1 v2, e = .returned (.tuple #[v1, v2, .int .i64 0]) ∧ RdQ w' v1 (c * g / f) ∧ RdQ w' v2 (1 - (c * g / f) * (c * g / f))) ∧ Below w.heap.size w w' := by
 have HQ := h0d hq
 have HQ1 := h0d hq1
 have HQ2 := h0d hq2
 have Hsc := h0d hsc
 clear hsc
 have dsc : decide (sc < 0) = false := decide_eq_false ksc
 have Hcc := h0d hcc
 clear hcc
 have dcc : decide (0 < cc) = false := decide_eq_false kcc
 have Hsf := h0d hsf
 clear hsf
 have Hsg := h0d hsg
 clear hsg
 have HNZ : Hid (f ≠ 0) := by show _ ≠ _; intro e; have := Hsf.out; rw [e] at this; exact absurd this (by decide)
 have HQD : Hid (QS 3000 (c * g / f)) := ((hq.mul hq2).div hq1 HNZ.out).up (by omega)
 have Hsd := h0d hsd
 clear hsd
 have dsd : decide (0 < sd) = false := decide_eq_false ksd
 clear hq hq1 hq2
 obtain ⟨gp0a, Ap0a, kp0a, cp0a, Ap0b, kp0b, cp0b, rfl, hv⟩ := hv.open
 have HX0 := h0d hv
 clear hv
 obtain ⟨gp1a, Ap1a, kp1a, cp1a, Ap1b, kp1b, cp1b, rfl, hu⟩ := hu.open
 have HX1 := h0d hu
 clear hu
 obtain ⟨gp2a, Ap2a, kp2a, cp2a, Ap2b, kp2b, cp2b, rfl, ht⟩ := ht.open
 have HX2 := h0d ht
 clear ht
 go_enter Tryz.func26, Tryz.ntmps26
 obtain ⟨W1, HW1, HB2, s1w, j1⟩ := st_al0 w #[.bool gp0a, .slice Ap0a kp0a cp0a, .slice Ap0b kp0b cp0b] 32
 have HBw := h0d j1
 obtain ⟨W3, HW3, HB4, s3w, j2⟩ := st_alk 1 2 #[.bool gp1a, .slice Ap1a kp1a cp1a, .slice Ap1b kp1b cp1b] 32 s1w rfl
 obtain ⟨W5, HW5, HB6, s5w, j3⟩ := st_alk 2 3 #[.bool gp2a, .slice Ap2a kp2a cp2a, .slice Ap2b kp2b cp2b] 32 s3w rfl
 obtain ⟨W7, HW7, HB8, s7w, j4⟩ := st_alk 3 4 #[.bool false, .slice none 0 0, .slice none 0 0] 32 s5w rfl
 have l8b : Hid (w.heap.size ≤ w.heap.size + 3) := by show _ ≤ _; omega
 obtain ⟨W9, HW9, HB10, s9w, j5⟩ := st_alk 4 5 #[.bool false, .slice none 0 0, .slice none 0 0] 32 s7w rfl
 have n8b10 : Hid (w.heap.size + 3 ≠ w.heap.size + 4) := by show _ ≠ _; omega
 have l10b : Hid (w.heap.size ≤ w.heap.size + 4) := by show _ ≤ _; omega
 go_wp2_with fail
 rw [← HW1.out, ← HW3.out, ← HW5.out, ← HW7.out, ← HW9.out]
 obtain ⟨W11, hW11⟩ : ∃ W, W = W9.drew := ⟨_, rfl⟩
 have j6 : Below W9.heap.size W9 W11 := by rw [hW11]; exact (Below.refl _ _).drew
 have jm1 := tt (tt (tt (tt j2 j3) j4) j5) j6
 replace HB2 := kB HB2 jm1
 have jm2 := tt (tt (tt j3 j4) j5) j6
 replace HB4 := kB HB4 jm2
 have jm3 := tt (tt j4 j5) j6
 replace HB6 := kB HB6 jm3
 refine seq_start (S := fun w' => w'.cell? ⟨w.heap.size, 0, none⟩ = some (.bool gp0a) ∧ w'.cell? ⟨w.heap.size, 1, none⟩ = some (.slice Ap0a kp0a cp0a) ∧ w'.cell? ⟨w.heap.size, 2, none⟩ = some (.slice Ap0b kp0b cp0b) ∧ w'.cell? ⟨w.heap.size + 1, 0, none⟩ = some (.bool gp1a) ∧ w'.cell? ⟨w.heap.size + 1, 1, none⟩ = some (.slice Ap1a kp1a cp1a) ∧ w'.cell? ⟨w.heap.size + 1, 2, none⟩ = some (.slice Ap1b kp1b cp1b) ∧ w'.cell? ⟨w.heap.size + 2, 0, none⟩ = some (.bool gp2a) ∧ w'.cell? ⟨w.heap.size + 2, 1, none⟩ = some (.slice Ap2a kp2a cp2a) ∧ w'.cell? ⟨w.heap.size + 2, 2, none⟩ = some (.slice Ap2b kp2b cp2b)) (by kernel_rfl) (by kernel_rfl) (by rw [← hW11]; exact ⟨kD HB2 0, kD HB2 1, kD HB2 2, kD HB4 0, kD HB4 1, kD HB4 2, kD HB6 0, kD HB6 1, kD HB6 2⟩) ?_
 rw [← hW11]
 clear hW11
 refine tk0 (h := ?_)
 refine sop (h := fun K9 hK9 => ?_)
 go_simp
 replace HBw := kU HBw jm1
 replace HX0 := kV HBw.out HX0
 refine mV (sign_is _ c sc _ HX0.out Hsc.out) fun w1 j1c => ?_
 replace HB2 := kB HB2 j1c
 replace HB4 := kB HB4 j1c
 replace HB6 := kB HB6 j1c
 refine ckk hK9 (by exact ⟨kD HB2 0, kD HB2 1, kD HB2 2, kD HB4 0, kD HB4 1, kD HB4 2, kD HB6 0, kD HB6 1, kD HB6 2⟩) (h := ?_)
 clear hK9 K9
 iterate 2 refine tk0 (h := ?_)
 refine tkG (h := ?_)
 refine sop (h := fun K9 hK9 => ?_)
 go_simp
 refine mQ (one_any _) fun w2 g2a A2a k2a c2a A2b k2b c2b HR2 j2c => ?_
 replace HB2 := kB HB2 j2c
 replace HB4 := kB HB4 j2c
 replace HB6 := kB HB6 j2c
 refine ckk hK9 (by exact ⟨kD HB2 0, kD HB2 1, kD HB2 2, kD HB4 0, kD HB4 1, kD HB4 2, kD HB6 0, kD HB6 1, kD HB6 2⟩) (h := ?_)
 clear hK9 K9
 refine sop (h := fun K9 hK9 => ?_)
 go_simp
 have jm4 := tt j1c j2c
 replace HX0 := kV jm4 HX0
 refine mV (cmp_is _ _ c 1 cc _ HX0.out HR2.out (HQ.out.up (by omega)) (qs_one.up (by omega)) Hcc.out) fun w3 j3c => ?_
 replace HB2 := kB HB2 j3c
 replace HB4 := kB HB4 j3c
 replace HB6 := kB HB6 j3c
 refine ckk hK9 (by exact ⟨kD HB2 0, kD HB2 1, kD HB2 2, kD HB4 0, kD HB4 1, kD HB4 2, kD HB6 0, kD HB6 1, kD HB6 2⟩) (h := ?_)
 clear hK9 K9
 refine tkG (h := ?_)
 iterate 2 refine tk0 (h := ?_)
 refine tkG (h := ?_)
 refine sop (h := fun K9 hK9 => ?_)
 go_simp
 have jm5 := tt jm4 j3c
 replace HBw := kU HBw jm5
 replace HX1 := kV HBw.out HX1
 refine mV (sign_is _ f 1 _ HX1.out Hsf.out) fun w4 j4c => ?_
 replace HB2 := kB HB2 j4c
 replace HB4 := kB HB4 j4c
 replace HB6 := kB HB6 j4c
 refine ckk hK9 (by exact ⟨kD HB2 0, kD HB2 1, kD HB2 2, kD HB4 0, kD HB4 1, kD HB4 2, kD HB6 0, kD HB6 1, kD HB6 2⟩) (h := ?_)
 clear hK9 K9
 refine tkG (h := ?_)
 iterate 2 refine tk0 (h := ?_)
 refine tkG (h := ?_)
 refine sop (h := fun K9 hK9 => ?_)
 go_simp
 replace HBw := kU HBw j4c
 replace HX2 := kV HBw.out HX2
 refine mV (sign_is _ g 1 _ HX2.out Hsg.out) fun w5 j5c => ?_
 replace HB2 := kB HB2 j5c
 replace HB4 := kB HB4 j5c
 replace HB6 := kB HB6 j5c
 refine ckk hK9 (by exact ⟨kD HB2 0, kD HB2 1, kD HB2 2, kD HB4 0, kD HB4 1, kD HB4 2, kD HB6 0, kD HB6 1, kD HB6 2⟩) (h := ?_)
 clear hK9 K9
 refine tkG (h := ?_)
 refine tk0 (h := ?_)
 refine seq_done (by kernel_rfl) ?_
 go_wp2_with fail
 obtain ⟨W12, hW12⟩ : ∃ W, W = w5.drew := ⟨_, rfl⟩
 have j7 : Below w5.heap.size w5 W12 := by rw [hW12]; exact (Below.refl _ _).drew
 replace HB2 := kB HB2 j7
 replace HB6 := kB HB6 j7
 replace HB4 := kB HB4 j7
 refine seq_start (S := fun w' => w'.cell? ⟨w.heap.size, 0, none⟩ = some (.bool gp0a) ∧ w'.cell? ⟨w.heap.size, 1, none⟩ = some (.slice Ap0a kp0a cp0a) ∧ w'.cell? ⟨w.heap.size, 2, none⟩ = some (.slice Ap0b kp0b cp0b) ∧ w'.cell? ⟨w.heap.size + 2, 0, none⟩ = some (.bool gp2a) ∧ w'.cell? ⟨w.heap.size + 2, 1, none⟩ = some (.slice Ap2a kp2a cp2a) ∧ w'.cell? ⟨w.heap.size + 2, 2, none⟩ = some (.slice Ap2b kp2b cp2b) ∧ w'.cell? ⟨w.heap.size + 1, 0, none⟩ = some (.bool gp1a) ∧ w'.cell? ⟨w.heap.size + 1, 1, none⟩ = some (.slice Ap1a kp1a cp1a) ∧ w'.cell? ⟨w.heap.size + 1, 2, none⟩ = some (.slice Ap1b kp1b cp1b)) (by kernel_rfl) (by kernel_rfl) (by rw [← hW12]; exact ⟨kD HB2 0, kD HB2 1, kD HB2 2, kD HB6 0, kD HB6 1, kD HB6 2, kD HB4 0, kD HB4 1, kD HB4 2⟩) ?_
 rw [← hW12]
 clear hW12
 have jm6 := tt j5c j7
 replace HBw := kU HBw jm6
 have y1b2 := klt HB2
 have y1b4 := klt HB4
 have y1b6 := klt HB6
 have jm7 := tt (tt (tt (tt (tt (tt (tt j5 j6) j1c) j2c) j3c) j4c) j5c) j7
 replace HB8 := kB HB8 jm7
 have y1b8 := klt HB8
 have jm8 := tt (tt (tt (tt (tt (tt j6 j1c) j2c) j3c) j4c) j5c) j7
 replace HB10 := kB HB10 jm8
 have y1b10 := klt HB10
 have l1w := ksz HBw
 have HSR1 : Hid (∀ w', Below W12.heap.size W12 w' → w'.cell? ⟨w.heap.size, 0, none⟩ = some (.bool gp0a) ∧ w'.cell? ⟨w.heap.size, 1, none⟩ = some (.slice Ap0a kp0a cp0a) ∧ w'.cell? ⟨w.heap.size, 2, none⟩ = some (.slice Ap0b kp0b cp0b) ∧ w'.cell? ⟨w.heap.size + 2, 0, none⟩ = some (.bool gp2a) ∧ w'.cell? ⟨w.heap.size + 2, 1, none⟩ = some (.slice Ap2a kp2a cp2a) ∧ w'.cell? ⟨w.heap.size + 2, 2, none⟩ = some (.slice Ap2b kp2b cp2b) ∧ w'.cell? ⟨w.heap.size + 1, 0, none⟩ = some (.bool gp1a) ∧ w'.cell? ⟨w.heap.size + 1, 1, none⟩ = some (.slice Ap1a kp1a cp1a) ∧ w'.cell? ⟨w.heap.size + 1, 2, none⟩ = some (.slice Ap1b kp1b cp1b)) := fun w' hb => ⟨kD (kB HB2 hb) 0, kD (kB HB2 hb) 1, kD (kB HB2 hb) 2, kD (kB HB6 hb) 0, kD (kB HB6 hb) 1, kD (kB HB6 hb) 2, kD (kB HB4 hb) 0, kD (kB HB4 hb) 1, kD (kB HB4 hb) 2⟩
 iterate 2 refine tk0 (h := ?_)
 refine plq 1 (h := ?_)
 refine tk0 (h := ?_)
 refine plq 2 (h := ?_)
 refine fStart (fs := [⟨_, 32, [.bool false, .slice none 0 0, .slice none 0 0], _⟩]) (h := fun st HFz => ?_)
 refine nrm (hb := by first | (simp only [puts, Act.put, List.setIfInBounds_toArray, List.set_cons_zero, List.set_cons_succ]; rfl)) (h := ?_)
 refine fOp HFz HSR1.out (h := fun st z13 j8 HFz K9 hK9 => ?_)
 go_simp
 have jm9 := tt (tt (tt (tt j3c j4c) j5c) j7) j8
 replace HX0 := kV jm9 HX0
 have jm10 := tt jm6 j8
 replace HX2 := kV jm10 HX2
 refine mQ (mul_any _ _ c g _ HX0.out HX2.out (HQ.out.up (by omega)) (HQ2.out.up (by omega))) fun w6 g6a A6a k6a c6a A6b k6b c6b HR6 j6c => ?_
 replace HFz := h0d (HFz.out.below j6c)
 refine ckk hK9 (by exact HSR1.out _ HFz.out.bel) (h := ?_)
 clear hK9 K9
 refine fOp HFz HSR1.out (h := fun st z14 j9 HFz K9 hK9 => ?_)
 go_simp
 replace HR6 := kV j9 HR6
 have jm11 := tt (tt (tt (tt (tt j4c j5c) j7) j8) j6c) j9
 replace HX1 := kV jm11 HX1
 refine mQ (ratioB_any _ _ (c * g) f _ HR6.out HX1.out HNZ.out ((HQ.out.mul HQ2.out).up (by omega)) (HQ1.out.up (by omega))) fun w7 g7a A7a k7a c7a A7b k7b c7b HR7 j7c => ?_
 replace HFz := h0d (HFz.out.below j7c)
 refine ckk hK9 (by exact HSR1.out _ HFz.out.bel) (h := ?_)
 clear hK9 K9
 refine fEnd HFz HSR1.out (h := fun st z15 j10 HFz hst => ?_)
 obtain ⟨g1_0, e0⟩ := hst 0 nlt
 refine nrm (hb := by simp only [e0, pv]; rfl) (h := ?_)
 have HB16 : Hid (z15.heap[g1_0]? = some (.cells #[.bool false, .slice none 0 0, .slice none 0 0] 32 (0, 0))) := (HFz.out.blk 0 _ g1_0 rfl e0).2
 have n2b16 := kne y1b2 HFz e0
 have n4b16 := kne y1b4 HFz e0
 have n6b16 := kne y1b6 HFz e0
 have n8b16 := kne y1b8 HFz e0
 have n10b16 := kne y1b10 HFz e0
 have l16b := kle l1w HFz e0
 clear HFz hst e0
 refine sop (h := fun K9 hK9 => ?_)
 have t17h := kth 0 3 HB16
 refine smw 32 (g1_0) 0 (ht := by exact t17h) (h := ?_)
 obtain ⟨W18, HW18⟩ : ∃ W, Hid (W = z15.setCells (g1_0) 0 [.bool g7a, .slice A7a k7a c7a, .slice A7b k7b c7b]) := ⟨_, rfl⟩
 have TW18 := kN (kM HW18) HB16 rfl rfl
 replace HB16 := kPf (kM HW18) HB16 rfl
 rw [← HW18.out]
 have jm12 := tt (tt (tt (tt j8 j6c) j9) j7c) j10
 replace HB2 := kO (kM HW18) (kB HB2 jm12) n2b16.out
 replace HB6 := kO (kM HW18) (kB HB6 jm12) n6b16.out
 replace HB4 := kO (kM HW18) (kB HB4 jm12) n4b16.out
 refine ckk hK9 (by exact ⟨kD HB2 0, kD HB2 1, kD HB2 2, kD HB6 0, kD HB6 1, kD HB6 2, kD HB4 0, kD HB4 1, kD HB4 2⟩) (h := ?_)
 clear hK9 K9 t17h
 refine seq_done (by kernel_rfl) ?_
 go_wp2_with fail
 obtain ⟨W19, hW19⟩ : ∃ W, W = W18.drew := ⟨_, rfl⟩
 have j11 : Below W18.heap.size W18 W19 := by rw [hW19]; exact (Below.refl _ _).drew
 replace HB16 := kB HB16 j11
 refine seq_start (S := fun w' => w'.cell? ⟨g1_0, 0, none⟩ = some (.bool g7a) ∧ w'.cell? ⟨g1_0, 1, none⟩ = some (.slice A7a k7a c7a) ∧ w'.cell? ⟨g1_0, 2, none⟩ = some (.slice A7b k7b c7b)) (by kernel_rfl) (by kernel_rfl) (by rw [← hW19]; exact ⟨kD HB16 0, kD HB16 1, kD HB16 2⟩) ?_
 rw [← hW19]
 clear hW19
 refine tk0 (h := ?_)
 refine sop (h := fun K9 hK9 => ?_)
 go_simp
 refine mQ (one_any _) fun w8 g8a A8a k8a c8a A8b k8b c8b HR8 j8c => ?_
 replace HB16 := kB HB16 j8c
 refine ckk hK9 (by exact ⟨kD HB16 0, kD HB16 1, kD HB16 2⟩) (h := ?_)
 clear hK9 K9
 refine sop (h := fun K9 hK9 => ?_)
 go_simp
 have jm13 := tt j11 j8c
 replace HR7 := kV jm13 (kW TW18 (kV j10 HR7))
 refine mV (cmp_is _ _ (c * g / f) 1 sd _ HR7.out HR8.out (HQD.out.up (by omega)) (qs_one.up (by omega)) Hsd.out) fun w9 j9c => ?_
 replace HB16 := kB HB16 j9c
 refine ckk hK9 (by exact ⟨kD HB16 0, kD HB16 1, kD HB16 2⟩) (h := ?_)
 clear hK9 K9
 refine tk0 (h := ?_)
 refine seq_done (by kernel_rfl) ?_
 go_wp2_with fail
 obtain ⟨W20, hW20⟩ : ∃ W, W = w9.drew := ⟨_, rfl⟩
 have j12 : Below w9.heap.size w9 W20 := by rw [hW20]; exact (Below.refl _ _).drew
 replace HB16 := kB HB16 j12
 refine seq_start (S := fun w' => w'.cell? ⟨g1_0, 0, none⟩ = some (.bool g7a) ∧ w'.cell? ⟨g1_0, 1, none⟩ = some (.slice A7a k7a c7a) ∧ w'.cell? ⟨g1_0, 2, none⟩ = some (.slice A7b k7b c7b)) (by kernel_rfl) (by kernel_rfl) (by rw [← hW20]; exact ⟨kD HB16 0, kD HB16 1, kD HB16 2⟩) ?_
 rw [← hW20]
 clear hW20
 refine tk0 (h := ?_)
 iterate 2 (refine plq 1 (h := ?_); refine tk0 (h := ?_))
 refine sop (h := fun K9 hK9 => ?_)
 go_simp
 refine mQ (one_any _) fun w10 g10a A10a k10a c10a A10b k10b c10b HR10 j10c => ?_
 replace HB16 := kB HB16 j10c
 refine ckk hK9 (by exact ⟨kD HB16 0, kD HB16 1, kD HB16 2⟩) (h := ?_)
 clear hK9 K9
 refine sop (h := fun K9 hK9 => ?_)
 go_simp
 have jm14 := tt (tt j9c j12) j10c
 replace HR7 := kV jm14 HR7
 refine mQ (mul_any _ _ (c * g / f) (c * g / f) _ HR7.out HR7.out (HQD.out.up (by omega)) (HQD.out.up (by omega))) fun w11 g11a A11a k11a c11a A11b k11b c11b HR11 j11c => ?_
 replace HB16 := kB HB16 j11c
 refine ckk hK9 (by exact ⟨kD HB16 0, kD HB16 1, kD HB16 2⟩) (h := ?_)
 clear hK9 K9
 refine sop (h := fun K9 hK9 => ?_)
 go_simp
 replace HR10 := kV j11c HR10
 refine mQ (sub_any _ _ 1 ((c * g / f) * (c * g / f)) _ HR10.out HR11.out (qs_one.up (by omega)) ((HQD.out.mul HQD.out).up (by omega))) fun w12 g12a A12a k12a c12a A12b k12b c12b HR12 j12c => ?_
 replace HB16 := kB HB16 j12c
 refine ckk hK9 (by exact ⟨kD HB16 0, kD HB16 1, kD HB16 2⟩) (h := ?_)
 clear hK9 K9
 refine sop (h := fun K9 hK9 => ?_)
 have jm15 := tt (tt (tt (tt (tt jm13 j9c) j12) j10c) j11c) j12c
 replace HB8 := kB (kO (kM HW18) (kB HB8 jm12) n8b16.out) jm15
 have t21h := kth 0 3 HB8
 refine smw 32 (w.heap.size + 3) 0 (ht := by exact t21h) (h := ?_)
 obtain ⟨W22, HW22⟩ : ∃ W, Hid (W = w12.setCells (w.heap.size + 3) 0 [.bool g7a, .slice A7a k7a c7a, .slice A7b k7b c7b]) := ⟨_, rfl⟩
 have TW22 := kN (kM HW22) HB8 rfl rfl
 replace HB8 := kPf (kM HW22) HB8 rfl
 rw [← HW22.out]
 replace HB16 := kO (kM HW22) HB16 n8b16.out.symm
 refine ckk hK9 (by exact ⟨kD HB16 0, kD HB16 1, kD HB16 2⟩) (h := ?_)
 clear hK9 K9 t21h
 refine sop (h := fun K9 hK9 => ?_)
 replace HB10 := kO (kM HW22) (kB (kO (kM HW18) (kB HB10 jm12) n10b16.out) jm15) n8b10.out.symm
 have t23h := kth 0 3 HB10
 refine smw 32 (w.heap.size + 4) 0 (ht := by exact t23h) (h := ?_)
 obtain ⟨W24, HW24⟩ : ∃ W, Hid (W = W22.setCells (w.heap.size + 4) 0 [.bool g12a, .slice A12a k12a c12a, .slice A12b k12b c12b]) := ⟨_, rfl⟩
 have TW24 := kN (kM HW24) HB10 rfl rfl
 replace HB10 := kPf (kM HW24) HB10 rfl
 rw [← HW24.out]
 replace HB16 := kO (kM HW24) HB16 n10b16.out.symm
 refine ckk hK9 (by exact ⟨kD HB16 0, kD HB16 1, kD HB16 2⟩) (h := ?_)
 clear hK9 K9 t23h
 refine tk0 (h := ?_)
 refine seq_done (by kernel_rfl) ?_
 go_wp2_with fail
 replace HB8 := kO (kM HW24) HB8 n8b10.out
 have jm16 := tt j11c j12c
 replace HR7 := kW TW24 (kW TW22 (kV jm16 HR7))
 replace HR12 := kW TW24 (kW TW22 HR12)
 replace HBw := kS (kM HW24) l10b (kS (kM HW22) l8b (kU (kS (kM HW18) l16b (kU HBw jm12)) jm15))
 exact bodyPost_ret (v := .tuple #[.agg #[.bool g7a, .slice A7a k7a c7a, .slice A7b k7b c7b], .agg #[.bool g12a, .slice A12a k12a c12a, .slice A12b k12b c12b], .int .i64 0]) (results_cct rfl (by rfl) (blk_all HB8.out) Tryz.underlying32 rfl (by kernel_rfl) (by rfl) (blk_all HB10.out) Tryz.underlying32 rfl (by kernel_rfl) (by rfl)) rfl ⟨⟨_, _, rfl, HR7.out, HR12.out⟩, HBw.out⟩
end Go.Proofs.YtodckaioeomccaaGreat
namespace Go.Proofs.YtodckaioeomccaaGreat
set_option linter.unusedVariables false
def lifE (c f g : Rat) : Int := if 0 ≤ c ∧ c ≤ 1 ∧ 0 < f ∧ 0 < g then (if c * g / f ≤ 1 then 0 else 5) else 1
def lifV (c f g : Rat) : Rat := if lifE c f g = 0 then c * g / f else 0
def lifW (c f g : Rat) : Rat := if lifE c f g = 0 then 1 - (c * g / f) * (c * g / f) else 0
variable {c f g k : Rat}
theorem lif_at {e : Int} (h : lifE c f g = e) (he : e ≠ 0) : lifE c f g = e ∧ lifV c f g = 0 ∧ lifW c f g = 0 := by
 refine ⟨h, ?_, ?_⟩
 ·unfold lifV; rw [h, if_neg he]
 ·unfold lifW; rw [h, if_neg he]
theorem lif_1 (h : c < 0) : lifE c f g = 1 ∧ lifV c f g = 0 ∧ lifW c f g = 0 := lif_at (if_neg (fun e => by grind)) (by decide)
theorem lif_2 (h : 1 < c) : lifE c f g = 1 ∧ lifV c f g = 0 ∧ lifW c f g = 0 := lif_at (if_neg (fun e => by grind)) (by decide)
theorem lif_3 (h : ¬ 0 < f) : lifE c f g = 1 ∧ lifV c f g = 0 ∧ lifW c f g = 0 := lif_at (if_neg (fun e => h e.2.2.1)) (by decide)
theorem lif_4 (h : ¬ 0 < g) : lifE c f g = 1 ∧ lifV c f g = 0 ∧ lifW c f g = 0 := lif_at (if_neg (fun e => h e.2.2.2)) (by decide)
theorem lif_5 (h1 : ¬ c < 0) (h2 : ¬ 1 < c) (h3 : 0 < f) (h4 : 0 < g) (h5 : 1 < c * g / f) : lifE c f g = 5 ∧ lifV c f g = 0 ∧ lifW c f g = 0 :=
 lif_at (by unfold lifE; rw [if_pos ⟨by grind, by grind, h3, h4⟩, if_neg (by grind)]) (by decide)
theorem lif_6 (h1 : ¬ c < 0) (h2 : ¬ 1 < c) (h3 : 0 < f) (h4 : 0 < g) (h5 : ¬ 1 < c * g / f) : lifE c f g = 0 ∧ lifV c f g = c * g / f ∧ lifW c f g = 1 - (c * g / f) * (c * g / f) := by
 have h : lifE c f g = 0 := by unfold lifE; rw [if_pos ⟨by grind, by grind, h3, h4⟩, if_pos (by grind)]
 exact ⟨h, if_pos h, if_pos h⟩
theorem lif_ok (h : lifE c f g = 0) : (0 ≤ c ∧ c ≤ 1) ∧ (0 < f ∧ 0 < g) ∧ c * g / f ≤ 1 := by
 unfold lifE at h
 split at h
 ·rename_i k
  split at h
  ·rename_i m; exact ⟨⟨k.1, k.2.1⟩, ⟨k.2.2.1, k.2.2.2⟩, m⟩
  ·simp at h
 ·simp at h
theorem lif_nn (h : lifE c f g = 0) : 0 ≤ c * g / f := by
 obtain ⟨⟨h1, h2⟩, ⟨h3, h4⟩, _⟩ := lif_ok h
 rw [Rat.div_def]
 exact Rat.mul_nonneg (Rat.mul_nonneg h1 (Rat.le_of_lt h4)) (Rat.le_of_lt (Rat.inv_pos.2 h3))
theorem lif_back (h : lifE c f g = 0) : lifE (lifV c f g) g f = 0 ∧ lifV (lifV c f g) g f = c ∧ True := by
 obtain ⟨⟨h1, h2⟩, ⟨h3, h4⟩, h5⟩ := lif_ok h
 have h6 := lif_nn h
 have hv : lifV c f g = c * g / f := if_pos h
 have e : c * g / f * f / g = c := by
  have hf : f ≠ 0 := by grind
  have hg : g ≠ 0 := by grind
  grind
 have h7 : lifE (c * g / f) g f = 0 := by unfold lifE; rw [if_pos ⟨h6, h5, h4, h3⟩, e, if_pos h2]
 rw [hv]
 exact ⟨h7, by unfold lifV; rw [if_pos h7]; exact e, trivial⟩
theorem lif_two (h : lifE c f g = 0) : lifE (lifV c f g) g k = lifE c f k ∧ lifV (lifV c f g) g k = lifV c f k := by
 obtain ⟨⟨h1, h2⟩, ⟨h3, h4⟩, h5⟩ := lif_ok h
 have h6 := lif_nn h
 have hv : lifV c f g = c * g / f := if_pos h
 have e : c * g / f * k / g = c * k / f := by
  have hf : f ≠ 0 := by grind
  have hg : g ≠ 0 := by grind
  grind
 have h7 : lifE (c * g / f) g k = lifE c f k := by
  unfold lifE
  rw [e]
  by_cases hk : 0 < k
  ·rw [if_pos (show 0 ≤ c * g / f ∧ c * g / f ≤ 1 ∧ 0 < g ∧ 0 < k from ⟨h6, h5, h4, hk⟩), if_pos (show 0 ≤ c ∧ c ≤ 1 ∧ 0 < f ∧ 0 < k from ⟨h1, h2, h3, hk⟩)]
  ·rw [if_neg (fun q => hk q.2.2.2), if_neg (fun q => hk q.2.2.2)]
 rw [hv]
 exact ⟨h7, by unfold lifV; rw [h7, e]⟩
theorem lifV_size (h0 : QS 2 c) (h1 : QS 2 f) (h2 : QS 2 g) : QS 10 (lifV c f g) := by
 unfold lifV
 split
 ·rename_i h; exact ((h0.mul h2).div h1 (by have := (lif_ok h).2.1; grind)).up (by omega)
 ·exact qs_zero.up (by omega)
theorem lifW_size (h0 : QS 2 c) (h1 : QS 2 f) (h2 : QS 2 g) : QS 30 (lifW c f g) := by
 unfold lifW
 split
 ·rename_i h
  have hq := (h0.mul h2).div h1 (by have := (lif_ok h).2.1; grind)
  exact (sub_sizes qs_one (hq.mul hq)).up (by omega)
 ·exact qs_zero.up (by omega)
end Go.Proofs.YtodckaioeomccaaGreat
