/- Walks of cuts: the reference's Angle; Piece. -/
import Derived.Test.YtodckaioeomccaaGreatPart37
import Derived.Test.YtodckaioeomccaaGreatPart38
namespace Go.Proofs.YtodckaioeomccaaGreat
open Go.RowKit
set_option linter.unusedVariables false
set_option linter.unusedSimpArgs false
set_option maxRecDepth 100000
set_option maxHeartbeats 4000000
theorem rsign_is (v : Value) (x : Rat) (s : Int) (w : World) (hv : RdF w v x) (hs : Int.sign x.num = s) : Calls Tryz.prog 85 #[v] w fun e w' => e = .returned (.int .i64 s) ∧ Below w.heap.size w w' := hs ▸ rsign_any v x w hv
theorem rcmp_is (v u : Value) (x y : Rat) (s : Int) (w : World) (hv : RdF w v x) (hu : RdF w u y) (hx6 : QM 400000 x) (hy6 : QM 400000 y) (hs : Int.sign (x - y).num = s) : Calls Tryz.prog 122 #[v, u] w fun e w' => e = .returned (.int .i64 s) ∧ Below w.heap.size w w' := hs ▸ rcmp_any v u x y w hv hu hx6 hy6
theorem QS.rm {k : Nat} {x : Rat} (h : QS k x) (hk : 2 * k ≤ 400000) : QM 400000 x := h.qm.mono hk
theorem rangle_1 (v : Value) (h : Rat) (w : World) (hv : RdF w v h) (hq : QS 10000 h) (s : Int) (hs : Int.sign h.num = s) (ks : ¬ 0 < s) :
  Calls Tryz.prog 38 #[v] w fun e w' => (∃ v1 v2, e = .returned (.tuple #[v1, v2, .int .i64 1]) ∧ RdF w' v1 (0) ∧ RdF w' v2 (0)) ∧ Below w.heap.size w w' := by
 have HQ := h0d hq
 have HS := h0d hs
 have ks2 : s ≤ 0 := by omega
 clear hs
 clear hq
 obtain ⟨gp0a, Ap0a, kp0a, cp0a, Ap0b, kp0b, cp0b, rfl, hv⟩ := hv.open
 have HX0 := h0d hv
 clear hv
 go_enter Tryz.func38, Tryz.ntmps38
 obtain ⟨W1, HW1, HB2, s1w, j1⟩ := st_al0 w #[.bool gp0a, .slice Ap0a kp0a cp0a, .slice Ap0b kp0b cp0b] 40
 have HBw := h0d j1
 obtain ⟨W3, HW3, HB4, s3w, j2⟩ := st_alk 1 2 #[.bool false, .slice none 0 0, .slice none 0 0] 40 s1w rfl
 have l4b : Hid (w.heap.size ≤ w.heap.size + 1) := by show _ ≤ _; omega
 obtain ⟨W5, HW5, HB6, s5w, j3⟩ := st_alk 2 3 #[.bool false, .slice none 0 0, .slice none 0 0] 40 s3w rfl
 have n4b6 : Hid (w.heap.size + 1 ≠ w.heap.size + 2) := by show _ ≠ _; omega
 have l6b : Hid (w.heap.size ≤ w.heap.size + 2) := by show _ ≤ _; omega
 go_wp2_with fail
 rw [← HW1.out, ← HW3.out, ← HW5.out]
 obtain ⟨W7, hW7⟩ : ∃ W, W = W5.drew := ⟨_, rfl⟩
 have j4 : Below W5.heap.size W5 W7 := by rw [hW7]; exact (Below.refl _ _).drew
 have jm1 := tt (tt j2 j3) j4
 replace HB2 := kB HB2 jm1
 refine seq_start (S := fun w' => w'.cell? ⟨w.heap.size, 0, none⟩ = some (.bool gp0a) ∧ w'.cell? ⟨w.heap.size, 1, none⟩ = some (.slice Ap0a kp0a cp0a) ∧ w'.cell? ⟨w.heap.size, 2, none⟩ = some (.slice Ap0b kp0b cp0b)) (by kernel_rfl) (by kernel_rfl) (by rw [← hW7]; exact ⟨kD HB2 0, kD HB2 1, kD HB2 2⟩) ?_
 rw [← hW7]
 clear hW7
 refine tk0 (h := ?_)
 refine sop (h := fun K9 hK9 => ?_)
 go_simp
 replace HBw := kU HBw jm1
 replace HX0 := kV HBw.out HX0
 refine mV (rsign_is _ h s _ HX0.out HS.out) fun w1 j1c => ?_
 replace HB2 := kB HB2 j1c
 refine ckk hK9 (by exact ⟨kD HB2 0, kD HB2 1, kD HB2 2⟩) (h := ?_)
 clear hK9 K9
 iterate 2 refine tk0 (h := ?_)
 iterate 4 refine skG (h := ?_)
 refine tk0 (h := ?_)
 refine seq_done (by kernel_rfl) ?_
 go_wp2_with fail
 refine mQ (r5zero_any _) fun w2 g2a A2a k2a c2a A2b k2b c2b HR2 j2c => ?_
 go_wp2_with fail
 refine mQ (r5zero_any _) fun w3 g3a A3a k3a c3a A3b k3b c3b HR3 j3c => ?_
 have jm2 := tt (tt (tt (tt j3 j4) j1c) j2c) j3c
 replace HB4 := kB HB4 jm2
 have t8h := kth 0 3 HB4
 obtain ⟨W9, HW9⟩ : ∃ W, Hid (W = w3.setCells (w.heap.size + 1) 0 [.bool g2a, .slice A2a k2a c2a, .slice A2b k2b c2b]) := ⟨_, rfl⟩
 have TW9 := kN (kM HW9) HB4 rfl rfl
 replace HB4 := kPf (kM HW9) HB4 rfl
 have jm3 := tt (tt (tt j4 j1c) j2c) j3c
 replace HB6 := kO (kM HW9) (kB HB6 jm3) n4b6.out.symm
 have t10h := kth 0 3 HB6
 obtain ⟨W11, HW11⟩ : ∃ W, Hid (W = W9.setCells (w.heap.size + 2) 0 [.bool g3a, .slice A3a k3a c3a, .slice A3b k3b c3b]) := ⟨_, rfl⟩
 have TW11 := kN (kM HW11) HB6 rfl rfl
 replace HB6 := kPf (kM HW11) HB6 rfl
 rw [HW9.out] at t10h
 go_wp2_with (first | (refine smd 40 (w.heap.size + 1) 0 (ht := by exact t8h) (h := ?_)) | (refine smd 40 (w.heap.size + 2) 0 (ht := by exact t10h) (h := ?_)))
 rw [← HW9.out, ← HW11.out]
 rw [← HW9.out] at t10h
 clear t8h t10h
 replace HB4 := kO (kM HW11) HB4 n4b6.out
 replace HR2 := kW TW11 (kW TW9 (kV j3c HR2))
 replace HR3 := kW TW11 (kW TW9 HR3)
 have jm4 := tt (tt j1c j2c) j3c
 replace HBw := kS (kM HW11) l6b (kS (kM HW9) l4b (kU HBw jm4))
 exact bodyPost_ret (v := .tuple #[.agg #[.bool g2a, .slice A2a k2a c2a, .slice A2b k2b c2b], .agg #[.bool g3a, .slice A3a k3a c3a, .slice A3b k3b c3b], .int .i64 1]) (results_cct rfl (by rfl) (blk_all HB4.out) Tryz.underlying40 rfl (by kernel_rfl) (by rfl) (blk_all HB6.out) Tryz.underlying40 rfl (by kernel_rfl) (by rfl)) rfl ⟨⟨_, _, rfl, HR2.out, HR3.out⟩, HBw.out⟩
theorem rangle_2 (v : Value) (h : Rat) (w : World) (hv : RdF w v h) (hq : QS 10000 h) (hs : Int.sign h.num = 1) (hc : Int.sign (h - 1).num = 1) :
  Calls Tryz.prog 38 #[v] w fun e w' => (∃ v1 v2, e = .returned (.tuple #[v1, v2, .int .i64 1]) ∧ RdF w' v1 (0) ∧ RdF w' v2 (0)) ∧ Below w.heap.size w w' := by
 have HQ := h0d hq
 have HS := h0d hs
 clear hs
 have HC := h0d hc
 clear hc
 clear hq
 obtain ⟨gp0a, Ap0a, kp0a, cp0a, Ap0b, kp0b, cp0b, rfl, hv⟩ := hv.open
 have HX0 := h0d hv
 clear hv
 go_enter Tryz.func38, Tryz.ntmps38
 obtain ⟨W1, HW1, HB2, s1w, j1⟩ := st_al0 w #[.bool gp0a, .slice Ap0a kp0a cp0a, .slice Ap0b kp0b cp0b] 40
 have HBw := h0d j1
 obtain ⟨W3, HW3, HB4, s3w, j2⟩ := st_alk 1 2 #[.bool false, .slice none 0 0, .slice none 0 0] 40 s1w rfl
 have l4b : Hid (w.heap.size ≤ w.heap.size + 1) := by show _ ≤ _; omega
 obtain ⟨W5, HW5, HB6, s5w, j3⟩ := st_alk 2 3 #[.bool false, .slice none 0 0, .slice none 0 0] 40 s3w rfl
 have n4b6 : Hid (w.heap.size + 1 ≠ w.heap.size + 2) := by show _ ≠ _; omega
 have l6b : Hid (w.heap.size ≤ w.heap.size + 2) := by show _ ≤ _; omega
 go_wp2_with fail
 rw [← HW1.out, ← HW3.out, ← HW5.out]
 obtain ⟨W7, hW7⟩ : ∃ W, W = W5.drew := ⟨_, rfl⟩
 have j4 : Below W5.heap.size W5 W7 := by rw [hW7]; exact (Below.refl _ _).drew
 have jm1 := tt (tt j2 j3) j4
 replace HB2 := kB HB2 jm1
 refine seq_start (S := fun w' => w'.cell? ⟨w.heap.size, 0, none⟩ = some (.bool gp0a) ∧ w'.cell? ⟨w.heap.size, 1, none⟩ = some (.slice Ap0a kp0a cp0a) ∧ w'.cell? ⟨w.heap.size, 2, none⟩ = some (.slice Ap0b kp0b cp0b)) (by kernel_rfl) (by kernel_rfl) (by rw [← hW7]; exact ⟨kD HB2 0, kD HB2 1, kD HB2 2⟩) ?_
 rw [← hW7]
 clear hW7
 refine tk0 (h := ?_)
 refine sop (h := fun K9 hK9 => ?_)
 go_simp
 replace HBw := kU HBw jm1
 replace HX0 := kV HBw.out HX0
 refine mV (rsign_is _ h 1 _ HX0.out HS.out) fun w1 j1c => ?_
 replace HB2 := kB HB2 j1c
 refine ckk hK9 (by exact ⟨kD HB2 0, kD HB2 1, kD HB2 2⟩) (h := ?_)
 clear hK9 K9
 iterate 2 refine tk0 (h := ?_)
 refine tkG (h := ?_)
 refine sop (h := fun K9 hK9 => ?_)
 go_simp
 refine mQ (r5one_any _) fun w2 g2a A2a k2a c2a A2b k2b c2b HR2 j2c => ?_
 replace HB2 := kB HB2 j2c
 refine ckk hK9 (by exact ⟨kD HB2 0, kD HB2 1, kD HB2 2⟩) (h := ?_)
 clear hK9 K9
 refine sop (h := fun K9 hK9 => ?_)
 go_simp
 have jm2 := tt j1c j2c
 replace HX0 := kV jm2 HX0
 refine mV (rcmp_is _ _ h 1 1 _ HX0.out HR2.out (HQ.out.rm (by omega)) (qs_one.rm (by omega)) HC.out) fun w3 j3c => ?_
 replace HB2 := kB HB2 j3c
 refine ckk hK9 (by exact ⟨kD HB2 0, kD HB2 1, kD HB2 2⟩) (h := ?_)
 clear hK9 K9
 refine tkG (h := ?_)
 refine tk0 (h := ?_)
 refine seq_done (by kernel_rfl) ?_
 go_wp2_with fail
 refine mQ (r5zero_any _) fun w4 g4a A4a k4a c4a A4b k4b c4b HR4 j4c => ?_
 go_wp2_with fail
 refine mQ (r5zero_any _) fun w5 g5a A5a k5a c5a A5b k5b c5b HR5 j5c => ?_
 have jm3 := tt (tt (tt (tt (tt (tt j3 j4) j1c) j2c) j3c) j4c) j5c
 replace HB4 := kB HB4 jm3
 have t8h := kth 0 3 HB4
 obtain ⟨W9, HW9⟩ : ∃ W, Hid (W = w5.setCells (w.heap.size + 1) 0 [.bool g4a, .slice A4a k4a c4a, .slice A4b k4b c4b]) := ⟨_, rfl⟩
 have TW9 := kN (kM HW9) HB4 rfl rfl
 replace HB4 := kPf (kM HW9) HB4 rfl
 have jm4 := tt (tt (tt (tt (tt j4 j1c) j2c) j3c) j4c) j5c
 replace HB6 := kO (kM HW9) (kB HB6 jm4) n4b6.out.symm
 have t10h := kth 0 3 HB6
 obtain ⟨W11, HW11⟩ : ∃ W, Hid (W = W9.setCells (w.heap.size + 2) 0 [.bool g5a, .slice A5a k5a c5a, .slice A5b k5b c5b]) := ⟨_, rfl⟩
 have TW11 := kN (kM HW11) HB6 rfl rfl
 replace HB6 := kPf (kM HW11) HB6 rfl
 rw [HW9.out] at t10h
 go_wp2_with (first | (refine smd 40 (w.heap.size + 1) 0 (ht := by exact t8h) (h := ?_)) | (refine smd 40 (w.heap.size + 2) 0 (ht := by exact t10h) (h := ?_)))
 rw [← HW9.out, ← HW11.out]
 rw [← HW9.out] at t10h
 clear t8h t10h
 replace HB4 := kO (kM HW11) HB4 n4b6.out
 replace HR4 := kW TW11 (kW TW9 (kV j5c HR4))
 replace HR5 := kW TW11 (kW TW9 HR5)
 have jm5 := tt (tt (tt jm2 j3c) j4c) j5c
 replace HBw := kS (kM HW11) l6b (kS (kM HW9) l4b (kU HBw jm5))
 exact bodyPost_ret (v := .tuple #[.agg #[.bool g4a, .slice A4a k4a c4a, .slice A4b k4b c4b], .agg #[.bool g5a, .slice A5a k5a c5a, .slice A5b k5b c5b], .int .i64 1]) (results_cct rfl (by rfl) (blk_all HB4.out) Tryz.underlying40 rfl (by kernel_rfl) (by rfl) (blk_all HB6.out) Tryz.underlying40 rfl (by kernel_rfl) (by rfl)) rfl ⟨⟨_, _, rfl, HR4.out, HR5.out⟩, HBw.out⟩
theorem rangle_3 (v : Value) (h : Rat) (w : World) (hv : RdF w v h) (hq : QS 10000 h) (hs : Int.sign h.num = 1) (c : Int) (hc : Int.sign (h - 1).num = c) (kc : ¬ 0 < c) :
  Calls Tryz.prog 38 #[v] w fun e w' => (∃ v1 v2, e = .returned (.tuple #[v1, v2, .int .i64 0]) ∧ RdF w' v1 ((1 - h * h) / (1 + h * h)) ∧ RdF w' v2 ((h + h) / (1 + h * h))) ∧ Below w.heap.size w w' := by
 have HQ := h0d hq
 have HS := h0d hs
 clear hs
 have HC := h0d hc
 clear hc
 have HSQ := h0d (hq.mul hq)
 have HNZ : Hid (1 + h * h ≠ 0) := by show _ ≠ _; have := sq_nn' h; grind
 clear hq
 obtain ⟨gp0a, Ap0a, kp0a, cp0a, Ap0b, kp0b, cp0b, rfl, hv⟩ := hv.open
 have HX0 := h0d hv
 clear hv
 go_enter Tryz.func38, Tryz.ntmps38
 obtain ⟨W1, HW1, HB2, s1w, j1⟩ := st_al0 w #[.bool gp0a, .slice Ap0a kp0a cp0a, .slice Ap0b kp0b cp0b] 40
 have HBw := h0d j1
 obtain ⟨W3, HW3, HB4, s3w, j2⟩ := st_alk 1 2 #[.bool false, .slice none 0 0, .slice none 0 0] 40 s1w rfl
 have n2b4 : Hid (w.heap.size ≠ w.heap.size + 1) := by show _ ≠ _; omega
 have l4b : Hid (w.heap.size ≤ w.heap.size + 1) := by show _ ≤ _; omega
 obtain ⟨W5, HW5, HB6, s5w, j3⟩ := st_alk 2 3 #[.bool false, .slice none 0 0, .slice none 0 0] 40 s3w rfl
 have n2b6 : Hid (w.heap.size ≠ w.heap.size + 2) := by show _ ≠ _; omega
 have n4b6 : Hid (w.heap.size + 1 ≠ w.heap.size + 2) := by show _ ≠ _; omega
 have l6b : Hid (w.heap.size ≤ w.heap.size + 2) := by show _ ≤ _; omega
 go_wp2_with fail
 rw [← HW1.out, ← HW3.out, ← HW5.out]
 obtain ⟨W7, hW7⟩ : ∃ W, W = W5.drew := ⟨_, rfl⟩
 have j4 : Below W5.heap.size W5 W7 := by rw [hW7]; exact (Below.refl _ _).drew
 have jm1 := tt (tt j2 j3) j4
 replace HB2 := kB HB2 jm1
 refine seq_start (S := fun w' => w'.cell? ⟨w.heap.size, 0, none⟩ = some (.bool gp0a) ∧ w'.cell? ⟨w.heap.size, 1, none⟩ = some (.slice Ap0a kp0a cp0a) ∧ w'.cell? ⟨w.heap.size, 2, none⟩ = some (.slice Ap0b kp0b cp0b)) (by kernel_rfl) (by kernel_rfl) (by rw [← hW7]; exact ⟨kD HB2 0, kD HB2 1, kD HB2 2⟩) ?_
 rw [← hW7]
 clear hW7
 refine tk0 (h := ?_)
 refine sop (h := fun K9 hK9 => ?_)
 go_simp
 replace HBw := kU HBw jm1
 replace HX0 := kV HBw.out HX0
 refine mV (rsign_is _ h 1 _ HX0.out HS.out) fun w1 j1c => ?_
 replace HB2 := kB HB2 j1c
 refine ckk hK9 (by exact ⟨kD HB2 0, kD HB2 1, kD HB2 2⟩) (h := ?_)
 clear hK9 K9
 iterate 2 refine tk0 (h := ?_)
 refine tkG (h := ?_)
 refine sop (h := fun K9 hK9 => ?_)
 go_simp
 refine mQ (r5one_any _) fun w2 g2a A2a k2a c2a A2b k2b c2b HR2 j2c => ?_
 replace HB2 := kB HB2 j2c
 refine ckk hK9 (by exact ⟨kD HB2 0, kD HB2 1, kD HB2 2⟩) (h := ?_)
 clear hK9 K9
 refine sop (h := fun K9 hK9 => ?_)
 go_simp
 have jm2 := tt j1c j2c
 replace HX0 := kV jm2 HX0
 refine mV (rcmp_is _ _ h 1 c _ HX0.out HR2.out (HQ.out.rm (by omega)) (qs_one.rm (by omega)) HC.out) fun w3 j3c => ?_
 replace HB2 := kB HB2 j3c
 refine ckk hK9 (by exact ⟨kD HB2 0, kD HB2 1, kD HB2 2⟩) (h := ?_)
 clear hK9 K9
 refine tkG (h := ?_)
 refine tk0 (h := ?_)
 refine seq_done (by kernel_rfl) ?_
 have c8 := kC HB2 0 rfl
 have c9 := kC HB2 1 rfl
 have c10 := kC HB2 2 rfl
 have c11 := kC HB2 0 rfl
 have c12 := kC HB2 1 rfl
 have c13 := kC HB2 2 rfl
 go_wp2_with fail
 clear c8 c9 c10 c11 c12 c13
 replace HX0 := kV j3c HX0
 refine mQ (rmul_any _ _ h h _ HX0.out HX0.out (HQ.out.rm (by omega)) (HQ.out.rm (by omega))) fun w4 g4a A4a k4a c4a A4b k4b c4b HR4 j4c => ?_
 obtain ⟨W14, HW14, HB15, s14w, j5⟩ := st_al0 w4 #[.bool g4a, .slice A4a k4a c4a, .slice A4b k4b c4b] 40
 have n4b15 : Hid (w.heap.size + 1 ≠ w4.heap.size) := by show _ ≠ _; have hlt := blk_lt HB4.out; have := j3.size; have := j4.size; have := j1c.size; have := j2c.size; have := j3c.size; have := j4c.size; omega
 have n6b15 : Hid (w.heap.size + 2 ≠ w4.heap.size) := by show _ ≠ _; have hlt := blk_lt HB6.out; have := j4.size; have := j1c.size; have := j2c.size; have := j3c.size; have := j4c.size; omega
 go_wp2_with fail
 rw [← HW14.out]
 obtain ⟨W16, hW16⟩ : ∃ W, W = W14.drew := ⟨_, rfl⟩
 have j6 : Below W14.heap.size W14 W16 := by rw [hW16]; exact (Below.refl _ _).drew
 replace HB15 := kB HB15 j6
 refine seq_start (S := fun w' => w'.cell? ⟨w4.heap.size, 0, none⟩ = some (.bool g4a) ∧ w'.cell? ⟨w4.heap.size, 1, none⟩ = some (.slice A4a k4a c4a) ∧ w'.cell? ⟨w4.heap.size, 2, none⟩ = some (.slice A4b k4b c4b)) (by kernel_rfl) (by kernel_rfl) (by rw [← hW16]; exact ⟨kD HB15 0, kD HB15 1, kD HB15 2⟩) ?_
 rw [← hW16]
 clear hW16
 have jm3 := tt (tt (tt (tt jm2 j3c) j4c) j5) j6
 replace HBw := kU HBw jm3
 have jm4 := tt (tt j4c j5) j6
 replace HB2 := kB HB2 jm4
 have y1b2 := klt HB2
 have jm5 := tt (tt (tt (tt (tt (tt (tt j3 j4) j1c) j2c) j3c) j4c) j5) j6
 replace HB4 := kB HB4 jm5
 have y1b4 := klt HB4
 have jm6 := tt j4 jm3
 replace HB6 := kB HB6 jm6
 have y1b6 := klt HB6
 have y1b15 := klt HB15
 have l1w := ksz HBw
 have HSR1 : Hid (∀ w', Below W16.heap.size W16 w' → w'.cell? ⟨w4.heap.size, 0, none⟩ = some (.bool g4a) ∧ w'.cell? ⟨w4.heap.size, 1, none⟩ = some (.slice A4a k4a c4a) ∧ w'.cell? ⟨w4.heap.size, 2, none⟩ = some (.slice A4b k4b c4b)) := fun w' hb => ⟨kD (kB HB15 hb) 0, kD (kB HB15 hb) 1, kD (kB HB15 hb) 2⟩
 refine plq 1 (h := ?_)
 refine tk0 (h := ?_)
 refine plq 2 (h := ?_)
 refine fStart (fs := [⟨_, 40, [.bool false, .slice none 0 0, .slice none 0 0], _⟩]) (h := fun st HFz => ?_)
 refine nrm (hb := by first | (simp only [puts, Act.put, List.setIfInBounds_toArray, List.set_cons_zero, List.set_cons_succ]; rfl)) (h := ?_)
 refine fOp HFz HSR1.out (h := fun st z17 j7 HFz K9 hK9 => ?_)
 go_simp
 refine mQ (r5one_any _) fun w5 g5a A5a k5a c5a A5b k5b c5b HR5 j5c => ?_
 replace HFz := h0d (HFz.out.below j5c)
 refine ckk hK9 (by exact HSR1.out _ HFz.out.bel) (h := ?_)
 clear hK9 K9
 refine fOp HFz HSR1.out (h := fun st z18 j8 HFz K9 hK9 => ?_)
 go_simp
 replace HR5 := kV j8 HR5
 have jm7 := tt (tt (tt (tt j5 j6) j7) j5c) j8
 replace HR4 := kV jm7 HR4
 refine mQ (radd_any _ _ 1 (h * h) _ HR5.out HR4.out (qs_one.rm (by omega)) (HSQ.out.rm (by omega))) fun w6 g6a A6a k6a c6a A6b k6b c6b HR6 j6c => ?_
 replace HFz := h0d (HFz.out.below j6c)
 refine ckk hK9 (by exact HSR1.out _ HFz.out.bel) (h := ?_)
 clear hK9 K9
 refine fEnd HFz HSR1.out (h := fun st z19 j9 HFz hst => ?_)
 obtain ⟨g1_0, e0⟩ := hst 0 nlt
 refine nrm (hb := by simp only [e0, pv]; rfl) (h := ?_)
 have HB20 : Hid (z19.heap[g1_0]? = some (.cells #[.bool false, .slice none 0 0, .slice none 0 0] 40 (0, 0))) := (HFz.out.blk 0 _ g1_0 rfl e0).2
 have n2b20 := kne y1b2 HFz e0
 have n4b20 := kne y1b4 HFz e0
 have n6b20 := kne y1b6 HFz e0
 have n15b20 := kne y1b15 HFz e0
 have l20b := kle l1w HFz e0
 clear HFz hst e0
 refine sop (h := fun K9 hK9 => ?_)
 have t21h := kth 0 3 HB20
 refine smw 40 (g1_0) 0 (ht := by exact t21h) (h := ?_)
 obtain ⟨W22, HW22⟩ : ∃ W, Hid (W = z19.setCells (g1_0) 0 [.bool g6a, .slice A6a k6a c6a, .slice A6b k6b c6b]) := ⟨_, rfl⟩
 have TW22 := kN (kM HW22) HB20 rfl rfl
 replace HB20 := kPf (kM HW22) HB20 rfl
 rw [← HW22.out]
 have jm8 := tt (tt (tt (tt j7 j5c) j8) j6c) j9
 replace HB15 := kO (kM HW22) (kB HB15 jm8) n15b20.out
 refine ckk hK9 (by exact ⟨kD HB15 0, kD HB15 1, kD HB15 2⟩) (h := ?_)
 clear hK9 K9 t21h
 refine seq_done (by kernel_rfl) ?_
 go_wp2_with fail
 obtain ⟨W23, hW23⟩ : ∃ W, W = W22.drew := ⟨_, rfl⟩
 have j10 : Below W22.heap.size W22 W23 := by rw [hW23]; exact (Below.refl _ _).drew
 replace HB15 := kB HB15 j10
 replace HB20 := kB HB20 j10
 replace HB2 := kB (kO (kM HW22) (kB HB2 jm8) n2b20.out) j10
 refine seq_start (S := fun w' => w'.cell? ⟨w4.heap.size, 0, none⟩ = some (.bool g4a) ∧ w'.cell? ⟨w4.heap.size, 1, none⟩ = some (.slice A4a k4a c4a) ∧ w'.cell? ⟨w4.heap.size, 2, none⟩ = some (.slice A4b k4b c4b) ∧ w'.cell? ⟨g1_0, 0, none⟩ = some (.bool g6a) ∧ w'.cell? ⟨g1_0, 1, none⟩ = some (.slice A6a k6a c6a) ∧ w'.cell? ⟨g1_0, 2, none⟩ = some (.slice A6b k6b c6b) ∧ w'.cell? ⟨w.heap.size, 0, none⟩ = some (.bool gp0a) ∧ w'.cell? ⟨w.heap.size, 1, none⟩ = some (.slice Ap0a kp0a cp0a) ∧ w'.cell? ⟨w.heap.size, 2, none⟩ = some (.slice Ap0b kp0b cp0b)) (by kernel_rfl) (by kernel_rfl) (by rw [← hW23]; exact ⟨kD HB15 0, kD HB15 1, kD HB15 2, kD HB20 0, kD HB20 1, kD HB20 2, kD HB2 0, kD HB2 1, kD HB2 2⟩) ?_
 rw [← hW23]
 clear hW23
 refine plq 1 (h := ?_)
 refine tk0 (h := ?_)
 refine plq 2 (h := ?_)
 refine tk0 (h := ?_)
 iterate 2 (refine plq 3 (h := ?_); refine tk0 (h := ?_))
 refine plq 4 (h := ?_)
 refine tk0 (h := ?_)
 refine sop (h := fun K9 hK9 => ?_)
 go_simp
 refine mQ (r5one_any _) fun w7 g7a A7a k7a c7a A7b k7b c7b HR7 j7c => ?_
 replace HB15 := kB HB15 j7c
 replace HB20 := kB HB20 j7c
 replace HB2 := kB HB2 j7c
 refine ckk hK9 (by exact ⟨kD HB15 0, kD HB15 1, kD HB15 2, kD HB20 0, kD HB20 1, kD HB20 2, kD HB2 0, kD HB2 1, kD HB2 2⟩) (h := ?_)
 clear hK9 K9
 refine sop (h := fun K9 hK9 => ?_)
 go_simp
 have jm9 := tt j6c j9
 have jm10 := tt j10 j7c
 replace HR4 := kV jm10 (kW TW22 (kV jm9 HR4))
 refine mQ (rsub_any _ _ 1 (h * h) _ HR7.out HR4.out (qs_one.rm (by omega)) (HSQ.out.rm (by omega))) fun w8 g8a A8a k8a c8a A8b k8b c8b HR8 j8c => ?_
 replace HB15 := kB HB15 j8c
 replace HB20 := kB HB20 j8c
 replace HB2 := kB HB2 j8c
 refine ckk hK9 (by exact ⟨kD HB15 0, kD HB15 1, kD HB15 2, kD HB20 0, kD HB20 1, kD HB20 2, kD HB2 0, kD HB2 1, kD HB2 2⟩) (h := ?_)
 clear hK9 K9
 refine sop (h := fun K9 hK9 => ?_)
 go_simp
 have jm11 := tt jm10 j8c
 replace HR6 := kV jm11 (kW TW22 (kV j9 HR6))
 refine mQ (rby_any _ _ (1 - h * h) (1 + h * h) _ HR8.out HR6.out HNZ.out ((sub_sizes qs_one HSQ.out).rm (by omega)) ((sum_sizes qs_one HSQ.out).rm (by omega))) fun w9 g9a A9a k9a c9a A9b k9b c9b HR9 j9c => ?_
 replace HB15 := kB HB15 j9c
 replace HB20 := kB HB20 j9c
 replace HB2 := kB HB2 j9c
 refine ckk hK9 (by exact ⟨kD HB15 0, kD HB15 1, kD HB15 2, kD HB20 0, kD HB20 1, kD HB20 2, kD HB2 0, kD HB2 1, kD HB2 2⟩) (h := ?_)
 clear hK9 K9
 refine sop (h := fun K9 hK9 => ?_)
 go_simp
 have jm12 := tt (tt (tt (tt (tt jm4 j7) j5c) j8) j6c) j9
 have jm13 := tt jm11 j9c
 replace HX0 := kV jm13 (kW TW22 (kV jm12 HX0))
 refine mQ (radd_any _ _ h h _ HX0.out HX0.out (HQ.out.rm (by omega)) (HQ.out.rm (by omega))) fun w10 g10a A10a k10a c10a A10b k10b c10b HR10 j10c => ?_
 replace HB15 := kB HB15 j10c
 replace HB20 := kB HB20 j10c
 replace HB2 := kB HB2 j10c
 refine ckk hK9 (by exact ⟨kD HB15 0, kD HB15 1, kD HB15 2, kD HB20 0, kD HB20 1, kD HB20 2, kD HB2 0, kD HB2 1, kD HB2 2⟩) (h := ?_)
 clear hK9 K9
 refine sop (h := fun K9 hK9 => ?_)
 go_simp
 have jm14 := tt j9c j10c
 replace HR6 := kV jm14 HR6
 refine mQ (rby_any _ _ (h + h) (1 + h * h) _ HR10.out HR6.out HNZ.out ((sum_sizes HQ.out HQ.out).rm (by omega)) ((sum_sizes qs_one HSQ.out).rm (by omega))) fun w11 g11a A11a k11a c11a A11b k11b c11b HR11 j11c => ?_
 replace HB15 := kB HB15 j11c
 replace HB20 := kB HB20 j11c
 replace HB2 := kB HB2 j11c
 refine ckk hK9 (by exact ⟨kD HB15 0, kD HB15 1, kD HB15 2, kD HB20 0, kD HB20 1, kD HB20 2, kD HB2 0, kD HB2 1, kD HB2 2⟩) (h := ?_)
 clear hK9 K9
 refine sop (h := fun K9 hK9 => ?_)
 have jm15 := tt (tt jm13 j10c) j11c
 replace HB4 := kB (kO (kM HW22) (kB HB4 jm8) n4b20.out) jm15
 have t24h := kth 0 3 HB4
 refine smw 40 (w.heap.size + 1) 0 (ht := by exact t24h) (h := ?_)
 obtain ⟨W25, HW25⟩ : ∃ W, Hid (W = w11.setCells (w.heap.size + 1) 0 [.bool g9a, .slice A9a k9a c9a, .slice A9b k9b c9b]) := ⟨_, rfl⟩
 have TW25 := kN (kM HW25) HB4 rfl rfl
 replace HB4 := kPf (kM HW25) HB4 rfl
 rw [← HW25.out]
 replace HB15 := kO (kM HW25) HB15 n4b15.out.symm
 replace HB20 := kO (kM HW25) HB20 n4b20.out.symm
 replace HB2 := kO (kM HW25) HB2 n2b4.out
 refine ckk hK9 (by exact ⟨kD HB15 0, kD HB15 1, kD HB15 2, kD HB20 0, kD HB20 1, kD HB20 2, kD HB2 0, kD HB2 1, kD HB2 2⟩) (h := ?_)
 clear hK9 K9 t24h
 refine sop (h := fun K9 hK9 => ?_)
 replace HB6 := kO (kM HW25) (kB (kO (kM HW22) (kB HB6 jm8) n6b20.out) jm15) n4b6.out.symm
 have t26h := kth 0 3 HB6
 refine smw 40 (w.heap.size + 2) 0 (ht := by exact t26h) (h := ?_)
 obtain ⟨W27, HW27⟩ : ∃ W, Hid (W = W25.setCells (w.heap.size + 2) 0 [.bool g11a, .slice A11a k11a c11a, .slice A11b k11b c11b]) := ⟨_, rfl⟩
 have TW27 := kN (kM HW27) HB6 rfl rfl
 replace HB6 := kPf (kM HW27) HB6 rfl
 rw [← HW27.out]
 replace HB15 := kO (kM HW27) HB15 n6b15.out.symm
 replace HB20 := kO (kM HW27) HB20 n6b20.out.symm
 replace HB2 := kO (kM HW27) HB2 n2b6.out
 refine ckk hK9 (by exact ⟨kD HB15 0, kD HB15 1, kD HB15 2, kD HB20 0, kD HB20 1, kD HB20 2, kD HB2 0, kD HB2 1, kD HB2 2⟩) (h := ?_)
 clear hK9 K9 t26h
 refine tk0 (h := ?_)
 refine seq_done (by kernel_rfl) ?_
 go_wp2_with fail
 replace HB4 := kO (kM HW27) HB4 n4b6.out
 have jm16 := tt j10c j11c
 replace HR9 := kW TW27 (kW TW25 (kV jm16 HR9))
 replace HR11 := kW TW27 (kW TW25 HR11)
 replace HBw := kS (kM HW27) l6b (kS (kM HW25) l4b (kU (kS (kM HW22) l20b (kU HBw jm8)) jm15))
 exact bodyPost_ret (v := .tuple #[.agg #[.bool g9a, .slice A9a k9a c9a, .slice A9b k9b c9b], .agg #[.bool g11a, .slice A11a k11a c11a, .slice A11b k11b c11b], .int .i64 0]) (results_cct rfl (by rfl) (blk_all HB4.out) Tryz.underlying40 rfl (by kernel_rfl) (by rfl) (blk_all HB6.out) Tryz.underlying40 rfl (by kernel_rfl) (by rfl)) rfl ⟨⟨_, _, rfl, HR9.out, HR11.out⟩, HBw.out⟩
def AngOk (h : Rat) : Prop := 0 < h ∧ h ≤ 1
instance decAngOk (h : Rat) : Decidable (AngOk h) := by unfold AngOk; infer_instance
theorem qs_zero : QS 1 (0 : Rat) := ⟨by show dl 0 ≤ 1; exact Nat.le_trans (dl_mono (Nat.zero_le 1)) (by rw [dl_one]; exact Nat.le_refl _), by show dl 1 ≤ 1; rw [dl_one]; exact Nat.le_refl _⟩
def angC (h : Rat) : Rat := if AngOk h then (1 - h * h) / (1 + h * h) else 0
def angS (h : Rat) : Rat := if AngOk h then (h + h) / (1 + h * h) else 0
def angE (h : Rat) : Int := if AngOk h then 0 else 1
theorem sgn_pos (x : Rat) : 0 < Int.sign x.num ↔ 0 < x := by
 rw [← num_pos']
 constructor
 ·intro h; refine Int.not_le.1 fun h0 => ?_; have := Int.sign_nonpos_iff.2 h0; omega
 ·intro h; rw [Int.sign_eq_one_of_pos h]; decide
theorem ang_cases (h : Rat) : (¬ 0 < Int.sign h.num ∧ ¬ AngOk h) ∨ (Int.sign h.num = 1 ∧ Int.sign (h - 1).num = 1 ∧ ¬ AngOk h) ∨ (Int.sign h.num = 1 ∧ ¬ 0 < Int.sign (h - 1).num ∧ AngOk h) := by
 obtain ⟨a1, a2, a3⟩ := num_sign h
 obtain ⟨b1, b2, b3⟩ := num_sign (h - 1)
 have key := sgn_pos
 unfold AngOk
 by_cases k : 0 < h
 ·by_cases m : 0 < h - 1
  ·exact .inr (.inl ⟨a1.2 k, b1.2 m, by grind⟩)
  ·exact .inr (.inr ⟨a1.2 k, by rw [key]; exact m, k, by grind⟩)
 ·exact .inl ⟨by rw [key]; exact k, by grind⟩
theorem angle_all (v : Value) (h : Rat) (w : World) (hv : RdQ w v h) (hq : QS 10000 h) : Calls Tryz.prog 37 #[v] w fun e w' => (∃ v1 v2, e = .returned (.tuple #[v1, v2, .int .i64 (angE h)]) ∧ RdQ w' v1 (angC h) ∧ RdQ w' v2 (angS h)) ∧ Below w.heap.size w w' := by
 unfold angE angC angS
 rcases ang_cases h with ⟨h1, h2⟩ | ⟨h1, h2, h3⟩ | ⟨h1, h2, h3⟩
 ·simp only [if_neg h2]; exact angle_1 v h w hv hq _ rfl h1
 ·simp only [if_neg h3]; exact angle_2 v h w hv hq h1 h2
 ·simp only [if_pos h3]; exact angle_3 v h w hv hq h1 _ rfl h2
theorem angle_is (v : Value) (h : Rat) (a : Int) (w : World) (hv : RdQ w v h) (hq : QS 10000 h) (ha : angE h = a) : Calls Tryz.prog 37 #[v] w fun e w' => (∃ v1 v2, e = .returned (.tuple #[v1, v2, .int .i64 a]) ∧ RdQ w' v1 (angC h) ∧ RdQ w' v2 (angS h)) ∧ Below w.heap.size w w' := ha ▸ angle_all v h w hv hq
theorem rangle_all (v : Value) (h : Rat) (w : World) (hv : RdF w v h) (hq : QS 10000 h) : Calls Tryz.prog 38 #[v] w fun e w' => (∃ v1 v2, e = .returned (.tuple #[v1, v2, .int .i64 (angE h)]) ∧ RdF w' v1 (angC h) ∧ RdF w' v2 (angS h)) ∧ Below w.heap.size w w' := by
 unfold angE angC angS
 rcases ang_cases h with ⟨h1, h2⟩ | ⟨h1, h2, h3⟩ | ⟨h1, h2, h3⟩
 ·simp only [if_neg h2]; exact rangle_1 v h w hv hq _ rfl h1
 ·simp only [if_neg h3]; exact rangle_2 v h w hv hq h1 h2
 ·simp only [if_pos h3]; exact rangle_3 v h w hv hq h1 _ rfl h2
theorem rangle_is (v : Value) (h : Rat) (a : Int) (w : World) (hv : RdF w v h) (hq : QS 10000 h) (ha : angE h = a) : Calls Tryz.prog 38 #[v] w fun e w' => (∃ v1 v2, e = .returned (.tuple #[v1, v2, .int .i64 a]) ∧ RdF w' v1 (angC h) ∧ RdF w' v2 (angS h)) ∧ Below w.heap.size w w' := ha ▸ rangle_all v h w hv hq
theorem angS_pos {h : Rat} (k : AngOk h) : angS h ≠ 0 := by
 obtain ⟨h1, h2⟩ := k
 unfold angS
 rw [if_pos ⟨h1, h2⟩]
 have hs := sq_nn' h
 intro e
 rw [Rat.div_def] at e
 rcases Rat.mul_eq_zero.1 e with e | e
 ·grind
 ·have h2 : (1 + h * h) * (1 + h * h)⁻¹ = 1 := Rat.mul_inv_cancel _ (by grind)
  rw [e] at h2; grind
theorem angC_size {k : Nat} {h : Rat} (hq : QS k h) (hk : 1 ≤ k) : QS (6 * k + 3) (angC h) := by
 unfold angC
 split
 ·exact ((sub_sizes qs_one (hq.mul hq)).div (sum_sizes qs_one (hq.mul hq)) (by have := sq_nn' h; grind)).up (by omega)
 ·exact qs_zero.up (by omega)
theorem angS_size {k : Nat} {h : Rat} (hq : QS k h) (hk : 1 ≤ k) : QS (6 * k + 3) (angS h) := by
 unfold angS
 split
 ·exact ((sum_sizes hq hq).div (sum_sizes qs_one (hq.mul hq)) (by have := sq_nn' h; grind)).up (by omega)
 ·exact qs_zero.up (by omega)
def PieOk (x h : Rat) : Prop := 0 < x ∧ AngOk h
instance decPieOk (x h : Rat) : Decidable (PieOk x h) := by unfold PieOk; infer_instance
def pieV (x h : Rat) : Rat := if PieOk x h then x / angS h else 0
def pieE (x h : Rat) : Int := if PieOk x h then 0 else 1
theorem piece_1 (v u : Value) (x h : Rat) (w : World) (hv : RdQ w v x) (hu : RdQ w u h) (hq : QS 1000 x) (hq1 : QS 10000 h) (sw ae : Int) (hsw : Int.sign x.num = sw) (ksw : ¬ 0 < sw) (hae : angE h = ae) :
  Calls Tryz.prog 39 #[v, u] w fun e w' => (∃ v', e = .returned (.tuple #[v', .int .i64 1]) ∧ RdQ w' v' (0)) ∧ Below w.heap.size w w' := by
 have HQ := h0d hq
 have HQ1 := h0d hq1
 have HSW := h0d hsw
 have HAE := h0d hae
 have kle : sw ≤ 0 := by omega
 clear hq hq1 hsw hae
 obtain ⟨gp0a, Ap0a, kp0a, cp0a, Ap0b, kp0b, cp0b, rfl, hv⟩ := hv.open
 have HX0 := h0d hv
 clear hv
 obtain ⟨gp1a, Ap1a, kp1a, cp1a, Ap1b, kp1b, cp1b, rfl, hu⟩ := hu.open
 have HX1 := h0d hu
 clear hu
 go_enter Tryz.func39, Tryz.ntmps39
 obtain ⟨W1, HW1, HB2, s1w, j1⟩ := st_al0 w #[.bool gp0a, .slice Ap0a kp0a cp0a, .slice Ap0b kp0b cp0b] 32
 have HBw := h0d j1
 obtain ⟨W3, HW3, HB4, s3w, j2⟩ := st_alk 1 2 #[.bool gp1a, .slice Ap1a kp1a cp1a, .slice Ap1b kp1b cp1b] 32 s1w rfl
 obtain ⟨W5, HW5, HB6, s5w, j3⟩ := st_alk 2 3 #[.bool false, .slice none 0 0, .slice none 0 0] 32 s3w rfl
 have l6b : Hid (w.heap.size ≤ w.heap.size + 2) := by show _ ≤ _; omega
 go_wp2_with fail
 rw [← HW1.out, ← HW3.out, ← HW5.out]
 have jm1 := tt j2 j3
 replace HBw := kU HBw jm1
 replace HX1 := kV HBw.out HX1
 refine (angle_is _ h ae _ HX1.out HQ1.out HAE.out).mono ?_
 rintro e w1 ⟨⟨vx, vy, rfl, hr, hr2⟩, j1c⟩
 obtain ⟨g1xa, A1xa, k1xa, c1xa, A1xb, k1xb, c1xb, rfl, hr⟩ := hr.open
 obtain ⟨g1ya, A1ya, k1ya, c1ya, A1yb, k1yb, c1yb, rfl, hr2⟩ := hr2.open
 have HR1 := h0d hr
 have HR1b := h0d hr2
 clear hr2
 clear hr
 obtain ⟨W7, HW7, HB8, s7w, j4⟩ := st_al0 w1 #[.bool g1xa, .slice A1xa k1xa c1xa, .slice A1xb k1xb c1xb] 32
 obtain ⟨W9, HW9, HB10, s9w, j5⟩ := st_alk 1 2 #[.bool g1ya, .slice A1ya k1ya c1ya, .slice A1yb k1yb c1yb] 32 s7w rfl
 have jm2 := tt (tt (tt jm1 j1c) j4) j5
 replace HB2 := kB HB2 jm2
 have c11 := kC HB2 0 rfl
 have c12 := kC HB2 1 rfl
 have c13 := kC HB2 2 rfl
 rw [HW9.out, HW7.out] at c11
 rw [HW9.out, HW7.out] at c12
 rw [HW9.out, HW7.out] at c13
 go_wp2_with fail
 rw [← HW7.out, ← HW9.out]
 clear c11 c12 c13
 have jm3 := tt (tt j1c j4) j5
 replace HBw := kU HBw jm3
 replace HX0 := kV HBw.out HX0
 refine mV (sign_is _ x sw _ HX0.out HSW.out) fun w2 j2c => ?_
 have jm4 := tt jm3 j2c
 replace HB6 := kB HB6 jm4
 have t14h := kth 0 3 HB6
 obtain ⟨W15, HW15⟩ : ∃ W, Hid (W = w2.setCells (w.heap.size + 2) 0 [.bool false, .slice none 0 0, .slice none 0 0]) := ⟨_, rfl⟩
 replace HB6 := kPf (kM HW15) HB6 rfl
 go_wp2_with (refine smd 32 (w.heap.size + 2) 0 (ht := by exact t14h) (h := ?_))
 rw [← HW15.out]
 clear t14h
 replace HBw := kS (kM HW15) l6b (kU HBw j2c)
 exact bodyPost_ret (results_cell_tmp rfl (by rfl) (blk_all HB6.out) Tryz.underlying32 rfl (by kernel_rfl)) rfl ⟨⟨_, rfl, RdQ.nil0 _⟩, HBw.out⟩
theorem piece_2 (v u : Value) (x h : Rat) (w : World) (hv : RdQ w v x) (hu : RdQ w u h) (hq : QS 1000 x) (hq1 : QS 10000 h) (hae : angE h = 1) (hsw : Int.sign x.num = 1) :
  Calls Tryz.prog 39 #[v, u] w fun e w' => (∃ v', e = .returned (.tuple #[v', .int .i64 1]) ∧ RdQ w' v' (0)) ∧ Below w.heap.size w w' := by
 have HQ := h0d hq
 have HQ1 := h0d hq1
 have HAE := h0d hae
 have HSW := h0d hsw
 clear hq hq1 hae hsw
 obtain ⟨gp0a, Ap0a, kp0a, cp0a, Ap0b, kp0b, cp0b, rfl, hv⟩ := hv.open
 have HX0 := h0d hv
 clear hv
 obtain ⟨gp1a, Ap1a, kp1a, cp1a, Ap1b, kp1b, cp1b, rfl, hu⟩ := hu.open
 have HX1 := h0d hu
 clear hu
 go_enter Tryz.func39, Tryz.ntmps39
 obtain ⟨W1, HW1, HB2, s1w, j1⟩ := st_al0 w #[.bool gp0a, .slice Ap0a kp0a cp0a, .slice Ap0b kp0b cp0b] 32
 have HBw := h0d j1
 obtain ⟨W3, HW3, HB4, s3w, j2⟩ := st_alk 1 2 #[.bool gp1a, .slice Ap1a kp1a cp1a, .slice Ap1b kp1b cp1b] 32 s1w rfl
 obtain ⟨W5, HW5, HB6, s5w, j3⟩ := st_alk 2 3 #[.bool false, .slice none 0 0, .slice none 0 0] 32 s3w rfl
 have l6b : Hid (w.heap.size ≤ w.heap.size + 2) := by show _ ≤ _; omega
 go_wp2_with fail
 rw [← HW1.out, ← HW3.out, ← HW5.out]
 have jm1 := tt j2 j3
 replace HBw := kU HBw jm1
 replace HX1 := kV HBw.out HX1
 refine (angle_is _ h 1 _ HX1.out HQ1.out HAE.out).mono ?_
 rintro e w1 ⟨⟨vx, vy, rfl, hr, hr2⟩, j1c⟩
 obtain ⟨g1xa, A1xa, k1xa, c1xa, A1xb, k1xb, c1xb, rfl, hr⟩ := hr.open
 obtain ⟨g1ya, A1ya, k1ya, c1ya, A1yb, k1yb, c1yb, rfl, hr2⟩ := hr2.open
 have HR1 := h0d hr
 have HR1b := h0d hr2
 clear hr2
 clear hr
 obtain ⟨W7, HW7, HB8, s7w, j4⟩ := st_al0 w1 #[.bool g1xa, .slice A1xa k1xa c1xa, .slice A1xb k1xb c1xb] 32
 obtain ⟨W9, HW9, HB10, s9w, j5⟩ := st_alk 1 2 #[.bool g1ya, .slice A1ya k1ya c1ya, .slice A1yb k1yb c1yb] 32 s7w rfl
 have jm2 := tt (tt (tt jm1 j1c) j4) j5
 replace HB2 := kB HB2 jm2
 have c11 := kC HB2 0 rfl
 have c12 := kC HB2 1 rfl
 have c13 := kC HB2 2 rfl
 rw [HW9.out, HW7.out] at c11
 rw [HW9.out, HW7.out] at c12
 rw [HW9.out, HW7.out] at c13
 go_wp2_with fail
 rw [← HW7.out, ← HW9.out]
 clear c11 c12 c13
 have jm3 := tt (tt j1c j4) j5
 replace HBw := kU HBw jm3
 replace HX0 := kV HBw.out HX0
 refine mV (sign_is _ x 1 _ HX0.out HSW.out) fun w2 j2c => ?_
 have jm4 := tt jm3 j2c
 replace HB6 := kB HB6 jm4
 have t14h := kth 0 3 HB6
 obtain ⟨W15, HW15⟩ : ∃ W, Hid (W = w2.setCells (w.heap.size + 2) 0 [.bool false, .slice none 0 0, .slice none 0 0]) := ⟨_, rfl⟩
 replace HB6 := kPf (kM HW15) HB6 rfl
 go_wp2_with (refine smd 32 (w.heap.size + 2) 0 (ht := by exact t14h) (h := ?_))
 rw [← HW15.out]
 clear t14h
 replace HBw := kS (kM HW15) l6b (kU HBw j2c)
 exact bodyPost_ret (results_cell_tmp rfl (by rfl) (blk_all HB6.out) Tryz.underlying32 rfl (by kernel_rfl)) rfl ⟨⟨_, rfl, RdQ.nil0 _⟩, HBw.out⟩
theorem piece_3 (v u : Value) (x h : Rat) (w : World) (hv : RdQ w v x) (hu : RdQ w u h) (hq : QS 1000 x) (hq1 : QS 10000 h) (hae : angE h = 0) (hsw : Int.sign x.num = 1) (hnz : angS h ≠ 0) :
  Calls Tryz.prog 39 #[v, u] w fun e w' => (∃ v', e = .returned (.tuple #[v', .int .i64 0]) ∧ RdQ w' v' (x / angS h)) ∧ Below w.heap.size w w' := by
 have HQ := h0d hq
 have HQ1 := h0d hq1
 have HAE := h0d hae
 have HSW := h0d hsw
 have HNZ := h0d hnz
 have HAS := h0d (angS_size hq1 (by omega))
 clear hq hq1 hae hsw hnz
 obtain ⟨gp0a, Ap0a, kp0a, cp0a, Ap0b, kp0b, cp0b, rfl, hv⟩ := hv.open
 have HX0 := h0d hv
 clear hv
 obtain ⟨gp1a, Ap1a, kp1a, cp1a, Ap1b, kp1b, cp1b, rfl, hu⟩ := hu.open
 have HX1 := h0d hu
 clear hu
 go_enter Tryz.func39, Tryz.ntmps39
 obtain ⟨W1, HW1, HB2, s1w, j1⟩ := st_al0 w #[.bool gp0a, .slice Ap0a kp0a cp0a, .slice Ap0b kp0b cp0b] 32
 have HBw := h0d j1
 obtain ⟨W3, HW3, HB4, s3w, j2⟩ := st_alk 1 2 #[.bool gp1a, .slice Ap1a kp1a cp1a, .slice Ap1b kp1b cp1b] 32 s1w rfl
 obtain ⟨W5, HW5, HB6, s5w, j3⟩ := st_alk 2 3 #[.bool false, .slice none 0 0, .slice none 0 0] 32 s3w rfl
 have l6b : Hid (w.heap.size ≤ w.heap.size + 2) := by show _ ≤ _; omega
 go_wp2_with fail
 rw [← HW1.out, ← HW3.out, ← HW5.out]
 have jm1 := tt j2 j3
 replace HBw := kU HBw jm1
 replace HX1 := kV HBw.out HX1
 refine (angle_is _ h 0 _ HX1.out HQ1.out HAE.out).mono ?_
 rintro e w1 ⟨⟨vx, vy, rfl, hr, hr2⟩, j1c⟩
 obtain ⟨g1xa, A1xa, k1xa, c1xa, A1xb, k1xb, c1xb, rfl, hr⟩ := hr.open
 obtain ⟨g1ya, A1ya, k1ya, c1ya, A1yb, k1yb, c1yb, rfl, hr2⟩ := hr2.open
 have HR1 := h0d hr
 have HR1b := h0d hr2
 clear hr2
 clear hr
 obtain ⟨W7, HW7, HB8, s7w, j4⟩ := st_al0 w1 #[.bool g1xa, .slice A1xa k1xa c1xa, .slice A1xb k1xb c1xb] 32
 obtain ⟨W9, HW9, HB10, s9w, j5⟩ := st_alk 1 2 #[.bool g1ya, .slice A1ya k1ya c1ya, .slice A1yb k1yb c1yb] 32 s7w rfl
 have jm2 := tt (tt (tt jm1 j1c) j4) j5
 replace HB2 := kB HB2 jm2
 have c11 := kC HB2 0 rfl
 have c12 := kC HB2 1 rfl
 have c13 := kC HB2 2 rfl
 rw [HW9.out, HW7.out] at c11
 rw [HW9.out, HW7.out] at c12
 rw [HW9.out, HW7.out] at c13
 go_wp2_with fail
 rw [← HW7.out, ← HW9.out]
 clear c11 c12 c13
 have jm3 := tt (tt j1c j4) j5
 replace HBw := kU HBw jm3
 replace HX0 := kV HBw.out HX0
 refine mV (sign_is _ x 1 _ HX0.out HSW.out) fun w2 j2c => ?_
 replace HB2 := kB HB2 j2c
 have c14 := kC HB2 0 rfl
 have c15 := kC HB2 1 rfl
 have c16 := kC HB2 2 rfl
 replace HB10 := kB HB10 j2c
 have c17 := kC HB10 0 rfl
 have c18 := kC HB10 1 rfl
 have c19 := kC HB10 2 rfl
 go_wp2_with fail
 clear c14 c15 c16 c17 c18 c19
 replace HX0 := kV j2c HX0
 have jm4 := tt (tt j4 j5) j2c
 replace HR1b := kV jm4 HR1b
 refine mQ (ratioB_any _ _ x (angS h) _ HX0.out HR1b.out HNZ.out (HQ.out.up (by omega)) (HAS.out.up (by omega))) fun w3 g3a A3a k3a c3a A3b k3b c3b HR3 j3c => ?_
 have jm5 := tt (tt jm3 j2c) j3c
 replace HB6 := kB HB6 jm5
 have t20h := kth 0 3 HB6
 obtain ⟨W21, HW21⟩ : ∃ W, Hid (W = w3.setCells (w.heap.size + 2) 0 [.bool g3a, .slice A3a k3a c3a, .slice A3b k3b c3b]) := ⟨_, rfl⟩
 have TW21 := kN (kM HW21) HB6 rfl rfl
 replace HB6 := kPf (kM HW21) HB6 rfl
 go_wp2_with (refine smd 32 (w.heap.size + 2) 0 (ht := by exact t20h) (h := ?_))
 rw [← HW21.out]
 clear t20h
 replace HR3 := kW TW21 HR3
 have jm6 := tt j2c j3c
 replace HBw := kS (kM HW21) l6b (kU HBw jm6)
 exact bodyPost_ret (results_cell_tmp rfl (by rfl) (blk_all HB6.out) Tryz.underlying32 rfl (by kernel_rfl)) rfl ⟨⟨_, rfl, HR3.out⟩, HBw.out⟩
theorem rpiece_1 (v u : Value) (x h : Rat) (w : World) (hv : RdF w v x) (hu : RdF w u h) (hq : QS 1000 x) (hq1 : QS 10000 h) (sw ae : Int) (hsw : Int.sign x.num = sw) (ksw : ¬ 0 < sw) (hae : angE h = ae) (hae0 : ae = 0) :
  Calls Tryz.prog 40 #[v, u] w fun e w' => (∃ v', e = .returned (.tuple #[v', .int .i64 1]) ∧ RdF w' v' (0)) ∧ Below w.heap.size w w' := by
 have HQ := h0d hq
 have HQ1 := h0d hq1
 have HSW := h0d hsw
 have HAE := h0d hae
 rw [hae0] at HAE
 have kle : sw ≤ 0 := by omega
 clear hq hq1 hsw hae
 obtain ⟨gp0a, Ap0a, kp0a, cp0a, Ap0b, kp0b, cp0b, rfl, hv⟩ := hv.open
 have HX0 := h0d hv
 clear hv
 obtain ⟨gp1a, Ap1a, kp1a, cp1a, Ap1b, kp1b, cp1b, rfl, hu⟩ := hu.open
 have HX1 := h0d hu
 clear hu
 go_enter Tryz.func40, Tryz.ntmps40
 obtain ⟨W1, HW1, HB2, s1w, j1⟩ := st_al0 w #[.bool gp0a, .slice Ap0a kp0a cp0a, .slice Ap0b kp0b cp0b] 40
 have HBw := h0d j1
 obtain ⟨W3, HW3, HB4, s3w, j2⟩ := st_alk 1 2 #[.bool gp1a, .slice Ap1a kp1a cp1a, .slice Ap1b kp1b cp1b] 40 s1w rfl
 obtain ⟨W5, HW5, HB6, s5w, j3⟩ := st_alk 2 3 #[.bool false, .slice none 0 0, .slice none 0 0] 40 s3w rfl
 have l6b : Hid (w.heap.size ≤ w.heap.size + 2) := by show _ ≤ _; omega
 go_wp2_with fail
 rw [← HW1.out, ← HW3.out, ← HW5.out]
 have jm1 := tt j2 j3
 replace HBw := kU HBw jm1
 replace HX1 := kV HBw.out HX1
 refine (rangle_is _ h 0 _ HX1.out HQ1.out HAE.out).mono ?_
 rintro e w1 ⟨⟨vx, vy, rfl, hr, hr2⟩, j1c⟩
 obtain ⟨g1xa, A1xa, k1xa, c1xa, A1xb, k1xb, c1xb, rfl, hr⟩ := hr.open
 obtain ⟨g1ya, A1ya, k1ya, c1ya, A1yb, k1yb, c1yb, rfl, hr2⟩ := hr2.open
 have HR1 := h0d hr
 have HR1b := h0d hr2
 clear hr2
 clear hr
 obtain ⟨W7, HW7, HB8, s7w, j4⟩ := st_al0 w1 #[.bool g1xa, .slice A1xa k1xa c1xa, .slice A1xb k1xb c1xb] 40
 obtain ⟨W9, HW9, HB10, s9w, j5⟩ := st_alk 1 2 #[.bool g1ya, .slice A1ya k1ya c1ya, .slice A1yb k1yb c1yb] 40 s7w rfl
 have jm2 := tt (tt (tt jm1 j1c) j4) j5
 replace HB2 := kB HB2 jm2
 have c11 := kC HB2 0 rfl
 have c12 := kC HB2 1 rfl
 have c13 := kC HB2 2 rfl
 rw [HW9.out, HW7.out] at c11
 rw [HW9.out, HW7.out] at c12
 rw [HW9.out, HW7.out] at c13
 go_wp2_with fail
 rw [← HW7.out, ← HW9.out]
 clear c11 c12 c13
 have jm3 := tt (tt j1c j4) j5
 replace HBw := kU HBw jm3
 replace HX0 := kV HBw.out HX0
 refine mV (rsign_is _ x sw _ HX0.out HSW.out) fun w2 j2c => ?_
 go_wp2_with fail
 refine mQ (r5zero_any _) fun w3 g3a A3a k3a c3a A3b k3b c3b HR3 j3c => ?_
 have jm4 := tt (tt jm3 j2c) j3c
 replace HB6 := kB HB6 jm4
 have t14h := kth 0 3 HB6
 obtain ⟨W15, HW15⟩ : ∃ W, Hid (W = w3.setCells (w.heap.size + 2) 0 [.bool g3a, .slice A3a k3a c3a, .slice A3b k3b c3b]) := ⟨_, rfl⟩
 have TW15 := kN (kM HW15) HB6 rfl rfl
 replace HB6 := kPf (kM HW15) HB6 rfl
 go_wp2_with (refine smd 40 (w.heap.size + 2) 0 (ht := by exact t14h) (h := ?_))
 rw [← HW15.out]
 clear t14h
 replace HR3 := kW TW15 HR3
 have jm5 := tt j2c j3c
 replace HBw := kS (kM HW15) l6b (kU HBw jm5)
 exact bodyPost_ret (results_cell_tmp rfl (by rfl) (blk_all HB6.out) Tryz.underlying40 rfl (by kernel_rfl)) rfl ⟨⟨_, rfl, HR3.out⟩, HBw.out⟩
theorem rpiece_2 (v u : Value) (x h : Rat) (w : World) (hv : RdF w v x) (hu : RdF w u h) (hq : QS 1000 x) (hq1 : QS 10000 h) (hae : angE h = 1) :
  Calls Tryz.prog 40 #[v, u] w fun e w' => (∃ v', e = .returned (.tuple #[v', .int .i64 1]) ∧ RdF w' v' (0)) ∧ Below w.heap.size w w' := by
 have HQ := h0d hq
 have HQ1 := h0d hq1
 have HAE := h0d hae
 clear hq hq1 hae
 obtain ⟨gp0a, Ap0a, kp0a, cp0a, Ap0b, kp0b, cp0b, rfl, hv⟩ := hv.open
 have HX0 := h0d hv
 clear hv
 obtain ⟨gp1a, Ap1a, kp1a, cp1a, Ap1b, kp1b, cp1b, rfl, hu⟩ := hu.open
 have HX1 := h0d hu
 clear hu
 go_enter Tryz.func40, Tryz.ntmps40
 obtain ⟨W1, HW1, HB2, s1w, j1⟩ := st_al0 w #[.bool gp0a, .slice Ap0a kp0a cp0a, .slice Ap0b kp0b cp0b] 40
 have HBw := h0d j1
 obtain ⟨W3, HW3, HB4, s3w, j2⟩ := st_alk 1 2 #[.bool gp1a, .slice Ap1a kp1a cp1a, .slice Ap1b kp1b cp1b] 40 s1w rfl
 obtain ⟨W5, HW5, HB6, s5w, j3⟩ := st_alk 2 3 #[.bool false, .slice none 0 0, .slice none 0 0] 40 s3w rfl
 have l6b : Hid (w.heap.size ≤ w.heap.size + 2) := by show _ ≤ _; omega
 go_wp2_with fail
 rw [← HW1.out, ← HW3.out, ← HW5.out]
 have jm1 := tt j2 j3
 replace HBw := kU HBw jm1
 replace HX1 := kV HBw.out HX1
 refine (rangle_is _ h 1 _ HX1.out HQ1.out HAE.out).mono ?_
 rintro e w1 ⟨⟨vx, vy, rfl, hr, hr2⟩, j1c⟩
 obtain ⟨g1xa, A1xa, k1xa, c1xa, A1xb, k1xb, c1xb, rfl, hr⟩ := hr.open
 obtain ⟨g1ya, A1ya, k1ya, c1ya, A1yb, k1yb, c1yb, rfl, hr2⟩ := hr2.open
 have HR1 := h0d hr
 have HR1b := h0d hr2
 clear hr2
 clear hr
 obtain ⟨W7, HW7, HB8, s7w, j4⟩ := st_al0 w1 #[.bool g1xa, .slice A1xa k1xa c1xa, .slice A1xb k1xb c1xb] 40
 obtain ⟨W9, HW9, HB10, s9w, j5⟩ := st_alk 1 2 #[.bool g1ya, .slice A1ya k1ya c1ya, .slice A1yb k1yb c1yb] 40 s7w rfl
 go_wp2_with fail
 rw [← HW7.out, ← HW9.out]
 refine mQ (r5zero_any _) fun w2 g2a A2a k2a c2a A2b k2b c2b HR2 j2c => ?_
 have jm2 := tt (tt (tt j1c j4) j5) j2c
 replace HB6 := kB HB6 jm2
 have t11h := kth 0 3 HB6
 obtain ⟨W12, HW12⟩ : ∃ W, Hid (W = w2.setCells (w.heap.size + 2) 0 [.bool g2a, .slice A2a k2a c2a, .slice A2b k2b c2b]) := ⟨_, rfl⟩
 have TW12 := kN (kM HW12) HB6 rfl rfl
 replace HB6 := kPf (kM HW12) HB6 rfl
 go_wp2_with (refine smd 40 (w.heap.size + 2) 0 (ht := by exact t11h) (h := ?_))
 rw [← HW12.out]
 clear t11h
 replace HR2 := kW TW12 HR2
 replace HBw := kS (kM HW12) l6b (kU HBw jm2)
 exact bodyPost_ret (results_cell_tmp rfl (by rfl) (blk_all HB6.out) Tryz.underlying40 rfl (by kernel_rfl)) rfl ⟨⟨_, rfl, HR2.out⟩, HBw.out⟩
theorem rpiece_3 (v u : Value) (x h : Rat) (w : World) (hv : RdF w v x) (hu : RdF w u h) (hq : QS 1000 x) (hq1 : QS 10000 h) (hae : angE h = 0) (hsw : Int.sign x.num = 1) (hnz : angS h ≠ 0) :
  Calls Tryz.prog 40 #[v, u] w fun e w' => (∃ v', e = .returned (.tuple #[v', .int .i64 0]) ∧ RdF w' v' (x / angS h)) ∧ Below w.heap.size w w' := by
 have HQ := h0d hq
 have HQ1 := h0d hq1
 have HAE := h0d hae
 have HSW := h0d hsw
 have HNZ := h0d hnz
 have HAS := h0d (angS_size hq1 (by omega))
 clear hq hq1 hae hsw hnz
 obtain ⟨gp0a, Ap0a, kp0a, cp0a, Ap0b, kp0b, cp0b, rfl, hv⟩ := hv.open
 have HX0 := h0d hv
 clear hv
 obtain ⟨gp1a, Ap1a, kp1a, cp1a, Ap1b, kp1b, cp1b, rfl, hu⟩ := hu.open
 have HX1 := h0d hu
 clear hu
 go_enter Tryz.func40, Tryz.ntmps40
 obtain ⟨W1, HW1, HB2, s1w, j1⟩ := st_al0 w #[.bool gp0a, .slice Ap0a kp0a cp0a, .slice Ap0b kp0b cp0b] 40
 have HBw := h0d j1
 obtain ⟨W3, HW3, HB4, s3w, j2⟩ := st_alk 1 2 #[.bool gp1a, .slice Ap1a kp1a cp1a, .slice Ap1b kp1b cp1b] 40 s1w rfl
 obtain ⟨W5, HW5, HB6, s5w, j3⟩ := st_alk 2 3 #[.bool false, .slice none 0 0, .slice none 0 0] 40 s3w rfl
 have l6b : Hid (w.heap.size ≤ w.heap.size + 2) := by show _ ≤ _; omega
 go_wp2_with fail
 rw [← HW1.out, ← HW3.out, ← HW5.out]
 have jm1 := tt j2 j3
 replace HBw := kU HBw jm1
 replace HX1 := kV HBw.out HX1
 refine (rangle_is _ h 0 _ HX1.out HQ1.out HAE.out).mono ?_
 rintro e w1 ⟨⟨vx, vy, rfl, hr, hr2⟩, j1c⟩
 obtain ⟨g1xa, A1xa, k1xa, c1xa, A1xb, k1xb, c1xb, rfl, hr⟩ := hr.open
 obtain ⟨g1ya, A1ya, k1ya, c1ya, A1yb, k1yb, c1yb, rfl, hr2⟩ := hr2.open
 have HR1 := h0d hr
 have HR1b := h0d hr2
 clear hr2
 clear hr
 obtain ⟨W7, HW7, HB8, s7w, j4⟩ := st_al0 w1 #[.bool g1xa, .slice A1xa k1xa c1xa, .slice A1xb k1xb c1xb] 40
 obtain ⟨W9, HW9, HB10, s9w, j5⟩ := st_alk 1 2 #[.bool g1ya, .slice A1ya k1ya c1ya, .slice A1yb k1yb c1yb] 40 s7w rfl
 have jm2 := tt (tt (tt jm1 j1c) j4) j5
 replace HB2 := kB HB2 jm2
 have c11 := kC HB2 0 rfl
 have c12 := kC HB2 1 rfl
 have c13 := kC HB2 2 rfl
 rw [HW9.out, HW7.out] at c11
 rw [HW9.out, HW7.out] at c12
 rw [HW9.out, HW7.out] at c13
 go_wp2_with fail
 rw [← HW7.out, ← HW9.out]
 clear c11 c12 c13
 have jm3 := tt (tt j1c j4) j5
 replace HBw := kU HBw jm3
 replace HX0 := kV HBw.out HX0
 refine mV (rsign_is _ x 1 _ HX0.out HSW.out) fun w2 j2c => ?_
 replace HB2 := kB HB2 j2c
 have c14 := kC HB2 0 rfl
 have c15 := kC HB2 1 rfl
 have c16 := kC HB2 2 rfl
 replace HB10 := kB HB10 j2c
 have c17 := kC HB10 0 rfl
 have c18 := kC HB10 1 rfl
 have c19 := kC HB10 2 rfl
 go_wp2_with fail
 clear c14 c15 c16 c17 c18 c19
 replace HX0 := kV j2c HX0
 have jm4 := tt (tt j4 j5) j2c
 replace HR1b := kV jm4 HR1b
 refine mQ (rby_any _ _ x (angS h) _ HX0.out HR1b.out HNZ.out (HQ.out.rm (by omega)) (HAS.out.rm (by omega))) fun w3 g3a A3a k3a c3a A3b k3b c3b HR3 j3c => ?_
 have jm5 := tt (tt jm3 j2c) j3c
 replace HB6 := kB HB6 jm5
 have t20h := kth 0 3 HB6
 obtain ⟨W21, HW21⟩ : ∃ W, Hid (W = w3.setCells (w.heap.size + 2) 0 [.bool g3a, .slice A3a k3a c3a, .slice A3b k3b c3b]) := ⟨_, rfl⟩
 have TW21 := kN (kM HW21) HB6 rfl rfl
 replace HB6 := kPf (kM HW21) HB6 rfl
 go_wp2_with (refine smd 40 (w.heap.size + 2) 0 (ht := by exact t20h) (h := ?_))
 rw [← HW21.out]
 clear t20h
 replace HR3 := kW TW21 HR3
 have jm6 := tt j2c j3c
 replace HBw := kS (kM HW21) l6b (kU HBw jm6)
 exact bodyPost_ret (results_cell_tmp rfl (by rfl) (blk_all HB6.out) Tryz.underlying40 rfl (by kernel_rfl)) rfl ⟨⟨_, rfl, HR3.out⟩, HBw.out⟩
end Go.Proofs.YtodckaioeomccaaGreat
