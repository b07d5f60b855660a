/- Walks of directions: cosine, Turn, Re, Im. -/
import Derived.Test.YtodckaioeomccaaGreatPart28
namespace Go.Proofs.YtodckaioeomccaaGreat
open Go.RowKit Go.Proofs.S4P
set_option linter.unusedVariables false
set_option linter.unusedSimpArgs false
set_option maxRecDepth 100000
set_option maxHeartbeats 4000000
theorem sx_14 : Sx ⟨0, 1/4, 0, 0⟩ 0 1 0 0 4 1 := ⟨by decide, ⟨by decide +kernel, by decide +kernel, by decide +kernel, by decide +kernel⟩, ⟨dl_small (by decide), dl_small (by decide), dl_small (by decide), dl_small (by decide)⟩, dl_small (by decide)⟩
theorem part_14 (w : World) :
  Calls Tryz.prog 208 #[.int .i64 1, .int .u64 4] w fun e w' => (∃ v', e = .returned v' ∧ RdS w' v' (⟨0, 1/4, 0, 0⟩) (1)) ∧ Below w.heap.size w w' := by
 go_enter Tryz.func208, Tryz.ntmps208
 obtain ⟨W1, HW1, HB2, s1w, j1⟩ := st_al0 w #[.bool false, .slice none 0 0, .bool false, .slice none 0 0, .bool false, .slice none 0 0, .bool false, .slice none 0 0, .slice none 0 0] 30
 have l2b : Hid (w.heap.size ≤ w.heap.size) := by show _ ≤ _; omega
 have HBw := h0d j1
 obtain ⟨W3, HW3, HB4, s3w, j2⟩ := st_alk 1 2 #[.bool false, .slice none 0 0, .bool false, .slice none 0 0, .bool false, .slice none 0 0, .bool false, .slice none 0 0] 28 s1w rfl
 have n2b4 : Hid (w.heap.size ≠ w.heap.size + 1) := by show _ ≠ _; omega
 have l4b : Hid (w.heap.size ≤ w.heap.size + 1) := by show _ ≤ _; omega
 go_wp2_with fail
 rw [← HW1.out, ← HW3.out]
 refine mZ (of_any 1 _ (by omega) (by omega)) fun w1 g1a A1a k1a c1a HR1 j1c => ?_
 replace HB4 := kB HB4 j1c
 have t5h := kth 2 2 HB4
 obtain ⟨W6, HW6⟩ : ∃ W, Hid (W = w1.setCells (w.heap.size + 1) 2 [.bool g1a, .slice A1a k1a c1a]) := ⟨_, rfl⟩
 have TW6 := kN (kM HW6) HB4 rfl rfl
 replace HB4 := kP (ds := [.bool false, .slice none 0 0, .bool g1a, .slice A1a k1a c1a, .bool false, .slice none 0 0, .bool false, .slice none 0 0]) (kM HW6) HB4 rfl rfl
 go_wp2_with (refine smd 27 (w.heap.size + 1) 2 (ht := by exact t5h) (h := ?_))
 rw [← HW6.out]
 clear t5h
 obtain ⟨W7, hW7⟩ : ∃ W, W = W6.drew := ⟨_, rfl⟩
 have j3 : Below W6.heap.size W6 W7 := by rw [hW7]; exact (Below.refl _ _).drew
 replace HB4 := kB HB4 j3
 refine seq_start (S := fun w' => w'.cell? ⟨w.heap.size + 1, 0, none⟩ = some (.bool false) ∧ w'.cell? ⟨w.heap.size + 1, 1, none⟩ = some (.slice none 0 0) ∧ w'.cell? ⟨w.heap.size + 1, 2, none⟩ = some (.bool g1a) ∧ w'.cell? ⟨w.heap.size + 1, 3, none⟩ = some (.slice A1a k1a c1a) ∧ w'.cell? ⟨w.heap.size + 1, 4, none⟩ = some (.bool false) ∧ w'.cell? ⟨w.heap.size + 1, 5, none⟩ = some (.slice none 0 0) ∧ w'.cell? ⟨w.heap.size + 1, 6, none⟩ = some (.bool false) ∧ w'.cell? ⟨w.heap.size + 1, 7, none⟩ = some (.slice none 0 0)) (by kernel_rfl) (by kernel_rfl) (by rw [← hW7]; exact ⟨kD HB4 0, kD HB4 1, kD HB4 2, kD HB4 3, kD HB4 4, kD HB4 5, kD HB4 6, kD HB4 7⟩) ?_
 rw [← hW7]
 clear hW7
 iterate 2 refine tk0 (h := ?_)
 refine sop (h := fun K9 hK9 => ?_)
 go_simp
 refine mN (word_any 4 _ (by unfold B64; omega)) fun w2 A2 k2 c2 HR2 j2c => ?_
 replace HB4 := kB HB4 j2c
 refine ckk hK9 (by exact ⟨kD HB4 0, kD HB4 1, kD HB4 2, kD HB4 3, kD HB4 4, kD HB4 5, kD HB4 6, kD HB4 7⟩) (h := ?_)
 clear hK9 K9
 refine tk0 (h := ?_)
 refine sop (h := fun K9 hK9 => ?_)
 have jm1 := tt j2 j1c
 have jm2 := tt j3 j2c
 replace HB2 := kB (kO (kM HW6) (kB HB2 jm1) n2b4.out) jm2
 have t8h := kth 0 9 HB2
 refine smw 30 (w.heap.size) 0 (ht := by exact t8h) (h := ?_)
 obtain ⟨W9, HW9⟩ : ∃ W, Hid (W = w2.setCells (w.heap.size) 0 [.bool false, .slice none 0 0, .bool g1a, .slice A1a k1a c1a, .bool false, .slice none 0 0, .bool false, .slice none 0 0, .slice A2 k2 c2]) := ⟨_, rfl⟩
 have TW9 := kN (kM HW9) HB2 rfl rfl
 replace HB2 := kP (ds := [.bool false, .slice none 0 0, .bool g1a, .slice A1a k1a c1a, .bool false, .slice none 0 0, .bool false, .slice none 0 0, .slice A2 k2 c2]) (kM HW9) HB2 rfl rfl
 rw [← HW9.out]
 replace HB4 := kO (kM HW9) HB4 n2b4.out.symm
 refine ckk hK9 (by exact ⟨kD HB4 0, kD HB4 1, kD HB4 2, kD HB4 3, kD HB4 4, kD HB4 5, kD HB4 6, kD HB4 7⟩) (h := ?_)
 clear hK9 K9 t8h
 refine seq_done (by kernel_rfl) ?_
 go_wp2_with fail
 replace HR1 := kW TW9 (kV jm2 (kW TW6 HR1))
 replace HR2 := kW TW9 HR2
 replace HBw := kS (kM HW9) l2b (kU (kS (kM HW6) l4b (kU HBw jm1)) jm2)
 exact bodyPost_ret (results_cell rfl (by rfl) (blk_all HB2.out) Tryz.underlying30 rfl (by kernel_rfl)) rfl ⟨⟨_, rfl, (show RdS _ _ ⟨0, 1/4, 0, 0⟩ 1 from ⟨_, _, _, _, _, RdSn.mk (RdZ.nil0 _) HR1.out (RdZ.nil0 _) (RdZ.nil0 _) (show RdN _ _ (den1 4) from HR2.out), sx_14⟩)⟩, HBw.out⟩
theorem sx_34 : Sx ⟨0, 0, 0, 1/4⟩ 0 0 0 1 4 1 := ⟨by decide, ⟨by decide +kernel, by decide +kernel, by decide +kernel, by decide +kernel⟩, ⟨dl_small (by decide), dl_small (by decide), dl_small (by decide), dl_small (by decide)⟩, dl_small (by decide)⟩
theorem part_34 (w : World) :
  Calls Tryz.prog 208 #[.int .i64 3, .int .u64 4] w fun e w' => (∃ v', e = .returned v' ∧ RdS w' v' (⟨0, 0, 0, 1/4⟩) (1)) ∧ Below w.heap.size w w' := by
 go_enter Tryz.func208, Tryz.ntmps208
 obtain ⟨W1, HW1, HB2, s1w, j1⟩ := st_al0 w #[.bool false, .slice none 0 0, .bool false, .slice none 0 0, .bool false, .slice none 0 0, .bool false, .slice none 0 0, .slice none 0 0] 30
 have l2b : Hid (w.heap.size ≤ w.heap.size) := by show _ ≤ _; omega
 have HBw := h0d j1
 obtain ⟨W3, HW3, HB4, s3w, j2⟩ := st_alk 1 2 #[.bool false, .slice none 0 0, .bool false, .slice none 0 0, .bool false, .slice none 0 0, .bool false, .slice none 0 0] 28 s1w rfl
 have n2b4 : Hid (w.heap.size ≠ w.heap.size + 1) := by show _ ≠ _; omega
 have l4b : Hid (w.heap.size ≤ w.heap.size + 1) := by show _ ≤ _; omega
 go_wp2_with fail
 rw [← HW1.out, ← HW3.out]
 refine mZ (of_any 1 _ (by omega) (by omega)) fun w1 g1a A1a k1a c1a HR1 j1c => ?_
 replace HB4 := kB HB4 j1c
 have t5h := kth 6 2 HB4
 obtain ⟨W6, HW6⟩ : ∃ W, Hid (W = w1.setCells (w.heap.size + 1) 6 [.bool g1a, .slice A1a k1a c1a]) := ⟨_, rfl⟩
 have TW6 := kN (kM HW6) HB4 rfl rfl
 replace HB4 := kP (ds := [.bool false, .slice none 0 0, .bool false, .slice none 0 0, .bool false, .slice none 0 0, .bool g1a, .slice A1a k1a c1a]) (kM HW6) HB4 rfl rfl
 go_wp2_with (refine smd 27 (w.heap.size + 1) 6 (ht := by exact t5h) (h := ?_))
 rw [← HW6.out]
 clear t5h
 obtain ⟨W7, hW7⟩ : ∃ W, W = W6.drew := ⟨_, rfl⟩
 have j3 : Below W6.heap.size W6 W7 := by rw [hW7]; exact (Below.refl _ _).drew
 replace HB4 := kB HB4 j3
 refine seq_start (S := fun w' => w'.cell? ⟨w.heap.size + 1, 0, none⟩ = some (.bool false) ∧ w'.cell? ⟨w.heap.size + 1, 1, none⟩ = some (.slice none 0 0) ∧ w'.cell? ⟨w.heap.size + 1, 2, none⟩ = some (.bool false) ∧ w'.cell? ⟨w.heap.size + 1, 3, none⟩ = some (.slice none 0 0) ∧ w'.cell? ⟨w.heap.size + 1, 4, none⟩ = some (.bool false) ∧ w'.cell? ⟨w.heap.size + 1, 5, none⟩ = some (.slice none 0 0) ∧ w'.cell? ⟨w.heap.size + 1, 6, none⟩ = some (.bool g1a) ∧ w'.cell? ⟨w.heap.size + 1, 7, none⟩ = some (.slice A1a k1a c1a)) (by kernel_rfl) (by kernel_rfl) (by rw [← hW7]; exact ⟨kD HB4 0, kD HB4 1, kD HB4 2, kD HB4 3, kD HB4 4, kD HB4 5, kD HB4 6, kD HB4 7⟩) ?_
 rw [← hW7]
 clear hW7
 iterate 2 refine tk0 (h := ?_)
 refine sop (h := fun K9 hK9 => ?_)
 go_simp
 refine mN (word_any 4 _ (by unfold B64; omega)) fun w2 A2 k2 c2 HR2 j2c => ?_
 replace HB4 := kB HB4 j2c
 refine ckk hK9 (by exact ⟨kD HB4 0, kD HB4 1, kD HB4 2, kD HB4 3, kD HB4 4, kD HB4 5, kD HB4 6, kD HB4 7⟩) (h := ?_)
 clear hK9 K9
 refine tk0 (h := ?_)
 refine sop (h := fun K9 hK9 => ?_)
 have jm1 := tt j2 j1c
 have jm2 := tt j3 j2c
 replace HB2 := kB (kO (kM HW6) (kB HB2 jm1) n2b4.out) jm2
 have t8h := kth 0 9 HB2
 refine smw 30 (w.heap.size) 0 (ht := by exact t8h) (h := ?_)
 obtain ⟨W9, HW9⟩ : ∃ W, Hid (W = w2.setCells (w.heap.size) 0 [.bool false, .slice none 0 0, .bool false, .slice none 0 0, .bool false, .slice none 0 0, .bool g1a, .slice A1a k1a c1a, .slice A2 k2 c2]) := ⟨_, rfl⟩
 have TW9 := kN (kM HW9) HB2 rfl rfl
 replace HB2 := kP (ds := [.bool false, .slice none 0 0, .bool false, .slice none 0 0, .bool false, .slice none 0 0, .bool g1a, .slice A1a k1a c1a, .slice A2 k2 c2]) (kM HW9) HB2 rfl rfl
 rw [← HW9.out]
 replace HB4 := kO (kM HW9) HB4 n2b4.out.symm
 refine ckk hK9 (by exact ⟨kD HB4 0, kD HB4 1, kD HB4 2, kD HB4 3, kD HB4 4, kD HB4 5, kD HB4 6, kD HB4 7⟩) (h := ?_)
 clear hK9 K9 t8h
 refine seq_done (by kernel_rfl) ?_
 go_wp2_with fail
 replace HR1 := kW TW9 (kV jm2 (kW TW6 HR1))
 replace HR2 := kW TW9 HR2
 replace HBw := kS (kM HW9) l2b (kU (kS (kM HW6) l4b (kU HBw jm1)) jm2)
 exact bodyPost_ret (results_cell rfl (by rfl) (blk_all HB2.out) Tryz.underlying30 rfl (by kernel_rfl)) rfl ⟨⟨_, rfl, (show RdS _ _ ⟨0, 0, 0, 1/4⟩ 1 from ⟨_, _, _, _, _, RdSn.mk (RdZ.nil0 _) (RdZ.nil0 _) (RdZ.nil0 _) HR1.out (show RdN _ _ (den1 4) from HR2.out), sx_34⟩)⟩, HBw.out⟩
theorem sx_22 : Sx ⟨0, 0, 1/2, 0⟩ 0 0 1 0 2 1 := ⟨by decide, ⟨by decide +kernel, by decide +kernel, by decide +kernel, by decide +kernel⟩, ⟨dl_small (by decide), dl_small (by decide), dl_small (by decide), dl_small (by decide)⟩, dl_small (by decide)⟩
theorem part_22 (w : World) :
  Calls Tryz.prog 208 #[.int .i64 2, .int .u64 2] w fun e w' => (∃ v', e = .returned v' ∧ RdS w' v' (⟨0, 0, 1/2, 0⟩) (1)) ∧ Below w.heap.size w w' := by
 go_enter Tryz.func208, Tryz.ntmps208
 obtain ⟨W1, HW1, HB2, s1w, j1⟩ := st_al0 w #[.bool false, .slice none 0 0, .bool false, .slice none 0 0, .bool false, .slice none 0 0, .bool false, .slice none 0 0, .slice none 0 0] 30
 have l2b : Hid (w.heap.size ≤ w.heap.size) := by show _ ≤ _; omega
 have HBw := h0d j1
 obtain ⟨W3, HW3, HB4, s3w, j2⟩ := st_alk 1 2 #[.bool false, .slice none 0 0, .bool false, .slice none 0 0, .bool false, .slice none 0 0, .bool false, .slice none 0 0] 28 s1w rfl
 have n2b4 : Hid (w.heap.size ≠ w.heap.size + 1) := by show _ ≠ _; omega
 have l4b : Hid (w.heap.size ≤ w.heap.size + 1) := by show _ ≤ _; omega
 go_wp2_with fail
 rw [← HW1.out, ← HW3.out]
 refine mZ (of_any 1 _ (by omega) (by omega)) fun w1 g1a A1a k1a c1a HR1 j1c => ?_
 replace HB4 := kB HB4 j1c
 have t5h := kth 4 2 HB4
 obtain ⟨W6, HW6⟩ : ∃ W, Hid (W = w1.setCells (w.heap.size + 1) 4 [.bool g1a, .slice A1a k1a c1a]) := ⟨_, rfl⟩
 have TW6 := kN (kM HW6) HB4 rfl rfl
 replace HB4 := kP (ds := [.bool false, .slice none 0 0, .bool false, .slice none 0 0, .bool g1a, .slice A1a k1a c1a, .bool false, .slice none 0 0]) (kM HW6) HB4 rfl rfl
 go_wp2_with (refine smd 27 (w.heap.size + 1) 4 (ht := by exact t5h) (h := ?_))
 rw [← HW6.out]
 clear t5h
 obtain ⟨W7, hW7⟩ : ∃ W, W = W6.drew := ⟨_, rfl⟩
 have j3 : Below W6.heap.size W6 W7 := by rw [hW7]; exact (Below.refl _ _).drew
 replace HB4 := kB HB4 j3
 refine seq_start (S := fun w' => w'.cell? ⟨w.heap.size + 1, 0, none⟩ = some (.bool false) ∧ w'.cell? ⟨w.heap.size + 1, 1, none⟩ = some (.slice none 0 0) ∧ w'.cell? ⟨w.heap.size + 1, 2, none⟩ = some (.bool false) ∧ w'.cell? ⟨w.heap.size + 1, 3, none⟩ = some (.slice none 0 0) ∧ w'.cell? ⟨w.heap.size + 1, 4, none⟩ = some (.bool g1a) ∧ w'.cell? ⟨w.heap.size + 1, 5, none⟩ = some (.slice A1a k1a c1a) ∧ w'.cell? ⟨w.heap.size + 1, 6, none⟩ = some (.bool false) ∧ w'.cell? ⟨w.heap.size + 1, 7, none⟩ = some (.slice none 0 0)) (by kernel_rfl) (by kernel_rfl) (by rw [← hW7]; exact ⟨kD HB4 0, kD HB4 1, kD HB4 2, kD HB4 3, kD HB4 4, kD HB4 5, kD HB4 6, kD HB4 7⟩) ?_
 rw [← hW7]
 clear hW7
 iterate 2 refine tk0 (h := ?_)
 refine sop (h := fun K9 hK9 => ?_)
 go_simp
 refine mN (word_any 2 _ (by unfold B64; omega)) fun w2 A2 k2 c2 HR2 j2c => ?_
 replace HB4 := kB HB4 j2c
 refine ckk hK9 (by exact ⟨kD HB4 0, kD HB4 1, kD HB4 2, kD HB4 3, kD HB4 4, kD HB4 5, kD HB4 6, kD HB4 7⟩) (h := ?_)
 clear hK9 K9
 refine tk0 (h := ?_)
 refine sop (h := fun K9 hK9 => ?_)
 have jm1 := tt j2 j1c
 have jm2 := tt j3 j2c
 replace HB2 := kB (kO (kM HW6) (kB HB2 jm1) n2b4.out) jm2
 have t8h := kth 0 9 HB2
 refine smw 30 (w.heap.size) 0 (ht := by exact t8h) (h := ?_)
 obtain ⟨W9, HW9⟩ : ∃ W, Hid (W = w2.setCells (w.heap.size) 0 [.bool false, .slice none 0 0, .bool false, .slice none 0 0, .bool g1a, .slice A1a k1a c1a, .bool false, .slice none 0 0, .slice A2 k2 c2]) := ⟨_, rfl⟩
 have TW9 := kN (kM HW9) HB2 rfl rfl
 replace HB2 := kP (ds := [.bool false, .slice none 0 0, .bool false, .slice none 0 0, .bool g1a, .slice A1a k1a c1a, .bool false, .slice none 0 0, .slice A2 k2 c2]) (kM HW9) HB2 rfl rfl
 rw [← HW9.out]
 replace HB4 := kO (kM HW9) HB4 n2b4.out.symm
 refine ckk hK9 (by exact ⟨kD HB4 0, kD HB4 1, kD HB4 2, kD HB4 3, kD HB4 4, kD HB4 5, kD HB4 6, kD HB4 7⟩) (h := ?_)
 clear hK9 K9 t8h
 refine seq_done (by kernel_rfl) ?_
 go_wp2_with fail
 replace HR1 := kW TW9 (kV jm2 (kW TW6 HR1))
 replace HR2 := kW TW9 HR2
 replace HBw := kS (kM HW9) l2b (kU (kS (kM HW6) l4b (kU HBw jm1)) jm2)
 exact bodyPost_ret (results_cell rfl (by rfl) (blk_all HB2.out) Tryz.underlying30 rfl (by kernel_rfl)) rfl ⟨⟨_, rfl, (show RdS _ _ ⟨0, 0, 1/2, 0⟩ 1 from ⟨_, _, _, _, _, RdSn.mk (RdZ.nil0 _) (RdZ.nil0 _) HR1.out (RdZ.nil0 _) (show RdN _ _ (den1 2) from HR2.out), sx_22⟩)⟩, HBw.out⟩
theorem sx_12 : Sx ⟨0, 1/2, 0, 0⟩ 0 1 0 0 2 1 := ⟨by decide, ⟨by decide +kernel, by decide +kernel, by decide +kernel, by decide +kernel⟩, ⟨dl_small (by decide), dl_small (by decide), dl_small (by decide), dl_small (by decide)⟩, dl_small (by decide)⟩
theorem part_12 (w : World) :
  Calls Tryz.prog 208 #[.int .i64 1, .int .u64 2] w fun e w' => (∃ v', e = .returned v' ∧ RdS w' v' (⟨0, 1/2, 0, 0⟩) (1)) ∧ Below w.heap.size w w' := by
 go_enter Tryz.func208, Tryz.ntmps208
 obtain ⟨W1, HW1, HB2, s1w, j1⟩ := st_al0 w #[.bool false, .slice none 0 0, .bool false, .slice none 0 0, .bool false, .slice none 0 0, .bool false, .slice none 0 0, .slice none 0 0] 30
 have l2b : Hid (w.heap.size ≤ w.heap.size) := by show _ ≤ _; omega
 have HBw := h0d j1
 obtain ⟨W3, HW3, HB4, s3w, j2⟩ := st_alk 1 2 #[.bool false, .slice none 0 0, .bool false, .slice none 0 0, .bool false, .slice none 0 0, .bool false, .slice none 0 0] 28 s1w rfl
 have n2b4 : Hid (w.heap.size ≠ w.heap.size + 1) := by show _ ≠ _; omega
 have l4b : Hid (w.heap.size ≤ w.heap.size + 1) := by show _ ≤ _; omega
 go_wp2_with fail
 rw [← HW1.out, ← HW3.out]
 refine mZ (of_any 1 _ (by omega) (by omega)) fun w1 g1a A1a k1a c1a HR1 j1c => ?_
 replace HB4 := kB HB4 j1c
 have t5h := kth 2 2 HB4
 obtain ⟨W6, HW6⟩ : ∃ W, Hid (W = w1.setCells (w.heap.size + 1) 2 [.bool g1a, .slice A1a k1a c1a]) := ⟨_, rfl⟩
 have TW6 := kN (kM HW6) HB4 rfl rfl
 replace HB4 := kP (ds := [.bool false, .slice none 0 0, .bool g1a, .slice A1a k1a c1a, .bool false, .slice none 0 0, .bool false, .slice none 0 0]) (kM HW6) HB4 rfl rfl
 go_wp2_with (refine smd 27 (w.heap.size + 1) 2 (ht := by exact t5h) (h := ?_))
 rw [← HW6.out]
 clear t5h
 obtain ⟨W7, hW7⟩ : ∃ W, W = W6.drew := ⟨_, rfl⟩
 have j3 : Below W6.heap.size W6 W7 := by rw [hW7]; exact (Below.refl _ _).drew
 replace HB4 := kB HB4 j3
 refine seq_start (S := fun w' => w'.cell? ⟨w.heap.size + 1, 0, none⟩ = some (.bool false) ∧ w'.cell? ⟨w.heap.size + 1, 1, none⟩ = some (.slice none 0 0) ∧ w'.cell? ⟨w.heap.size + 1, 2, none⟩ = some (.bool g1a) ∧ w'.cell? ⟨w.heap.size + 1, 3, none⟩ = some (.slice A1a k1a c1a) ∧ w'.cell? ⟨w.heap.size + 1, 4, none⟩ = some (.bool false) ∧ w'.cell? ⟨w.heap.size + 1, 5, none⟩ = some (.slice none 0 0) ∧ w'.cell? ⟨w.heap.size + 1, 6, none⟩ = some (.bool false) ∧ w'.cell? ⟨w.heap.size + 1, 7, none⟩ = some (.slice none 0 0)) (by kernel_rfl) (by kernel_rfl) (by rw [← hW7]; exact ⟨kD HB4 0, kD HB4 1, kD HB4 2, kD HB4 3, kD HB4 4, kD HB4 5, kD HB4 6, kD HB4 7⟩) ?_
 rw [← hW7]
 clear hW7
 iterate 2 refine tk0 (h := ?_)
 refine sop (h := fun K9 hK9 => ?_)
 go_simp
 refine mN (word_any 2 _ (by unfold B64; omega)) fun w2 A2 k2 c2 HR2 j2c => ?_
 replace HB4 := kB HB4 j2c
 refine ckk hK9 (by exact ⟨kD HB4 0, kD HB4 1, kD HB4 2, kD HB4 3, kD HB4 4, kD HB4 5, kD HB4 6, kD HB4 7⟩) (h := ?_)
 clear hK9 K9
 refine tk0 (h := ?_)
 refine sop (h := fun K9 hK9 => ?_)
 have jm1 := tt j2 j1c
 have jm2 := tt j3 j2c
 replace HB2 := kB (kO (kM HW6) (kB HB2 jm1) n2b4.out) jm2
 have t8h := kth 0 9 HB2
 refine smw 30 (w.heap.size) 0 (ht := by exact t8h) (h := ?_)
 obtain ⟨W9, HW9⟩ : ∃ W, Hid (W = w2.setCells (w.heap.size) 0 [.bool false, .slice none 0 0, .bool g1a, .slice A1a k1a c1a, .bool false, .slice none 0 0, .bool false, .slice none 0 0, .slice A2 k2 c2]) := ⟨_, rfl⟩
 have TW9 := kN (kM HW9) HB2 rfl rfl
 replace HB2 := kP (ds := [.bool false, .slice none 0 0, .bool g1a, .slice A1a k1a c1a, .bool false, .slice none 0 0, .bool false, .slice none 0 0, .slice A2 k2 c2]) (kM HW9) HB2 rfl rfl
 rw [← HW9.out]
 replace HB4 := kO (kM HW9) HB4 n2b4.out.symm
 refine ckk hK9 (by exact ⟨kD HB4 0, kD HB4 1, kD HB4 2, kD HB4 3, kD HB4 4, kD HB4 5, kD HB4 6, kD HB4 7⟩) (h := ?_)
 clear hK9 K9 t8h
 refine seq_done (by kernel_rfl) ?_
 go_wp2_with fail
 replace HR1 := kW TW9 (kV jm2 (kW TW6 HR1))
 replace HR2 := kW TW9 HR2
 replace HBw := kS (kM HW9) l2b (kU (kS (kM HW6) l4b (kU HBw jm1)) jm2)
 exact bodyPost_ret (results_cell rfl (by rfl) (blk_all HB2.out) Tryz.underlying30 rfl (by kernel_rfl)) rfl ⟨⟨_, rfl, (show RdS _ _ ⟨0, 1/2, 0, 0⟩ 1 from ⟨_, _, _, _, _, RdSn.mk (RdZ.nil0 _) HR1.out (RdZ.nil0 _) (RdZ.nil0 _) (show RdN _ _ (den1 2) from HR2.out), sx_12⟩)⟩, HBw.out⟩
theorem sx_02 : Sx ⟨1/2, 0, 0, 0⟩ 1 0 0 0 2 1 := ⟨by decide, ⟨by decide +kernel, by decide +kernel, by decide +kernel, by decide +kernel⟩, ⟨dl_small (by decide), dl_small (by decide), dl_small (by decide), dl_small (by decide)⟩, dl_small (by decide)⟩
theorem part_02 (w : World) :
  Calls Tryz.prog 208 #[.int .i64 0, .int .u64 2] w fun e w' => (∃ v', e = .returned v' ∧ RdS w' v' (⟨1/2, 0, 0, 0⟩) (1)) ∧ Below w.heap.size w w' := by
 go_enter Tryz.func208, Tryz.ntmps208
 obtain ⟨W1, HW1, HB2, s1w, j1⟩ := st_al0 w #[.bool false, .slice none 0 0, .bool false, .slice none 0 0, .bool false, .slice none 0 0, .bool false, .slice none 0 0, .slice none 0 0] 30
 have l2b : Hid (w.heap.size ≤ w.heap.size) := by show _ ≤ _; omega
 have HBw := h0d j1
 obtain ⟨W3, HW3, HB4, s3w, j2⟩ := st_alk 1 2 #[.bool false, .slice none 0 0, .bool false, .slice none 0 0, .bool false, .slice none 0 0, .bool false, .slice none 0 0] 28 s1w rfl
 have n2b4 : Hid (w.heap.size ≠ w.heap.size + 1) := by show _ ≠ _; omega
 have l4b : Hid (w.heap.size ≤ w.heap.size + 1) := by show _ ≤ _; omega
 go_wp2_with fail
 rw [← HW1.out, ← HW3.out]
 refine mZ (of_any 1 _ (by omega) (by omega)) fun w1 g1a A1a k1a c1a HR1 j1c => ?_
 replace HB4 := kB HB4 j1c
 have t5h := kth 0 2 HB4
 obtain ⟨W6, HW6⟩ : ∃ W, Hid (W = w1.setCells (w.heap.size + 1) 0 [.bool g1a, .slice A1a k1a c1a]) := ⟨_, rfl⟩
 have TW6 := kN (kM HW6) HB4 rfl rfl
 replace HB4 := kP (ds := [.bool g1a, .slice A1a k1a c1a, .bool false, .slice none 0 0, .bool false, .slice none 0 0, .bool false, .slice none 0 0]) (kM HW6) HB4 rfl rfl
 go_wp2_with (refine smd 27 (w.heap.size + 1) 0 (ht := by exact t5h) (h := ?_))
 rw [← HW6.out]
 clear t5h
 obtain ⟨W7, hW7⟩ : ∃ W, W = W6.drew := ⟨_, rfl⟩
 have j3 : Below W6.heap.size W6 W7 := by rw [hW7]; exact (Below.refl _ _).drew
 replace HB4 := kB HB4 j3
 refine seq_start (S := fun w' => w'.cell? ⟨w.heap.size + 1, 0, none⟩ = some (.bool g1a) ∧ w'.cell? ⟨w.heap.size + 1, 1, none⟩ = some (.slice A1a k1a c1a) ∧ w'.cell? ⟨w.heap.size + 1, 2, none⟩ = some (.bool false) ∧ w'.cell? ⟨w.heap.size + 1, 3, none⟩ = some (.slice none 0 0) ∧ w'.cell? ⟨w.heap.size + 1, 4, none⟩ = some (.bool false) ∧ w'.cell? ⟨w.heap.size + 1, 5, none⟩ = some (.slice none 0 0) ∧ w'.cell? ⟨w.heap.size + 1, 6, none⟩ = some (.bool false) ∧ w'.cell? ⟨w.heap.size + 1, 7, none⟩ = some (.slice none 0 0)) (by kernel_rfl) (by kernel_rfl) (by rw [← hW7]; exact ⟨kD HB4 0, kD HB4 1, kD HB4 2, kD HB4 3, kD HB4 4, kD HB4 5, kD HB4 6, kD HB4 7⟩) ?_
 rw [← hW7]
 clear hW7
 iterate 2 refine tk0 (h := ?_)
 refine sop (h := fun K9 hK9 => ?_)
 go_simp
 refine mN (word_any 2 _ (by unfold B64; omega)) fun w2 A2 k2 c2 HR2 j2c => ?_
 replace HB4 := kB HB4 j2c
 refine ckk hK9 (by exact ⟨kD HB4 0, kD HB4 1, kD HB4 2, kD HB4 3, kD HB4 4, kD HB4 5, kD HB4 6, kD HB4 7⟩) (h := ?_)
 clear hK9 K9
 refine tk0 (h := ?_)
 refine sop (h := fun K9 hK9 => ?_)
 have jm1 := tt j2 j1c
 have jm2 := tt j3 j2c
 replace HB2 := kB (kO (kM HW6) (kB HB2 jm1) n2b4.out) jm2
 have t8h := kth 0 9 HB2
 refine smw 30 (w.heap.size) 0 (ht := by exact t8h) (h := ?_)
 obtain ⟨W9, HW9⟩ : ∃ W, Hid (W = w2.setCells (w.heap.size) 0 [.bool g1a, .slice A1a k1a c1a, .bool false, .slice none 0 0, .bool false, .slice none 0 0, .bool false, .slice none 0 0, .slice A2 k2 c2]) := ⟨_, rfl⟩
 have TW9 := kN (kM HW9) HB2 rfl rfl
 replace HB2 := kP (ds := [.bool g1a, .slice A1a k1a c1a, .bool false, .slice none 0 0, .bool false, .slice none 0 0, .bool false, .slice none 0 0, .slice A2 k2 c2]) (kM HW9) HB2 rfl rfl
 rw [← HW9.out]
 replace HB4 := kO (kM HW9) HB4 n2b4.out.symm
 refine ckk hK9 (by exact ⟨kD HB4 0, kD HB4 1, kD HB4 2, kD HB4 3, kD HB4 4, kD HB4 5, kD HB4 6, kD HB4 7⟩) (h := ?_)
 clear hK9 K9 t8h
 refine seq_done (by kernel_rfl) ?_
 go_wp2_with fail
 replace HR1 := kW TW9 (kV jm2 (kW TW6 HR1))
 replace HR2 := kW TW9 HR2
 replace HBw := kS (kM HW9) l2b (kU (kS (kM HW6) l4b (kU HBw jm1)) jm2)
 exact bodyPost_ret (results_cell rfl (by rfl) (blk_all HB2.out) Tryz.underlying30 rfl (by kernel_rfl)) rfl ⟨⟨_, rfl, (show RdS _ _ ⟨1/2, 0, 0, 0⟩ 1 from ⟨_, _, _, _, _, RdSn.mk HR1.out (RdZ.nil0 _) (RdZ.nil0 _) (RdZ.nil0 _) (show RdN _ _ (den1 2) from HR2.out), sx_02⟩)⟩, HBw.out⟩
theorem sx_one : Sx (cosN 0) 1 0 0 0 1 1 := ⟨by decide, ⟨by decide +kernel, by decide +kernel, by decide +kernel, by decide +kernel⟩, ⟨dl_small (by decide), dl_small (by decide), dl_small (by decide), dl_small (by decide)⟩, dl_small (by decide)⟩
theorem sx_nil : Sx (cosN 6) 0 0 0 0 1 1 := ⟨by decide, ⟨by decide +kernel, by decide +kernel, by decide +kernel, by decide +kernel⟩, ⟨dl_small (by decide), dl_small (by decide), dl_small (by decide), dl_small (by decide)⟩, dl_small (by decide)⟩
theorem cos_0 (w : World) :
  Calls Tryz.prog 135 #[.int .i64 0] w fun e w' => (∃ v', e = .returned v' ∧ RdS w' v' (cosN 0) (3)) ∧ Below w.heap.size w w' := by
 go_enter Tryz.func135, Tryz.ntmps135
 obtain ⟨W1, HW1, HB2, s1w, j1⟩ := st_al0 w #[.bool false, .slice none 0 0, .bool false, .slice none 0 0, .bool false, .slice none 0 0, .bool false, .slice none 0 0, .slice none 0 0] 30
 have l2b : Hid (w.heap.size ≤ w.heap.size) := by show _ ≤ _; omega
 have HBw := h0d j1
 go_wp2_with fail
 rw [← HW1.out]
 refine mZ (of_any 1 _ (by omega) (by omega)) fun w1 g1a A1a k1a c1a HR1 j1c => ?_
 replace HB2 := kB HB2 j1c
 have t3h := kth 0 9 HB2
 obtain ⟨W4, HW4⟩ : ∃ W, Hid (W = w1.setCells (w.heap.size) 0 [.bool g1a, .slice A1a k1a c1a, .bool false, .slice none 0 0, .bool false, .slice none 0 0, .bool false, .slice none 0 0, .slice none 0 0]) := ⟨_, rfl⟩
 have TW4 := kN (kM HW4) HB2 rfl rfl
 replace HB2 := kP (ds := [.bool g1a, .slice A1a k1a c1a, .bool false, .slice none 0 0, .bool false, .slice none 0 0, .bool false, .slice none 0 0, .slice none 0 0]) (kM HW4) HB2 rfl rfl
 go_wp2_with (refine smd 30 (w.heap.size) 0 (ht := by exact t3h) (h := ?_))
 rw [← HW4.out]
 clear t3h
 replace HR1 := kW TW4 HR1
 replace HBw := kS (kM HW4) l2b (kU HBw j1c)
 exact bodyPost_ret (results_cell rfl (by rfl) (blk_all HB2.out) Tryz.underlying30 rfl (by kernel_rfl)) rfl ⟨⟨_, rfl, (show RdS _ _ (cosN 0) 3 from RdS.mono ⟨_, _, _, _, _, RdSn.mk HR1.out (RdZ.nil0 _) (RdZ.nil0 _) (RdZ.nil0 _) (RdN.nil0 _), sx_one⟩ (by omega))⟩, HBw.out⟩
theorem cos_1 (w : World) :
  Calls Tryz.prog 135 #[.int .i64 1] w fun e w' => (∃ v', e = .returned v' ∧ RdS w' v' (cosN 1) (3)) ∧ Below w.heap.size w w' := by
 go_enter Tryz.func135, Tryz.ntmps135
 obtain ⟨W1, HW1, HB2, s1w, j1⟩ := st_al0 w #[.bool false, .slice none 0 0, .bool false, .slice none 0 0, .bool false, .slice none 0 0, .bool false, .slice none 0 0, .slice none 0 0] 30
 have l2b : Hid (w.heap.size ≤ w.heap.size) := by show _ ≤ _; omega
 have HBw := h0d j1
 go_wp2_with fail
 rw [← HW1.out]
 refine mS (part_14 _) fun w1 g1a A1a k1a c1a g1b A1b k1b c1b g1c A1c k1c c1c g1d A1d k1d c1d A1e k1e c1e HR1 j1c => ?_
 go_wp2_with fail
 refine mS (part_34 _) fun w2 g2a A2a k2a c2a g2b A2b k2b c2b g2c A2c k2c c2c g2d A2d k2d c2d A2e k2e c2e HR2 j2c => ?_
 go_wp2_with fail
 replace HR1 := kV j2c HR1
 refine mS (saddS_any _ _ _ _ 1 1 _ HR1.out HR2.out (by omega) (by omega)) fun w3 g3a A3a k3a c3a g3b A3b k3b c3b g3c A3c k3c c3c g3d A3d k3d c3d A3e k3e c3e HR3 j3c => ?_
 have jm1 := tt (tt j1c j2c) j3c
 replace HB2 := kB HB2 jm1
 have t3h := kth 0 9 HB2
 obtain ⟨W4, HW4⟩ : ∃ W, Hid (W = w3.setCells (w.heap.size) 0 [.bool g3a, .slice A3a k3a c3a, .bool g3b, .slice A3b k3b c3b, .bool g3c, .slice A3c k3c c3c, .bool g3d, .slice A3d k3d c3d, .slice A3e k3e c3e]) := ⟨_, rfl⟩
 have TW4 := kN (kM HW4) HB2 rfl rfl
 replace HB2 := kP (ds := [.bool g3a, .slice A3a k3a c3a, .bool g3b, .slice A3b k3b c3b, .bool g3c, .slice A3c k3c c3c, .bool g3d, .slice A3d k3d c3d, .slice A3e k3e c3e]) (kM HW4) HB2 rfl rfl
 go_wp2_with (refine smd 30 (w.heap.size) 0 (ht := by exact t3h) (h := ?_))
 rw [← HW4.out]
 clear t3h
 replace HR3 := kW TW4 HR3
 replace HBw := kS (kM HW4) l2b (kU HBw jm1)
 exact bodyPost_ret (results_cell rfl (by rfl) (blk_all HB2.out) Tryz.underlying30 rfl (by kernel_rfl)) rfl ⟨⟨_, rfl, (show RdS _ _ (cosN 1) 3 from (show cosN 1 = S4.add ⟨0, 1/4, 0, 0⟩ ⟨0, 0, 0, 1/4⟩ by decide +kernel) ▸ HR3.out)⟩, HBw.out⟩
theorem cos_2 (w : World) :
  Calls Tryz.prog 135 #[.int .i64 2] w fun e w' => (∃ v', e = .returned v' ∧ RdS w' v' (cosN 2) (3)) ∧ Below w.heap.size w w' := by
 go_enter Tryz.func135, Tryz.ntmps135
 obtain ⟨W1, HW1, HB2, s1w, j1⟩ := st_al0 w #[.bool false, .slice none 0 0, .bool false, .slice none 0 0, .bool false, .slice none 0 0, .bool false, .slice none 0 0, .slice none 0 0] 30
 have l2b : Hid (w.heap.size ≤ w.heap.size) := by show _ ≤ _; omega
 have HBw := h0d j1
 go_wp2_with fail
 rw [← HW1.out]
 refine mS (part_22 _) fun w1 g1a A1a k1a c1a g1b A1b k1b c1b g1c A1c k1c c1c g1d A1d k1d c1d A1e k1e c1e HR1 j1c => ?_
 replace HB2 := kB HB2 j1c
 have t3h := kth 0 9 HB2
 obtain ⟨W4, HW4⟩ : ∃ W, Hid (W = w1.setCells (w.heap.size) 0 [.bool g1a, .slice A1a k1a c1a, .bool g1b, .slice A1b k1b c1b, .bool g1c, .slice A1c k1c c1c, .bool g1d, .slice A1d k1d c1d, .slice A1e k1e c1e]) := ⟨_, rfl⟩
 have TW4 := kN (kM HW4) HB2 rfl rfl
 replace HB2 := kP (ds := [.bool g1a, .slice A1a k1a c1a, .bool g1b, .slice A1b k1b c1b, .bool g1c, .slice A1c k1c c1c, .bool g1d, .slice A1d k1d c1d, .slice A1e k1e c1e]) (kM HW4) HB2 rfl rfl
 go_wp2_with (refine smd 30 (w.heap.size) 0 (ht := by exact t3h) (h := ?_))
 rw [← HW4.out]
 clear t3h
 replace HR1 := kW TW4 HR1
 replace HBw := kS (kM HW4) l2b (kU HBw j1c)
 exact bodyPost_ret (results_cell rfl (by rfl) (blk_all HB2.out) Tryz.underlying30 rfl (by kernel_rfl)) rfl ⟨⟨_, rfl, (show RdS _ _ (cosN 2) 3 from HR1.out.mono (by omega))⟩, HBw.out⟩
theorem cos_3 (w : World) :
  Calls Tryz.prog 135 #[.int .i64 3] w fun e w' => (∃ v', e = .returned v' ∧ RdS w' v' (cosN 3) (3)) ∧ Below w.heap.size w w' := by
 go_enter Tryz.func135, Tryz.ntmps135
 obtain ⟨W1, HW1, HB2, s1w, j1⟩ := st_al0 w #[.bool false, .slice none 0 0, .bool false, .slice none 0 0, .bool false, .slice none 0 0, .bool false, .slice none 0 0, .slice none 0 0] 30
 have l2b : Hid (w.heap.size ≤ w.heap.size) := by show _ ≤ _; omega
 have HBw := h0d j1
 go_wp2_with fail
 rw [← HW1.out]
 refine mS (part_12 _) fun w1 g1a A1a k1a c1a g1b A1b k1b c1b g1c A1c k1c c1c g1d A1d k1d c1d A1e k1e c1e HR1 j1c => ?_
 replace HB2 := kB HB2 j1c
 have t3h := kth 0 9 HB2
 obtain ⟨W4, HW4⟩ : ∃ W, Hid (W = w1.setCells (w.heap.size) 0 [.bool g1a, .slice A1a k1a c1a, .bool g1b, .slice A1b k1b c1b, .bool g1c, .slice A1c k1c c1c, .bool g1d, .slice A1d k1d c1d, .slice A1e k1e c1e]) := ⟨_, rfl⟩
 have TW4 := kN (kM HW4) HB2 rfl rfl
 replace HB2 := kP (ds := [.bool g1a, .slice A1a k1a c1a, .bool g1b, .slice A1b k1b c1b, .bool g1c, .slice A1c k1c c1c, .bool g1d, .slice A1d k1d c1d, .slice A1e k1e c1e]) (kM HW4) HB2 rfl rfl
 go_wp2_with (refine smd 30 (w.heap.size) 0 (ht := by exact t3h) (h := ?_))
 rw [← HW4.out]
 clear t3h
 replace HR1 := kW TW4 HR1
 replace HBw := kS (kM HW4) l2b (kU HBw j1c)
 exact bodyPost_ret (results_cell rfl (by rfl) (blk_all HB2.out) Tryz.underlying30 rfl (by kernel_rfl)) rfl ⟨⟨_, rfl, (show RdS _ _ (cosN 3) 3 from HR1.out.mono (by omega))⟩, HBw.out⟩
theorem cos_4 (w : World) :
  Calls Tryz.prog 135 #[.int .i64 4] w fun e w' => (∃ v', e = .returned v' ∧ RdS w' v' (cosN 4) (3)) ∧ Below w.heap.size w w' := by
 go_enter Tryz.func135, Tryz.ntmps135
 obtain ⟨W1, HW1, HB2, s1w, j1⟩ := st_al0 w #[.bool false, .slice none 0 0, .bool false, .slice none 0 0, .bool false, .slice none 0 0, .bool false, .slice none 0 0, .slice none 0 0] 30
 have l2b : Hid (w.heap.size ≤ w.heap.size) := by show _ ≤ _; omega
 have HBw := h0d j1
 go_wp2_with fail
 rw [← HW1.out]
 refine mS (part_02 _) fun w1 g1a A1a k1a c1a g1b A1b k1b c1b g1c A1c k1c c1c g1d A1d k1d c1d A1e k1e c1e HR1 j1c => ?_
 replace HB2 := kB HB2 j1c
 have t3h := kth 0 9 HB2
 obtain ⟨W4, HW4⟩ : ∃ W, Hid (W = w1.setCells (w.heap.size) 0 [.bool g1a, .slice A1a k1a c1a, .bool g1b, .slice A1b k1b c1b, .bool g1c, .slice A1c k1c c1c, .bool g1d, .slice A1d k1d c1d, .slice A1e k1e c1e]) := ⟨_, rfl⟩
 have TW4 := kN (kM HW4) HB2 rfl rfl
 replace HB2 := kP (ds := [.bool g1a, .slice A1a k1a c1a, .bool g1b, .slice A1b k1b c1b, .bool g1c, .slice A1c k1c c1c, .bool g1d, .slice A1d k1d c1d, .slice A1e k1e c1e]) (kM HW4) HB2 rfl rfl
 go_wp2_with (refine smd 30 (w.heap.size) 0 (ht := by exact t3h) (h := ?_))
 rw [← HW4.out]
 clear t3h
 replace HR1 := kW TW4 HR1
 replace HBw := kS (kM HW4) l2b (kU HBw j1c)
 exact bodyPost_ret (results_cell rfl (by rfl) (blk_all HB2.out) Tryz.underlying30 rfl (by kernel_rfl)) rfl ⟨⟨_, rfl, (show RdS _ _ (cosN 4) 3 from HR1.out.mono (by omega))⟩, HBw.out⟩
theorem cos_5 (w : World) :
  Calls Tryz.prog 135 #[.int .i64 5] w fun e w' => (∃ v', e = .returned v' ∧ RdS w' v' (cosN 5) (3)) ∧ Below w.heap.size w w' := by
 go_enter Tryz.func135, Tryz.ntmps135
 obtain ⟨W1, HW1, HB2, s1w, j1⟩ := st_al0 w #[.bool false, .slice none 0 0, .bool false, .slice none 0 0, .bool false, .slice none 0 0, .bool false, .slice none 0 0, .slice none 0 0] 30
 have l2b : Hid (w.heap.size ≤ w.heap.size) := by show _ ≤ _; omega
 have HBw := h0d j1
 go_wp2_with fail
 rw [← HW1.out]
 refine mS (part_34 _) fun w1 g1a A1a k1a c1a g1b A1b k1b c1b g1c A1c k1c c1c g1d A1d k1d c1d A1e k1e c1e HR1 j1c => ?_
 go_wp2_with fail
 refine mS (part_14 _) fun w2 g2a A2a k2a c2a g2b A2b k2b c2b g2c A2c k2c c2c g2d A2d k2d c2d A2e k2e c2e HR2 j2c => ?_
 go_wp2_with fail
 replace HR1 := kV j2c HR1
 refine mS (ssubS_any _ _ _ _ 1 1 _ HR1.out HR2.out (by omega) (by omega)) fun w3 g3a A3a k3a c3a g3b A3b k3b c3b g3c A3c k3c c3c g3d A3d k3d c3d A3e k3e c3e HR3 j3c => ?_
 have jm1 := tt (tt j1c j2c) j3c
 replace HB2 := kB HB2 jm1
 have t3h := kth 0 9 HB2
 obtain ⟨W4, HW4⟩ : ∃ W, Hid (W = w3.setCells (w.heap.size) 0 [.bool g3a, .slice A3a k3a c3a, .bool g3b, .slice A3b k3b c3b, .bool g3c, .slice A3c k3c c3c, .bool g3d, .slice A3d k3d c3d, .slice A3e k3e c3e]) := ⟨_, rfl⟩
 have TW4 := kN (kM HW4) HB2 rfl rfl
 replace HB2 := kP (ds := [.bool g3a, .slice A3a k3a c3a, .bool g3b, .slice A3b k3b c3b, .bool g3c, .slice A3c k3c c3c, .bool g3d, .slice A3d k3d c3d, .slice A3e k3e c3e]) (kM HW4) HB2 rfl rfl
 go_wp2_with (refine smd 30 (w.heap.size) 0 (ht := by exact t3h) (h := ?_))
 rw [← HW4.out]
 clear t3h
 replace HR3 := kW TW4 HR3
 replace HBw := kS (kM HW4) l2b (kU HBw jm1)
 exact bodyPost_ret (results_cell rfl (by rfl) (blk_all HB2.out) Tryz.underlying30 rfl (by kernel_rfl)) rfl ⟨⟨_, rfl, (show RdS _ _ (cosN 5) 3 from (show cosN 5 = S4.sub ⟨0, 0, 0, 1/4⟩ ⟨0, 1/4, 0, 0⟩ by decide +kernel) ▸ HR3.out)⟩, HBw.out⟩
theorem cos_6 (w : World) :
  Calls Tryz.prog 135 #[.int .i64 6] w fun e w' => (∃ v', e = .returned v' ∧ RdS w' v' (cosN 6) (3)) ∧ Below w.heap.size w w' := by
 go_enter Tryz.func135, Tryz.ntmps135
 obtain ⟨W1, HW1, HB2, s1w, j1⟩ := st_al0 w #[.bool false, .slice none 0 0, .bool false, .slice none 0 0, .bool false, .slice none 0 0, .bool false, .slice none 0 0, .slice none 0 0] 30
 have HBw := h0d j1
 go_wp2_with fail
 rw [← HW1.out]
 exact bodyPost_ret (results_cell rfl (by rfl) (blk_all HB2.out) Tryz.underlying30 rfl (by kernel_rfl)) rfl ⟨⟨_, rfl, (show RdS _ _ (cosN 6) 3 from RdS.mono ⟨_, _, _, _, _, RdSn.mk (RdZ.nil0 _) (RdZ.nil0 _) (RdZ.nil0 _) (RdZ.nil0 _) (RdN.nil0 _), sx_nil⟩ (by omega))⟩, HBw.out⟩
theorem cos_7 (w : World) :
  Calls Tryz.prog 135 #[.int .i64 7] w fun e w' => (∃ v', e = .returned v' ∧ RdS w' v' (cosN 7) (3)) ∧ Below w.heap.size w w' := by
 go_enter Tryz.func135, Tryz.ntmps135
 obtain ⟨W1, HW1, HB2, s1w, j1⟩ := st_al0 w #[.bool false, .slice none 0 0, .bool false, .slice none 0 0, .bool false, .slice none 0 0, .bool false, .slice none 0 0, .slice none 0 0] 30
 have l2b : Hid (w.heap.size ≤ w.heap.size) := by show _ ≤ _; omega
 have HBw := h0d j1
 go_wp2_with fail
 rw [← HW1.out]
 refine mS (cos_5 _) fun w1 g1a A1a k1a c1a g1b A1b k1b c1b g1c A1c k1c c1c g1d A1d k1d c1d A1e k1e c1e HR1 j1c => ?_
 go_wp2_with fail
 refine mS (snegS_any _ (cosN 5) 3 _ HR1.out) fun w2 g2a A2a k2a c2a g2b A2b k2b c2b g2c A2c k2c c2c g2d A2d k2d c2d A2e k2e c2e HR2 j2c => ?_
 have jm1 := tt j1c j2c
 replace HB2 := kB HB2 jm1
 have t3h := kth 0 9 HB2
 obtain ⟨W4, HW4⟩ : ∃ W, Hid (W = w2.setCells (w.heap.size) 0 [.bool g2a, .slice A2a k2a c2a, .bool g2b, .slice A2b k2b c2b, .bool g2c, .slice A2c k2c c2c, .bool g2d, .slice A2d k2d c2d, .slice A2e k2e c2e]) := ⟨_, rfl⟩
 have TW4 := kN (kM HW4) HB2 rfl rfl
 replace HB2 := kP (ds := [.bool g2a, .slice A2a k2a c2a, .bool g2b, .slice A2b k2b c2b, .bool g2c, .slice A2c k2c c2c, .bool g2d, .slice A2d k2d c2d, .slice A2e k2e c2e]) (kM HW4) HB2 rfl rfl
 go_wp2_with (refine smd 30 (w.heap.size) 0 (ht := by exact t3h) (h := ?_))
 rw [← HW4.out]
 clear t3h
 replace HR2 := kW TW4 HR2
 replace HBw := kS (kM HW4) l2b (kU HBw jm1)
 exact bodyPost_ret (results_cell rfl (by rfl) (blk_all HB2.out) Tryz.underlying30 rfl (by kernel_rfl)) rfl ⟨⟨_, rfl, (show RdS _ _ (cosN 7) 3 from (show cosN 7 = (cosN 5).neg by decide +kernel) ▸ HR2.out)⟩, HBw.out⟩
theorem cos_8 (w : World) :
  Calls Tryz.prog 135 #[.int .i64 8] w fun e w' => (∃ v', e = .returned v' ∧ RdS w' v' (cosN 8) (3)) ∧ Below w.heap.size w w' := by
 go_enter Tryz.func135, Tryz.ntmps135
 obtain ⟨W1, HW1, HB2, s1w, j1⟩ := st_al0 w #[.bool false, .slice none 0 0, .bool false, .slice none 0 0, .bool false, .slice none 0 0, .bool false, .slice none 0 0, .slice none 0 0] 30
 have l2b : Hid (w.heap.size ≤ w.heap.size) := by show _ ≤ _; omega
 have HBw := h0d j1
 go_wp2_with fail
 rw [← HW1.out]
 refine mS (cos_4 _) fun w1 g1a A1a k1a c1a g1b A1b k1b c1b g1c A1c k1c c1c g1d A1d k1d c1d A1e k1e c1e HR1 j1c => ?_
 go_wp2_with fail
 refine mS (snegS_any _ (cosN 4) 3 _ HR1.out) fun w2 g2a A2a k2a c2a g2b A2b k2b c2b g2c A2c k2c c2c g2d A2d k2d c2d A2e k2e c2e HR2 j2c => ?_
 have jm1 := tt j1c j2c
 replace HB2 := kB HB2 jm1
 have t3h := kth 0 9 HB2
 obtain ⟨W4, HW4⟩ : ∃ W, Hid (W = w2.setCells (w.heap.size) 0 [.bool g2a, .slice A2a k2a c2a, .bool g2b, .slice A2b k2b c2b, .bool g2c, .slice A2c k2c c2c, .bool g2d, .slice A2d k2d c2d, .slice A2e k2e c2e]) := ⟨_, rfl⟩
 have TW4 := kN (kM HW4) HB2 rfl rfl
 replace HB2 := kP (ds := [.bool g2a, .slice A2a k2a c2a, .bool g2b, .slice A2b k2b c2b, .bool g2c, .slice A2c k2c c2c, .bool g2d, .slice A2d k2d c2d, .slice A2e k2e c2e]) (kM HW4) HB2 rfl rfl
 go_wp2_with (refine smd 30 (w.heap.size) 0 (ht := by exact t3h) (h := ?_))
 rw [← HW4.out]
 clear t3h
 replace HR2 := kW TW4 HR2
 replace HBw := kS (kM HW4) l2b (kU HBw jm1)
 exact bodyPost_ret (results_cell rfl (by rfl) (blk_all HB2.out) Tryz.underlying30 rfl (by kernel_rfl)) rfl ⟨⟨_, rfl, (show RdS _ _ (cosN 8) 3 from (show cosN 8 = (cosN 4).neg by decide +kernel) ▸ HR2.out)⟩, HBw.out⟩
theorem cos_9 (w : World) :
  Calls Tryz.prog 135 #[.int .i64 9] w fun e w' => (∃ v', e = .returned v' ∧ RdS w' v' (cosN 9) (3)) ∧ Below w.heap.size w w' := by
 go_enter Tryz.func135, Tryz.ntmps135
 obtain ⟨W1, HW1, HB2, s1w, j1⟩ := st_al0 w #[.bool false, .slice none 0 0, .bool false, .slice none 0 0, .bool false, .slice none 0 0, .bool false, .slice none 0 0, .slice none 0 0] 30
 have l2b : Hid (w.heap.size ≤ w.heap.size) := by show _ ≤ _; omega
 have HBw := h0d j1
 go_wp2_with fail
 rw [← HW1.out]
 refine mS (cos_3 _) fun w1 g1a A1a k1a c1a g1b A1b k1b c1b g1c A1c k1c c1c g1d A1d k1d c1d A1e k1e c1e HR1 j1c => ?_
 go_wp2_with fail
 refine mS (snegS_any _ (cosN 3) 3 _ HR1.out) fun w2 g2a A2a k2a c2a g2b A2b k2b c2b g2c A2c k2c c2c g2d A2d k2d c2d A2e k2e c2e HR2 j2c => ?_
 have jm1 := tt j1c j2c
 replace HB2 := kB HB2 jm1
 have t3h := kth 0 9 HB2
 obtain ⟨W4, HW4⟩ : ∃ W, Hid (W = w2.setCells (w.heap.size) 0 [.bool g2a, .slice A2a k2a c2a, .bool g2b, .slice A2b k2b c2b, .bool g2c, .slice A2c k2c c2c, .bool g2d, .slice A2d k2d c2d, .slice A2e k2e c2e]) := ⟨_, rfl⟩
 have TW4 := kN (kM HW4) HB2 rfl rfl
 replace HB2 := kP (ds := [.bool g2a, .slice A2a k2a c2a, .bool g2b, .slice A2b k2b c2b, .bool g2c, .slice A2c k2c c2c, .bool g2d, .slice A2d k2d c2d, .slice A2e k2e c2e]) (kM HW4) HB2 rfl rfl
 go_wp2_with (refine smd 30 (w.heap.size) 0 (ht := by exact t3h) (h := ?_))
 rw [← HW4.out]
 clear t3h
 replace HR2 := kW TW4 HR2
 replace HBw := kS (kM HW4) l2b (kU HBw jm1)
 exact bodyPost_ret (results_cell rfl (by rfl) (blk_all HB2.out) Tryz.underlying30 rfl (by kernel_rfl)) rfl ⟨⟨_, rfl, (show RdS _ _ (cosN 9) 3 from (show cosN 9 = (cosN 3).neg by decide +kernel) ▸ HR2.out)⟩, HBw.out⟩
theorem cos_10 (w : World) :
  Calls Tryz.prog 135 #[.int .i64 10] w fun e w' => (∃ v', e = .returned v' ∧ RdS w' v' (cosN 10) (3)) ∧ Below w.heap.size w w' := by
 go_enter Tryz.func135, Tryz.ntmps135
 obtain ⟨W1, HW1, HB2, s1w, j1⟩ := st_al0 w #[.bool false, .slice none 0 0, .bool false, .slice none 0 0, .bool false, .slice none 0 0, .bool false, .slice none 0 0, .slice none 0 0] 30
 have l2b : Hid (w.heap.size ≤ w.heap.size) := by show _ ≤ _; omega
 have HBw := h0d j1
 go_wp2_with fail
 rw [← HW1.out]
 refine mS (cos_2 _) fun w1 g1a A1a k1a c1a g1b A1b k1b c1b g1c A1c k1c c1c g1d A1d k1d c1d A1e k1e c1e HR1 j1c => ?_
 go_wp2_with fail
 refine mS (snegS_any _ (cosN 2) 3 _ HR1.out) fun w2 g2a A2a k2a c2a g2b A2b k2b c2b g2c A2c k2c c2c g2d A2d k2d c2d A2e k2e c2e HR2 j2c => ?_
 have jm1 := tt j1c j2c
 replace HB2 := kB HB2 jm1
 have t3h := kth 0 9 HB2
 obtain ⟨W4, HW4⟩ : ∃ W, Hid (W = w2.setCells (w.heap.size) 0 [.bool g2a, .slice A2a k2a c2a, .bool g2b, .slice A2b k2b c2b, .bool g2c, .slice A2c k2c c2c, .bool g2d, .slice A2d k2d c2d, .slice A2e k2e c2e]) := ⟨_, rfl⟩
 have TW4 := kN (kM HW4) HB2 rfl rfl
 replace HB2 := kP (ds := [.bool g2a, .slice A2a k2a c2a, .bool g2b, .slice A2b k2b c2b, .bool g2c, .slice A2c k2c c2c, .bool g2d, .slice A2d k2d c2d, .slice A2e k2e c2e]) (kM HW4) HB2 rfl rfl
 go_wp2_with (refine smd 30 (w.heap.size) 0 (ht := by exact t3h) (h := ?_))
 rw [← HW4.out]
 clear t3h
 replace HR2 := kW TW4 HR2
 replace HBw := kS (kM HW4) l2b (kU HBw jm1)
 exact bodyPost_ret (results_cell rfl (by rfl) (blk_all HB2.out) Tryz.underlying30 rfl (by kernel_rfl)) rfl ⟨⟨_, rfl, (show RdS _ _ (cosN 10) 3 from (show cosN 10 = (cosN 2).neg by decide +kernel) ▸ HR2.out)⟩, HBw.out⟩
theorem cos_11 (w : World) :
  Calls Tryz.prog 135 #[.int .i64 11] w fun e w' => (∃ v', e = .returned v' ∧ RdS w' v' (cosN 11) (3)) ∧ Below w.heap.size w w' := by
 go_enter Tryz.func135, Tryz.ntmps135
 obtain ⟨W1, HW1, HB2, s1w, j1⟩ := st_al0 w #[.bool false, .slice none 0 0, .bool false, .slice none 0 0, .bool false, .slice none 0 0, .bool false, .slice none 0 0, .slice none 0 0] 30
 have l2b : Hid (w.heap.size ≤ w.heap.size) := by show _ ≤ _; omega
 have HBw := h0d j1
 go_wp2_with fail
 rw [← HW1.out]
 refine mS (cos_1 _) fun w1 g1a A1a k1a c1a g1b A1b k1b c1b g1c A1c k1c c1c g1d A1d k1d c1d A1e k1e c1e HR1 j1c => ?_
 go_wp2_with fail
 refine mS (snegS_any _ (cosN 1) 3 _ HR1.out) fun w2 g2a A2a k2a c2a g2b A2b k2b c2b g2c A2c k2c c2c g2d A2d k2d c2d A2e k2e c2e HR2 j2c => ?_
 have jm1 := tt j1c j2c
 replace HB2 := kB HB2 jm1
 have t3h := kth 0 9 HB2
 obtain ⟨W4, HW4⟩ : ∃ W, Hid (W = w2.setCells (w.heap.size) 0 [.bool g2a, .slice A2a k2a c2a, .bool g2b, .slice A2b k2b c2b, .bool g2c, .slice A2c k2c c2c, .bool g2d, .slice A2d k2d c2d, .slice A2e k2e c2e]) := ⟨_, rfl⟩
 have TW4 := kN (kM HW4) HB2 rfl rfl
 replace HB2 := kP (ds := [.bool g2a, .slice A2a k2a c2a, .bool g2b, .slice A2b k2b c2b, .bool g2c, .slice A2c k2c c2c, .bool g2d, .slice A2d k2d c2d, .slice A2e k2e c2e]) (kM HW4) HB2 rfl rfl
 go_wp2_with (refine smd 30 (w.heap.size) 0 (ht := by exact t3h) (h := ?_))
 rw [← HW4.out]
 clear t3h
 replace HR2 := kW TW4 HR2
 replace HBw := kS (kM HW4) l2b (kU HBw jm1)
 exact bodyPost_ret (results_cell rfl (by rfl) (blk_all HB2.out) Tryz.underlying30 rfl (by kernel_rfl)) rfl ⟨⟨_, rfl, (show RdS _ _ (cosN 11) 3 from (show cosN 11 = (cosN 1).neg by decide +kernel) ▸ HR2.out)⟩, HBw.out⟩
theorem cos_12 (w : World) :
  Calls Tryz.prog 135 #[.int .i64 12] w fun e w' => (∃ v', e = .returned v' ∧ RdS w' v' (cosN 12) (3)) ∧ Below w.heap.size w w' := by
 go_enter Tryz.func135, Tryz.ntmps135
 obtain ⟨W1, HW1, HB2, s1w, j1⟩ := st_al0 w #[.bool false, .slice none 0 0, .bool false, .slice none 0 0, .bool false, .slice none 0 0, .bool false, .slice none 0 0, .slice none 0 0] 30
 have l2b : Hid (w.heap.size ≤ w.heap.size) := by show _ ≤ _; omega
 have HBw := h0d j1
 go_wp2_with fail
 rw [← HW1.out]
 refine mS (cos_0 _) fun w1 g1a A1a k1a c1a g1b A1b k1b c1b g1c A1c k1c c1c g1d A1d k1d c1d A1e k1e c1e HR1 j1c => ?_
 go_wp2_with fail
 refine mS (snegS_any _ (cosN 0) 3 _ HR1.out) fun w2 g2a A2a k2a c2a g2b A2b k2b c2b g2c A2c k2c c2c g2d A2d k2d c2d A2e k2e c2e HR2 j2c => ?_
 have jm1 := tt j1c j2c
 replace HB2 := kB HB2 jm1
 have t3h := kth 0 9 HB2
 obtain ⟨W4, HW4⟩ : ∃ W, Hid (W = w2.setCells (w.heap.size) 0 [.bool g2a, .slice A2a k2a c2a, .bool g2b, .slice A2b k2b c2b, .bool g2c, .slice A2c k2c c2c, .bool g2d, .slice A2d k2d c2d, .slice A2e k2e c2e]) := ⟨_, rfl⟩
 have TW4 := kN (kM HW4) HB2 rfl rfl
 replace HB2 := kP (ds := [.bool g2a, .slice A2a k2a c2a, .bool g2b, .slice A2b k2b c2b, .bool g2c, .slice A2c k2c c2c, .bool g2d, .slice A2d k2d c2d, .slice A2e k2e c2e]) (kM HW4) HB2 rfl rfl
 go_wp2_with (refine smd 30 (w.heap.size) 0 (ht := by exact t3h) (h := ?_))
 rw [← HW4.out]
 clear t3h
 replace HR2 := kW TW4 HR2
 replace HBw := kS (kM HW4) l2b (kU HBw jm1)
 exact bodyPost_ret (results_cell rfl (by rfl) (blk_all HB2.out) Tryz.underlying30 rfl (by kernel_rfl)) rfl ⟨⟨_, rfl, (show RdS _ _ (cosN 12) 3 from (show cosN 12 = (cosN 0).neg by decide +kernel) ▸ HR2.out)⟩, HBw.out⟩
theorem cos_13 (w : World) :
  Calls Tryz.prog 135 #[.int .i64 13] w fun e w' => (∃ v', e = .returned v' ∧ RdS w' v' (cosN 13) (3)) ∧ Below w.heap.size w w' := by
 go_enter Tryz.func135, Tryz.ntmps135
 obtain ⟨W1, HW1, HB2, s1w, j1⟩ := st_al0 w #[.bool false, .slice none 0 0, .bool false, .slice none 0 0, .bool false, .slice none 0 0, .bool false, .slice none 0 0, .slice none 0 0] 30
 have l2b : Hid (w.heap.size ≤ w.heap.size) := by show _ ≤ _; omega
 have HBw := h0d j1
 go_wp2_with fail
 rw [← HW1.out]
 refine mS (cos_1 _) fun w1 g1a A1a k1a c1a g1b A1b k1b c1b g1c A1c k1c c1c g1d A1d k1d c1d A1e k1e c1e HR1 j1c => ?_
 go_wp2_with fail
 refine mS (snegS_any _ (cosN 1) 3 _ HR1.out) fun w2 g2a A2a k2a c2a g2b A2b k2b c2b g2c A2c k2c c2c g2d A2d k2d c2d A2e k2e c2e HR2 j2c => ?_
 have jm1 := tt j1c j2c
 replace HB2 := kB HB2 jm1
 have t3h := kth 0 9 HB2
 obtain ⟨W4, HW4⟩ : ∃ W, Hid (W = w2.setCells (w.heap.size) 0 [.bool g2a, .slice A2a k2a c2a, .bool g2b, .slice A2b k2b c2b, .bool g2c, .slice A2c k2c c2c, .bool g2d, .slice A2d k2d c2d, .slice A2e k2e c2e]) := ⟨_, rfl⟩
 have TW4 := kN (kM HW4) HB2 rfl rfl
 replace HB2 := kP (ds := [.bool g2a, .slice A2a k2a c2a, .bool g2b, .slice A2b k2b c2b, .bool g2c, .slice A2c k2c c2c, .bool g2d, .slice A2d k2d c2d, .slice A2e k2e c2e]) (kM HW4) HB2 rfl rfl
 go_wp2_with (refine smd 30 (w.heap.size) 0 (ht := by exact t3h) (h := ?_))
 rw [← HW4.out]
 clear t3h
 replace HR2 := kW TW4 HR2
 replace HBw := kS (kM HW4) l2b (kU HBw jm1)
 exact bodyPost_ret (results_cell rfl (by rfl) (blk_all HB2.out) Tryz.underlying30 rfl (by kernel_rfl)) rfl ⟨⟨_, rfl, (show RdS _ _ (cosN 13) 3 from (show cosN 13 = (cosN 1).neg by decide +kernel) ▸ HR2.out)⟩, HBw.out⟩
theorem cos_14 (w : World) :
  Calls Tryz.prog 135 #[.int .i64 14] w fun e w' => (∃ v', e = .returned v' ∧ RdS w' v' (cosN 14) (3)) ∧ Below w.heap.size w w' := by
 go_enter Tryz.func135, Tryz.ntmps135
 obtain ⟨W1, HW1, HB2, s1w, j1⟩ := st_al0 w #[.bool false, .slice none 0 0, .bool false, .slice none 0 0, .bool false, .slice none 0 0, .bool false, .slice none 0 0, .slice none 0 0] 30
 have l2b : Hid (w.heap.size ≤ w.heap.size) := by show _ ≤ _; omega
 have HBw := h0d j1
 go_wp2_with fail
 rw [← HW1.out]
 refine mS (cos_2 _) fun w1 g1a A1a k1a c1a g1b A1b k1b c1b g1c A1c k1c c1c g1d A1d k1d c1d A1e k1e c1e HR1 j1c => ?_
 go_wp2_with fail
 refine mS (snegS_any _ (cosN 2) 3 _ HR1.out) fun w2 g2a A2a k2a c2a g2b A2b k2b c2b g2c A2c k2c c2c g2d A2d k2d c2d A2e k2e c2e HR2 j2c => ?_
 have jm1 := tt j1c j2c
 replace HB2 := kB HB2 jm1
 have t3h := kth 0 9 HB2
 obtain ⟨W4, HW4⟩ : ∃ W, Hid (W = w2.setCells (w.heap.size) 0 [.bool g2a, .slice A2a k2a c2a, .bool g2b, .slice A2b k2b c2b, .bool g2c, .slice A2c k2c c2c, .bool g2d, .slice A2d k2d c2d, .slice A2e k2e c2e]) := ⟨_, rfl⟩
 have TW4 := kN (kM HW4) HB2 rfl rfl
 replace HB2 := kP (ds := [.bool g2a, .slice A2a k2a c2a, .bool g2b, .slice A2b k2b c2b, .bool g2c, .slice A2c k2c c2c, .bool g2d, .slice A2d k2d c2d, .slice A2e k2e c2e]) (kM HW4) HB2 rfl rfl
 go_wp2_with (refine smd 30 (w.heap.size) 0 (ht := by exact t3h) (h := ?_))
 rw [← HW4.out]
 clear t3h
 replace HR2 := kW TW4 HR2
 replace HBw := kS (kM HW4) l2b (kU HBw jm1)
 exact bodyPost_ret (results_cell rfl (by rfl) (blk_all HB2.out) Tryz.underlying30 rfl (by kernel_rfl)) rfl ⟨⟨_, rfl, (show RdS _ _ (cosN 14) 3 from (show cosN 14 = (cosN 2).neg by decide +kernel) ▸ HR2.out)⟩, HBw.out⟩
theorem cos_15 (w : World) :
  Calls Tryz.prog 135 #[.int .i64 15] w fun e w' => (∃ v', e = .returned v' ∧ RdS w' v' (cosN 15) (3)) ∧ Below w.heap.size w w' := by
 go_enter Tryz.func135, Tryz.ntmps135
 obtain ⟨W1, HW1, HB2, s1w, j1⟩ := st_al0 w #[.bool false, .slice none 0 0, .bool false, .slice none 0 0, .bool false, .slice none 0 0, .bool false, .slice none 0 0, .slice none 0 0] 30
 have l2b : Hid (w.heap.size ≤ w.heap.size) := by show _ ≤ _; omega
 have HBw := h0d j1
 go_wp2_with fail
 rw [← HW1.out]
 refine mS (cos_3 _) fun w1 g1a A1a k1a c1a g1b A1b k1b c1b g1c A1c k1c c1c g1d A1d k1d c1d A1e k1e c1e HR1 j1c => ?_
 go_wp2_with fail
 refine mS (snegS_any _ (cosN 3) 3 _ HR1.out) fun w2 g2a A2a k2a c2a g2b A2b k2b c2b g2c A2c k2c c2c g2d A2d k2d c2d A2e k2e c2e HR2 j2c => ?_
 have jm1 := tt j1c j2c
 replace HB2 := kB HB2 jm1
 have t3h := kth 0 9 HB2
 obtain ⟨W4, HW4⟩ : ∃ W, Hid (W = w2.setCells (w.heap.size) 0 [.bool g2a, .slice A2a k2a c2a, .bool g2b, .slice A2b k2b c2b, .bool g2c, .slice A2c k2c c2c, .bool g2d, .slice A2d k2d c2d, .slice A2e k2e c2e]) := ⟨_, rfl⟩
 have TW4 := kN (kM HW4) HB2 rfl rfl
 replace HB2 := kP (ds := [.bool g2a, .slice A2a k2a c2a, .bool g2b, .slice A2b k2b c2b, .bool g2c, .slice A2c k2c c2c, .bool g2d, .slice A2d k2d c2d, .slice A2e k2e c2e]) (kM HW4) HB2 rfl rfl
 go_wp2_with (refine smd 30 (w.heap.size) 0 (ht := by exact t3h) (h := ?_))
 rw [← HW4.out]
 clear t3h
 replace HR2 := kW TW4 HR2
 replace HBw := kS (kM HW4) l2b (kU HBw jm1)
 exact bodyPost_ret (results_cell rfl (by rfl) (blk_all HB2.out) Tryz.underlying30 rfl (by kernel_rfl)) rfl ⟨⟨_, rfl, (show RdS _ _ (cosN 15) 3 from (show cosN 15 = (cosN 3).neg by decide +kernel) ▸ HR2.out)⟩, HBw.out⟩
theorem cos_16 (w : World) :
  Calls Tryz.prog 135 #[.int .i64 16] w fun e w' => (∃ v', e = .returned v' ∧ RdS w' v' (cosN 16) (3)) ∧ Below w.heap.size w w' := by
 go_enter Tryz.func135, Tryz.ntmps135
 obtain ⟨W1, HW1, HB2, s1w, j1⟩ := st_al0 w #[.bool false, .slice none 0 0, .bool false, .slice none 0 0, .bool false, .slice none 0 0, .bool false, .slice none 0 0, .slice none 0 0] 30
 have l2b : Hid (w.heap.size ≤ w.heap.size) := by show _ ≤ _; omega
 have HBw := h0d j1
 go_wp2_with fail
 rw [← HW1.out]
 refine mS (cos_4 _) fun w1 g1a A1a k1a c1a g1b A1b k1b c1b g1c A1c k1c c1c g1d A1d k1d c1d A1e k1e c1e HR1 j1c => ?_
 go_wp2_with fail
 refine mS (snegS_any _ (cosN 4) 3 _ HR1.out) fun w2 g2a A2a k2a c2a g2b A2b k2b c2b g2c A2c k2c c2c g2d A2d k2d c2d A2e k2e c2e HR2 j2c => ?_
 have jm1 := tt j1c j2c
 replace HB2 := kB HB2 jm1
 have t3h := kth 0 9 HB2
 obtain ⟨W4, HW4⟩ : ∃ W, Hid (W = w2.setCells (w.heap.size) 0 [.bool g2a, .slice A2a k2a c2a, .bool g2b, .slice A2b k2b c2b, .bool g2c, .slice A2c k2c c2c, .bool g2d, .slice A2d k2d c2d, .slice A2e k2e c2e]) := ⟨_, rfl⟩
 have TW4 := kN (kM HW4) HB2 rfl rfl
 replace HB2 := kP (ds := [.bool g2a, .slice A2a k2a c2a, .bool g2b, .slice A2b k2b c2b, .bool g2c, .slice A2c k2c c2c, .bool g2d, .slice A2d k2d c2d, .slice A2e k2e c2e]) (kM HW4) HB2 rfl rfl
 go_wp2_with (refine smd 30 (w.heap.size) 0 (ht := by exact t3h) (h := ?_))
 rw [← HW4.out]
 clear t3h
 replace HR2 := kW TW4 HR2
 replace HBw := kS (kM HW4) l2b (kU HBw jm1)
 exact bodyPost_ret (results_cell rfl (by rfl) (blk_all HB2.out) Tryz.underlying30 rfl (by kernel_rfl)) rfl ⟨⟨_, rfl, (show RdS _ _ (cosN 16) 3 from (show cosN 16 = (cosN 4).neg by decide +kernel) ▸ HR2.out)⟩, HBw.out⟩
theorem cos_17 (w : World) :
  Calls Tryz.prog 135 #[.int .i64 17] w fun e w' => (∃ v', e = .returned v' ∧ RdS w' v' (cosN 17) (3)) ∧ Below w.heap.size w w' := by
 go_enter Tryz.func135, Tryz.ntmps135
 obtain ⟨W1, HW1, HB2, s1w, j1⟩ := st_al0 w #[.bool false, .slice none 0 0, .bool false, .slice none 0 0, .bool false, .slice none 0 0, .bool false, .slice none 0 0, .slice none 0 0] 30
 have l2b : Hid (w.heap.size ≤ w.heap.size) := by show _ ≤ _; omega
 have HBw := h0d j1
 go_wp2_with fail
 rw [← HW1.out]
 refine mS (cos_5 _) fun w1 g1a A1a k1a c1a g1b A1b k1b c1b g1c A1c k1c c1c g1d A1d k1d c1d A1e k1e c1e HR1 j1c => ?_
 go_wp2_with fail
 refine mS (snegS_any _ (cosN 5) 3 _ HR1.out) fun w2 g2a A2a k2a c2a g2b A2b k2b c2b g2c A2c k2c c2c g2d A2d k2d c2d A2e k2e c2e HR2 j2c => ?_
 have jm1 := tt j1c j2c
 replace HB2 := kB HB2 jm1
 have t3h := kth 0 9 HB2
 obtain ⟨W4, HW4⟩ : ∃ W, Hid (W = w2.setCells (w.heap.size) 0 [.bool g2a, .slice A2a k2a c2a, .bool g2b, .slice A2b k2b c2b, .bool g2c, .slice A2c k2c c2c, .bool g2d, .slice A2d k2d c2d, .slice A2e k2e c2e]) := ⟨_, rfl⟩
 have TW4 := kN (kM HW4) HB2 rfl rfl
 replace HB2 := kP (ds := [.bool g2a, .slice A2a k2a c2a, .bool g2b, .slice A2b k2b c2b, .bool g2c, .slice A2c k2c c2c, .bool g2d, .slice A2d k2d c2d, .slice A2e k2e c2e]) (kM HW4) HB2 rfl rfl
 go_wp2_with (refine smd 30 (w.heap.size) 0 (ht := by exact t3h) (h := ?_))
 rw [← HW4.out]
 clear t3h
 replace HR2 := kW TW4 HR2
 replace HBw := kS (kM HW4) l2b (kU HBw jm1)
 exact bodyPost_ret (results_cell rfl (by rfl) (blk_all HB2.out) Tryz.underlying30 rfl (by kernel_rfl)) rfl ⟨⟨_, rfl, (show RdS _ _ (cosN 17) 3 from (show cosN 17 = (cosN 5).neg by decide +kernel) ▸ HR2.out)⟩, HBw.out⟩
theorem cos_18 (w : World) :
  Calls Tryz.prog 135 #[.int .i64 18] w fun e w' => (∃ v', e = .returned v' ∧ RdS w' v' (cosN 18) (3)) ∧ Below w.heap.size w w' := by
 go_enter Tryz.func135, Tryz.ntmps135
 obtain ⟨W1, HW1, HB2, s1w, j1⟩ := st_al0 w #[.bool false, .slice none 0 0, .bool false, .slice none 0 0, .bool false, .slice none 0 0, .bool false, .slice none 0 0, .slice none 0 0] 30
 have HBw := h0d j1
 go_wp2_with fail
 rw [← HW1.out]
 exact bodyPost_ret (results_cell rfl (by rfl) (blk_all HB2.out) Tryz.underlying30 rfl (by kernel_rfl)) rfl ⟨⟨_, rfl, (show RdS _ _ (cosN 18) 3 from RdS.mono ⟨_, _, _, _, _, RdSn.mk (RdZ.nil0 _) (RdZ.nil0 _) (RdZ.nil0 _) (RdZ.nil0 _) (RdN.nil0 _), sx_nil⟩ (by omega))⟩, HBw.out⟩
theorem cos_19 (w : World) :
  Calls Tryz.prog 135 #[.int .i64 19] w fun e w' => (∃ v', e = .returned v' ∧ RdS w' v' (cosN 19) (3)) ∧ Below w.heap.size w w' := by
 go_enter Tryz.func135, Tryz.ntmps135
 obtain ⟨W1, HW1, HB2, s1w, j1⟩ := st_al0 w #[.bool false, .slice none 0 0, .bool false, .slice none 0 0, .bool false, .slice none 0 0, .bool false, .slice none 0 0, .slice none 0 0] 30
 have l2b : Hid (w.heap.size ≤ w.heap.size) := by show _ ≤ _; omega
 have HBw := h0d j1
 go_wp2_with fail
 rw [← HW1.out]
 refine mS (part_34 _) fun w1 g1a A1a k1a c1a g1b A1b k1b c1b g1c A1c k1c c1c g1d A1d k1d c1d A1e k1e c1e HR1 j1c => ?_
 go_wp2_with fail
 refine mS (part_14 _) fun w2 g2a A2a k2a c2a g2b A2b k2b c2b g2c A2c k2c c2c g2d A2d k2d c2d A2e k2e c2e HR2 j2c => ?_
 go_wp2_with fail
 replace HR1 := kV j2c HR1
 refine mS (ssubS_any _ _ _ _ 1 1 _ HR1.out HR2.out (by omega) (by omega)) fun w3 g3a A3a k3a c3a g3b A3b k3b c3b g3c A3c k3c c3c g3d A3d k3d c3d A3e k3e c3e HR3 j3c => ?_
 have jm1 := tt (tt j1c j2c) j3c
 replace HB2 := kB HB2 jm1
 have t3h := kth 0 9 HB2
 obtain ⟨W4, HW4⟩ : ∃ W, Hid (W = w3.setCells (w.heap.size) 0 [.bool g3a, .slice A3a k3a c3a, .bool g3b, .slice A3b k3b c3b, .bool g3c, .slice A3c k3c c3c, .bool g3d, .slice A3d k3d c3d, .slice A3e k3e c3e]) := ⟨_, rfl⟩
 have TW4 := kN (kM HW4) HB2 rfl rfl
 replace HB2 := kP (ds := [.bool g3a, .slice A3a k3a c3a, .bool g3b, .slice A3b k3b c3b, .bool g3c, .slice A3c k3c c3c, .bool g3d, .slice A3d k3d c3d, .slice A3e k3e c3e]) (kM HW4) HB2 rfl rfl
 go_wp2_with (refine smd 30 (w.heap.size) 0 (ht := by exact t3h) (h := ?_))
 rw [← HW4.out]
 clear t3h
 replace HR3 := kW TW4 HR3
 replace HBw := kS (kM HW4) l2b (kU HBw jm1)
 exact bodyPost_ret (results_cell rfl (by rfl) (blk_all HB2.out) Tryz.underlying30 rfl (by kernel_rfl)) rfl ⟨⟨_, rfl, (show RdS _ _ (cosN 19) 3 from (show cosN 19 = S4.sub ⟨0, 0, 0, 1/4⟩ ⟨0, 1/4, 0, 0⟩ by decide +kernel) ▸ HR3.out)⟩, HBw.out⟩
theorem cos_20 (w : World) :
  Calls Tryz.prog 135 #[.int .i64 20] w fun e w' => (∃ v', e = .returned v' ∧ RdS w' v' (cosN 20) (3)) ∧ Below w.heap.size w w' := by
 go_enter Tryz.func135, Tryz.ntmps135
 obtain ⟨W1, HW1, HB2, s1w, j1⟩ := st_al0 w #[.bool false, .slice none 0 0, .bool false, .slice none 0 0, .bool false, .slice none 0 0, .bool false, .slice none 0 0, .slice none 0 0] 30
 have l2b : Hid (w.heap.size ≤ w.heap.size) := by show _ ≤ _; omega
 have HBw := h0d j1
 go_wp2_with fail
 rw [← HW1.out]
 refine mS (part_02 _) fun w1 g1a A1a k1a c1a g1b A1b k1b c1b g1c A1c k1c c1c g1d A1d k1d c1d A1e k1e c1e HR1 j1c => ?_
 replace HB2 := kB HB2 j1c
 have t3h := kth 0 9 HB2
 obtain ⟨W4, HW4⟩ : ∃ W, Hid (W = w1.setCells (w.heap.size) 0 [.bool g1a, .slice A1a k1a c1a, .bool g1b, .slice A1b k1b c1b, .bool g1c, .slice A1c k1c c1c, .bool g1d, .slice A1d k1d c1d, .slice A1e k1e c1e]) := ⟨_, rfl⟩
 have TW4 := kN (kM HW4) HB2 rfl rfl
 replace HB2 := kP (ds := [.bool g1a, .slice A1a k1a c1a, .bool g1b, .slice A1b k1b c1b, .bool g1c, .slice A1c k1c c1c, .bool g1d, .slice A1d k1d c1d, .slice A1e k1e c1e]) (kM HW4) HB2 rfl rfl
 go_wp2_with (refine smd 30 (w.heap.size) 0 (ht := by exact t3h) (h := ?_))
 rw [← HW4.out]
 clear t3h
 replace HR1 := kW TW4 HR1
 replace HBw := kS (kM HW4) l2b (kU HBw j1c)
 exact bodyPost_ret (results_cell rfl (by rfl) (blk_all HB2.out) Tryz.underlying30 rfl (by kernel_rfl)) rfl ⟨⟨_, rfl, (show RdS _ _ (cosN 20) 3 from HR1.out.mono (by omega))⟩, HBw.out⟩
theorem cos_21 (w : World) :
  Calls Tryz.prog 135 #[.int .i64 21] w fun e w' => (∃ v', e = .returned v' ∧ RdS w' v' (cosN 21) (3)) ∧ Below w.heap.size w w' := by
 go_enter Tryz.func135, Tryz.ntmps135
 obtain ⟨W1, HW1, HB2, s1w, j1⟩ := st_al0 w #[.bool false, .slice none 0 0, .bool false, .slice none 0 0, .bool false, .slice none 0 0, .bool false, .slice none 0 0, .slice none 0 0] 30
 have l2b : Hid (w.heap.size ≤ w.heap.size) := by show _ ≤ _; omega
 have HBw := h0d j1
 go_wp2_with fail
 rw [← HW1.out]
 refine mS (part_12 _) fun w1 g1a A1a k1a c1a g1b A1b k1b c1b g1c A1c k1c c1c g1d A1d k1d c1d A1e k1e c1e HR1 j1c => ?_
 replace HB2 := kB HB2 j1c
 have t3h := kth 0 9 HB2
 obtain ⟨W4, HW4⟩ : ∃ W, Hid (W = w1.setCells (w.heap.size) 0 [.bool g1a, .slice A1a k1a c1a, .bool g1b, .slice A1b k1b c1b, .bool g1c, .slice A1c k1c c1c, .bool g1d, .slice A1d k1d c1d, .slice A1e k1e c1e]) := ⟨_, rfl⟩
 have TW4 := kN (kM HW4) HB2 rfl rfl
 replace HB2 := kP (ds := [.bool g1a, .slice A1a k1a c1a, .bool g1b, .slice A1b k1b c1b, .bool g1c, .slice A1c k1c c1c, .bool g1d, .slice A1d k1d c1d, .slice A1e k1e c1e]) (kM HW4) HB2 rfl rfl
 go_wp2_with (refine smd 30 (w.heap.size) 0 (ht := by exact t3h) (h := ?_))
 rw [← HW4.out]
 clear t3h
 replace HR1 := kW TW4 HR1
 replace HBw := kS (kM HW4) l2b (kU HBw j1c)
 exact bodyPost_ret (results_cell rfl (by rfl) (blk_all HB2.out) Tryz.underlying30 rfl (by kernel_rfl)) rfl ⟨⟨_, rfl, (show RdS _ _ (cosN 21) 3 from HR1.out.mono (by omega))⟩, HBw.out⟩
theorem cos_22 (w : World) :
  Calls Tryz.prog 135 #[.int .i64 22] w fun e w' => (∃ v', e = .returned v' ∧ RdS w' v' (cosN 22) (3)) ∧ Below w.heap.size w w' := by
 go_enter Tryz.func135, Tryz.ntmps135
 obtain ⟨W1, HW1, HB2, s1w, j1⟩ := st_al0 w #[.bool false, .slice none 0 0, .bool false, .slice none 0 0, .bool false, .slice none 0 0, .bool false, .slice none 0 0, .slice none 0 0] 30
 have l2b : Hid (w.heap.size ≤ w.heap.size) := by show _ ≤ _; omega
 have HBw := h0d j1
 go_wp2_with fail
 rw [← HW1.out]
 refine mS (part_22 _) fun w1 g1a A1a k1a c1a g1b A1b k1b c1b g1c A1c k1c c1c g1d A1d k1d c1d A1e k1e c1e HR1 j1c => ?_
 replace HB2 := kB HB2 j1c
 have t3h := kth 0 9 HB2
 obtain ⟨W4, HW4⟩ : ∃ W, Hid (W = w1.setCells (w.heap.size) 0 [.bool g1a, .slice A1a k1a c1a, .bool g1b, .slice A1b k1b c1b, .bool g1c, .slice A1c k1c c1c, .bool g1d, .slice A1d k1d c1d, .slice A1e k1e c1e]) := ⟨_, rfl⟩
 have TW4 := kN (kM HW4) HB2 rfl rfl
 replace HB2 := kP (ds := [.bool g1a, .slice A1a k1a c1a, .bool g1b, .slice A1b k1b c1b, .bool g1c, .slice A1c k1c c1c, .bool g1d, .slice A1d k1d c1d, .slice A1e k1e c1e]) (kM HW4) HB2 rfl rfl
 go_wp2_with (refine smd 30 (w.heap.size) 0 (ht := by exact t3h) (h := ?_))
 rw [← HW4.out]
 clear t3h
 replace HR1 := kW TW4 HR1
 replace HBw := kS (kM HW4) l2b (kU HBw j1c)
 exact bodyPost_ret (results_cell rfl (by rfl) (blk_all HB2.out) Tryz.underlying30 rfl (by kernel_rfl)) rfl ⟨⟨_, rfl, (show RdS _ _ (cosN 22) 3 from HR1.out.mono (by omega))⟩, HBw.out⟩
theorem cos_23 (w : World) :
  Calls Tryz.prog 135 #[.int .i64 23] w fun e w' => (∃ v', e = .returned v' ∧ RdS w' v' (cosN 23) (3)) ∧ Below w.heap.size w w' := by
 go_enter Tryz.func135, Tryz.ntmps135
 obtain ⟨W1, HW1, HB2, s1w, j1⟩ := st_al0 w #[.bool false, .slice none 0 0, .bool false, .slice none 0 0, .bool false, .slice none 0 0, .bool false, .slice none 0 0, .slice none 0 0] 30
 have l2b : Hid (w.heap.size ≤ w.heap.size) := by show _ ≤ _; omega
 have HBw := h0d j1
 go_wp2_with fail
 rw [← HW1.out]
 refine mS (part_14 _) fun w1 g1a A1a k1a c1a g1b A1b k1b c1b g1c A1c k1c c1c g1d A1d k1d c1d A1e k1e c1e HR1 j1c => ?_
 go_wp2_with fail
 refine mS (part_34 _) fun w2 g2a A2a k2a c2a g2b A2b k2b c2b g2c A2c k2c c2c g2d A2d k2d c2d A2e k2e c2e HR2 j2c => ?_
 go_wp2_with fail
 replace HR1 := kV j2c HR1
 refine mS (saddS_any _ _ _ _ 1 1 _ HR1.out HR2.out (by omega) (by omega)) fun w3 g3a A3a k3a c3a g3b A3b k3b c3b g3c A3c k3c c3c g3d A3d k3d c3d A3e k3e c3e HR3 j3c => ?_
 have jm1 := tt (tt j1c j2c) j3c
 replace HB2 := kB HB2 jm1
 have t3h := kth 0 9 HB2
 obtain ⟨W4, HW4⟩ : ∃ W, Hid (W = w3.setCells (w.heap.size) 0 [.bool g3a, .slice A3a k3a c3a, .bool g3b, .slice A3b k3b c3b, .bool g3c, .slice A3c k3c c3c, .bool g3d, .slice A3d k3d c3d, .slice A3e k3e c3e]) := ⟨_, rfl⟩
 have TW4 := kN (kM HW4) HB2 rfl rfl
 replace HB2 := kP (ds := [.bool g3a, .slice A3a k3a c3a, .bool g3b, .slice A3b k3b c3b, .bool g3c, .slice A3c k3c c3c, .bool g3d, .slice A3d k3d c3d, .slice A3e k3e c3e]) (kM HW4) HB2 rfl rfl
 go_wp2_with (refine smd 30 (w.heap.size) 0 (ht := by exact t3h) (h := ?_))
 rw [← HW4.out]
 clear t3h
 replace HR3 := kW TW4 HR3
 replace HBw := kS (kM HW4) l2b (kU HBw jm1)
 exact bodyPost_ret (results_cell rfl (by rfl) (blk_all HB2.out) Tryz.underlying30 rfl (by kernel_rfl)) rfl ⟨⟨_, rfl, (show RdS _ _ (cosN 23) 3 from (show cosN 23 = S4.add ⟨0, 1/4, 0, 0⟩ ⟨0, 0, 0, 1/4⟩ by decide +kernel) ▸ HR3.out)⟩, HBw.out⟩
theorem cosine_any (k : Nat) (w : World) (hk : k < 24) : Calls Tryz.prog 135 #[.int .i64 (k : Int)] w fun e w' => (∃ v', e = .returned v' ∧ RdS w' v' (cosN k) (3)) ∧ Below w.heap.size w w' := by
 match k, hk with
 | 0, _ => exact cos_0 w
 | 1, _ => exact cos_1 w
 | 2, _ => exact cos_2 w
 | 3, _ => exact cos_3 w
 | 4, _ => exact cos_4 w
 | 5, _ => exact cos_5 w
 | 6, _ => exact cos_6 w
 | 7, _ => exact cos_7 w
 | 8, _ => exact cos_8 w
 | 9, _ => exact cos_9 w
 | 10, _ => exact cos_10 w
 | 11, _ => exact cos_11 w
 | 12, _ => exact cos_12 w
 | 13, _ => exact cos_13 w
 | 14, _ => exact cos_14 w
 | 15, _ => exact cos_15 w
 | 16, _ => exact cos_16 w
 | 17, _ => exact cos_17 w
 | 18, _ => exact cos_18 w
 | 19, _ => exact cos_19 w
 | 20, _ => exact cos_20 w
 | 21, _ => exact cos_21 w
 | 22, _ => exact cos_22 w
 | 23, _ => exact cos_23 w
 | k + 24, h => exact absurd h (by omega)
theorem place_any (k : Int) (w : World) (h1 : -1000000 ≤ k) (h2 : k ≤ 1000000) : Calls Tryz.prog 134 #[.int .i64 k] w fun e w' => e = .returned (.int .i64 (k % 24)) ∧ w' = w := by
 obtain ⟨a, ha⟩ : ∃ a, a = k.tmod 24 := ⟨_, rfl⟩
 have ha2 : a = if 0 ≤ k then k % 24 else -((-k) % 24) := by
  rw [ha]; split
  ·exact Int.tmod_eq_emod_of_nonneg (by omega)
  ·rw [show k = -(-k) by omega, Int.neg_tmod, Int.tmod_eq_emod_of_nonneg (by omega)]; simp
 have hb : (a + 24).tmod 24 = k % 24 := by
  rw [Int.tmod_eq_emod_of_nonneg (by split at ha2 <;> omega)]; split at ha2 <;> omega
 have hw1 : IntKind.i64.wrap a = a := IntWalk.i64_in _ (by split at ha2 <;> omega)
 have hw2 : IntKind.i64.wrap (a + 24) = a + 24 := IntWalk.i64_in _ (by split at ha2 <;> omega)
 obtain ⟨b, hbb⟩ : ∃ b, b = k % 24 := ⟨_, rfl⟩
 rw [← hbb] at hb ⊢
 have hw3 : IntKind.i64.wrap b = b := IntWalk.i64_in _ (by omega)
 have ha' := ha.symm
 clear ha ha2 hbb h1 h2
 go_enter Tryz.func134, Tryz.ntmps134
 go_wp2_with fail
 go_ret
 exact ⟨rfl, rfl⟩
def RdWv (w : World) (v : Value) (x : W4) (K : Nat) : Prop := ∃ (g0 g1 g2 g3 h0 h1 h2 h3 : Bool) (s0 s1 s2 s3 t r0 r1 r2 r3 u : Value),
 v = .agg #[.bool g0, s0, .bool g1, s1, .bool g2, s2, .bool g3, s3, t, .bool h0, r0, .bool h1, r1, .bool h2, r2, .bool h3, r3, u] ∧
 RdS w (.agg #[.bool g0, s0, .bool g1, s1, .bool g2, s2, .bool g3, s3, t]) x.re K ∧ RdS w (.agg #[.bool h0, r0, .bool h1, r1, .bool h2, r2, .bool h3, r3, u]) x.im K
theorem RdWv.wd {w w' : World} {v : Value} {x : W4} {K : Nat} (h : RdWv w v x K) (hw : Wd w w') : RdWv w' v x K := by
 obtain ⟨g0, g1, g2, g3, h0, h1, h2, h3, s0, s1, s2, s3, t, r0, r1, r2, r3, u, rfl, a, b⟩ := h
 exact ⟨_, _, _, _, _, _, _, _, _, _, _, _, _, _, _, _, _, _, rfl, a.wd hw, b.wd hw⟩
instance wdRdWv (w w' : World) (v : Value) (x : W4) (K : Nat) : WdSt (RdWv w v x K) w w' (RdWv w' v x K) := ⟨fun hT h => h.wd hT⟩
theorem RdWv.mk {w : World} {x : W4} {K : Nat} {g0 g1 g2 g3 h0 h1 h2 h3 : Bool} {s0 s1 s2 s3 t r0 r1 r2 r3 u : Value} (h : RdS w (.agg #[.bool g0, s0, .bool g1, s1, .bool g2, s2, .bool g3, s3, t]) x.re K) (k : RdS w (.agg #[.bool h0, r0, .bool h1, r1, .bool h2, r2, .bool h3, r3, u]) x.im K) :
  RdWv w (.agg #[.bool g0, s0, .bool g1, s1, .bool g2, s2, .bool g3, s3, t, .bool h0, r0, .bool h1, r1, .bool h2, r2, .bool h3, r3, u]) x K := ⟨_, _, _, _, _, _, _, _, _, _, _, _, _, _, _, _, _, _, rfl, h, k⟩
theorem RdWv.mono {w : World} {v : Value} {x : W4} {K L : Nat} (h : RdWv w v x K) (hl : K ≤ L) : RdWv w v x L := by
 obtain ⟨g0, g1, g2, g3, h0, h1, h2, h3, s0, s1, s2, s3, t, r0, r1, r2, r3, u, rfl, a, b⟩ := h
 exact .mk (a.mono hl) (b.mono hl)
theorem RdWv.open {w : World} {v : Value} {x : W4} {K : Nat} (h : RdWv w v x K) : ∃ g0 A0 k0 c0 g1 A1 k1 c1 g2 A2 k2 c2 g3 A3 k3 c3 B m e h0 C0 l0 d0 h1 C1 l1 d1 h2 C2 l2 d2 h3 C3 l3 d3 E i f,
  v = .agg #[.bool g0, .slice A0 k0 c0, .bool g1, .slice A1 k1 c1, .bool g2, .slice A2 k2 c2, .bool g3, .slice A3 k3 c3, .slice B m e, .bool h0, .slice C0 l0 d0, .bool h1, .slice C1 l1 d1, .bool h2, .slice C2 l2 d2, .bool h3, .slice C3 l3 d3, .slice E i f] ∧
  RdWv w (.agg #[.bool g0, .slice A0 k0 c0, .bool g1, .slice A1 k1 c1, .bool g2, .slice A2 k2 c2, .bool g3, .slice A3 k3 c3, .slice B m e, .bool h0, .slice C0 l0 d0, .bool h1, .slice C1 l1 d1, .bool h2, .slice C2 l2 d2, .bool h3, .slice C3 l3 d3, .slice E i f]) x K := by
 obtain ⟨a0, a1, a2, a3, b0, b1, b2, b3, s0, s1, s2, s3, t, r0, r1, r2, r3, u, rfl, h, k⟩ := h
 obtain ⟨_, _, _, _, _, _, _, _, _, _, _, _, _, _, _, _, _, _, _, e, h⟩ := h.open
 obtain ⟨_, _, _, _, _, _, _, _, _, _, _, _, _, _, _, _, _, _, _, e2, k⟩ := k.open
 injection e with e; injection e with e; simp at e
 injection e2 with e2; injection e2 with e2; simp at e2
 obtain ⟨rfl, rfl, rfl, rfl, rfl, rfl, rfl, rfl, rfl⟩ := e
 obtain ⟨rfl, rfl, rfl, rfl, rfl, rfl, rfl, rfl, rfl⟩ := e2
 exact ⟨_, _, _, _, _, _, _, _, _, _, _, _, _, _, _, _, _, _, _, _, _, _, _, _, _, _, _, _, _, _, _, _, _, _, _, _, _, _, rfl, .mk h k⟩
theorem RdWv.parts {w : World} {x : W4} {K : Nat} {g0 g1 g2 g3 h0 h1 h2 h3 : Bool} {s0 s1 s2 s3 t r0 r1 r2 r3 u : Value} (h : RdWv w (.agg #[.bool g0, s0, .bool g1, s1, .bool g2, s2, .bool g3, s3, t, .bool h0, r0, .bool h1, r1, .bool h2, r2, .bool h3, r3, u]) x K) :
  RdS w (.agg #[.bool g0, s0, .bool g1, s1, .bool g2, s2, .bool g3, s3, t]) x.re K ∧ RdS w (.agg #[.bool h0, r0, .bool h1, r1, .bool h2, r2, .bool h3, r3, u]) x.im K := by
 obtain ⟨a0, a1, a2, a3, b0, b1, b2, b3, p0, p1, p2, p3, t', q0, q1, q2, q3, u', e, h, k⟩ := h
 injection e with e; injection e with e; simp at e
 obtain ⟨rfl, rfl, rfl, rfl, rfl, rfl, rfl, rfl, rfl, rfl, rfl, rfl, rfl, rfl, rfl, rfl, rfl, rfl⟩ := e
 exact ⟨h, k⟩
theorem turn_any (k : Int) (w : World) (h1 : -1000000 ≤ k) (h2 : k ≤ 1000000) :
  Calls Tryz.prog 46 #[.int .i64 k] w fun e w' => (∃ v', e = .returned v' ∧ RdWv w' v' (turn k) (3)) ∧ Below w.heap.size w w' := by
 obtain ⟨j, hj⟩ : ∃ j : Nat, (j : Int) = k % 24 := ⟨(k % 24).toNat, by omega⟩
 obtain ⟨i, hi⟩ : ∃ i : Nat, (i : Int) = ((j : Int) - 6) % 24 := ⟨(((j : Int) - 6) % 24).toNat, by omega⟩
 have HP1 : Hid (∀ w, Calls Tryz.prog 134 #[.int .i64 (k)] w fun e w' => e = .returned (.int .i64 (j : Int)) ∧ w' = w) := fun w => by rw [hj]; exact place_any k w h1 h2
 have HP2 : Hid (∀ w, Calls Tryz.prog 134 #[.int .i64 ((j : Int) - 6)] w fun e w' => e = .returned (.int .i64 (i : Int)) ∧ w' = w) := fun w => by rw [hi]; exact place_any _ w (by omega) (by omega)
 have hw : IntKind.i64.wrap ((j : Int) - 6) = (j : Int) - 6 := IntWalk.i64_in _ (by omega)
 have HJ : Hid (j < 24) := by show j < 24; omega
 have HI : Hid (i < 24) := by show i < 24; omega
 have HT1 : Hid (cosN j = (turn k).re) := by show _ = cosN (k % 24).toNat; congr 1; omega
 have HT2 : Hid (cosN i = (turn k).im) := by show _ = cosN (((k % 24).toNat + 18) % 24); congr 1; omega
 clear hj hi h1 h2
 go_enter Tryz.func46, Tryz.ntmps46
 obtain ⟨W1, HW1, HB2, s1w, j1⟩ := st_al0 w #[.bool false, .slice none 0 0, .bool false, .slice none 0 0, .bool false, .slice none 0 0, .bool false, .slice none 0 0, .slice none 0 0, .bool false, .slice none 0 0, .bool false, .slice none 0 0, .bool false, .slice none 0 0, .bool false, .slice none 0 0, .slice none 0 0] 88
 have l2b : Hid (w.heap.size ≤ w.heap.size) := by show _ ≤ _; omega
 have HBw := h0d j1
 go_wp2_with fail
 rw [← HW1.out]
 refine (HP1.out _).mono ?_
 rintro e w1 ⟨rfl, hwx⟩
 obtain rfl := hwx.symm
 go_wp2_with fail
 refine mS (cosine_any j _ HJ.out) fun w2 g2a A2a k2a c2a g2b A2b k2b c2b g2c A2c k2c c2c g2d A2d k2d c2d A2e k2e c2e HR2 j2c => ?_
 go_wp2_with fail
 refine (HP2.out _).mono ?_
 rintro e w3 ⟨rfl, hwx⟩
 obtain rfl := hwx.symm
 go_wp2_with fail
 refine mS (cosine_any i _ HI.out) fun w4 g4a A4a k4a c4a g4b A4b k4b c4b g4c A4c k4c c4c g4d A4d k4d c4d A4e k4e c4e HR4 j4c => ?_
 have jm1 := tt j2c j4c
 replace HB2 := kB HB2 jm1
 have t3h := kth 0 18 HB2
 obtain ⟨W4, HW4⟩ : ∃ W, Hid (W = w4.setCells (w.heap.size) 0 [.bool g2a, .slice A2a k2a c2a, .bool g2b, .slice A2b k2b c2b, .bool g2c, .slice A2c k2c c2c, .bool g2d, .slice A2d k2d c2d, .slice A2e k2e c2e, .bool g4a, .slice A4a k4a c4a, .bool g4b, .slice A4b k4b c4b, .bool g4c, .slice A4c k4c c4c, .bool g4d, .slice A4d k4d c4d, .slice A4e k4e c4e]) := ⟨_, rfl⟩
 have TW4 := kN (kM HW4) HB2 rfl rfl
 replace HB2 := kP (ds := [.bool g2a, .slice A2a k2a c2a, .bool g2b, .slice A2b k2b c2b, .bool g2c, .slice A2c k2c c2c, .bool g2d, .slice A2d k2d c2d, .slice A2e k2e c2e, .bool g4a, .slice A4a k4a c4a, .bool g4b, .slice A4b k4b c4b, .bool g4c, .slice A4c k4c c4c, .bool g4d, .slice A4d k4d c4d, .slice A4e k4e c4e]) (kM HW4) HB2 rfl rfl
 go_wp2_with (refine smd 88 (w.heap.size) 0 (ht := by exact t3h) (h := ?_))
 rw [← HW4.out]
 clear t3h
 replace HR2 := kW TW4 (kV j4c HR2)
 replace HR4 := kW TW4 HR4
 replace HBw := kS (kM HW4) l2b (kU HBw jm1)
 exact bodyPost_ret (results_cell rfl (by rfl) (blk_all HB2.out) Tryz.underlying88 rfl (by kernel_rfl)) rfl ⟨⟨_, rfl, (show RdWv _ _ (turn k) 3 from RdWv.mk (x := turn k) (by rw [← HT1.out]; exact HR2.out) (by rw [← HT2.out]; exact HR4.out))⟩, HBw.out⟩
theorem re_any (v : Value) (x : W4) (Ks : Nat) (w : World) (hv : RdWv w v x Ks) :
  Calls Tryz.prog 144 #[v] w fun e w' => (∃ v', e = .returned v' ∧ RdS w' v' (x.re) (Ks)) ∧ Below w.heap.size w w' := by
 obtain ⟨gp0a, Ap0a, kp0a, cp0a, gp0b, Ap0b, kp0b, cp0b, gp0c, Ap0c, kp0c, cp0c, gp0d, Ap0d, kp0d, cp0d, Ap0e, kp0e, cp0e, gp0f, Ap0f, kp0f, cp0f, gp0g, Ap0g, kp0g, cp0g, gp0h, Ap0h, kp0h, cp0h, gp0i, Ap0i, kp0i, cp0i, Ap0j, kp0j, cp0j, rfl, hv⟩ := hv.open
 have HX0 := h0d hv
 clear hv
 go_enter Tryz.func144, Tryz.ntmps144
 obtain ⟨W1, HW1, HB2, s1w, j1⟩ := st_al0 w #[.bool gp0a, .slice Ap0a kp0a cp0a, .bool gp0b, .slice Ap0b kp0b cp0b, .bool gp0c, .slice Ap0c kp0c cp0c, .bool gp0d, .slice Ap0d kp0d cp0d, .slice Ap0e kp0e cp0e, .bool gp0f, .slice Ap0f kp0f cp0f, .bool gp0g, .slice Ap0g kp0g cp0g, .bool gp0h, .slice Ap0h kp0h cp0h, .bool gp0i, .slice Ap0i kp0i cp0i, .slice Ap0j kp0j cp0j] 88
 have HBw := h0d j1
 obtain ⟨W3, HW3, HB4, s3w, j2⟩ := st_alk 1 2 #[.bool gp0a, .slice Ap0a kp0a cp0a, .bool gp0b, .slice Ap0b kp0b cp0b, .bool gp0c, .slice Ap0c kp0c cp0c, .bool gp0d, .slice Ap0d kp0d cp0d, .slice Ap0e kp0e cp0e] 30 s1w rfl
 go_wp2_with fail
 rw [← HW1.out, ← HW3.out]
 replace HBw := kU HBw j2
 replace HX0 := kV HBw.out HX0
 exact bodyPost_ret (results_cell rfl (by rfl) (blk_all HB4.out) Tryz.underlying30 rfl (by kernel_rfl)) rfl ⟨⟨_, rfl, HX0.out.parts.1⟩, HBw.out⟩
end Go.Proofs.YtodckaioeomccaaGreat
