/- Walks of complex numbers: Add, Mul, Same, Of, Norm. -/
import Derived.Test.YtodckaioeomccaaGreatPart29
import Derived.Test.YtodckaioeomccaaGreatPart30
namespace Go.Proofs.YtodckaioeomccaaGreat
open Go.RowKit Go.Proofs.S4P
set_option linter.unusedVariables false
set_option linter.unusedSimpArgs false
set_option maxRecDepth 100000
set_option maxHeartbeats 4000000
theorem rdS_zero (w : World) {K : Nat} (hK : 1 ≤ K) : RdS w (.agg #[.bool false, .slice none 0 0, .bool false, .slice none 0 0, .bool false, .slice none 0 0, .bool false, .slice none 0 0, .slice none 0 0]) .zero K :=
 ⟨0, 0, 0, 0, 1, RdSn.mk (RdZ.nil0 _) (RdZ.nil0 _) (RdZ.nil0 _) (RdZ.nil0 _) (show RdN _ _ (den1 1) from RdN.nil0 _), Sx.mono (K := 1) ⟨by decide, ⟨by decide +kernel, by decide +kernel, by decide +kernel, by decide +kernel⟩, ⟨dl_small (by decide), dl_small (by decide), dl_small (by decide), dl_small (by decide)⟩, dl_small (by decide)⟩ hK⟩
theorem rdWv_zero (w : World) {K : Nat} (hK : 1 ≤ K) : RdWv w (.agg #[.bool false, .slice none 0 0, .bool false, .slice none 0 0, .bool false, .slice none 0 0, .bool false, .slice none 0 0, .slice none 0 0, .bool false, .slice none 0 0, .bool false, .slice none 0 0, .bool false, .slice none 0 0, .bool false, .slice none 0 0, .slice none 0 0]) .zero K :=
 RdWv.mk (x := .zero) (rdS_zero w hK) (rdS_zero w hK)
theorem wadd_any (v u : Value) (x y : W4) (K L : Nat) (w : World) (hv : RdWv w v x K) (hu : RdWv w u y L) (hK : K ≤ 40000) (hL : L ≤ 40000) :
  Calls Tryz.prog 62 #[v, u] w fun e w' => (∃ v', e = .returned v' ∧ RdWv w' v' (x.add y) (K + L + 1)) ∧ Below w.heap.size w w' := by
 obtain ⟨gp0a, Ap0a, kp0a, cp0a, gp0b, Ap0b, kp0b, cp0b, gp0c, Ap0c, kp0c, cp0c, gp0d, Ap0d, kp0d, cp0d, Ap0e, kp0e, cp0e, gp0f, Ap0f, kp0f, cp0f, gp0g, Ap0g, kp0g, cp0g, gp0h, Ap0h, kp0h, cp0h, gp0i, Ap0i, kp0i, cp0i, Ap0j, kp0j, cp0j, rfl, hv⟩ := hv.open
 have HX0 := h0d hv
 clear hv
 obtain ⟨gp1a, Ap1a, kp1a, cp1a, gp1b, Ap1b, kp1b, cp1b, gp1c, Ap1c, kp1c, cp1c, gp1d, Ap1d, kp1d, cp1d, Ap1e, kp1e, cp1e, gp1f, Ap1f, kp1f, cp1f, gp1g, Ap1g, kp1g, cp1g, gp1h, Ap1h, kp1h, cp1h, gp1i, Ap1i, kp1i, cp1i, Ap1j, kp1j, cp1j, rfl, hu⟩ := hu.open
 have HX1 := h0d hu
 clear hu
 go_enter Tryz.func62, Tryz.ntmps62
 obtain ⟨W1, HW1, HB2, s1w, j1⟩ := st_al0 w #[.bool gp0a, .slice Ap0a kp0a cp0a, .bool gp0b, .slice Ap0b kp0b cp0b, .bool gp0c, .slice Ap0c kp0c cp0c, .bool gp0d, .slice Ap0d kp0d cp0d, .slice Ap0e kp0e cp0e, .bool gp0f, .slice Ap0f kp0f cp0f, .bool gp0g, .slice Ap0g kp0g cp0g, .bool gp0h, .slice Ap0h kp0h cp0h, .bool gp0i, .slice Ap0i kp0i cp0i, .slice Ap0j kp0j cp0j] 88
 have HBw := h0d j1
 obtain ⟨W3, HW3, HB4, s3w, j2⟩ := st_alk 1 2 #[.bool gp1a, .slice Ap1a kp1a cp1a, .bool gp1b, .slice Ap1b kp1b cp1b, .bool gp1c, .slice Ap1c kp1c cp1c, .bool gp1d, .slice Ap1d kp1d cp1d, .slice Ap1e kp1e cp1e, .bool gp1f, .slice Ap1f kp1f cp1f, .bool gp1g, .slice Ap1g kp1g cp1g, .bool gp1h, .slice Ap1h kp1h cp1h, .bool gp1i, .slice Ap1i kp1i cp1i, .slice Ap1j kp1j cp1j] 88 s1w rfl
 obtain ⟨W5, HW5, HB6, s5w, j3⟩ := st_alk 2 3 #[.bool false, .slice none 0 0, .bool false, .slice none 0 0, .bool false, .slice none 0 0, .bool false, .slice none 0 0, .slice none 0 0, .bool false, .slice none 0 0, .bool false, .slice none 0 0, .bool false, .slice none 0 0, .bool false, .slice none 0 0, .slice none 0 0] 88 s3w rfl
 have n2b6 : Hid (w.heap.size ≠ w.heap.size + 2) := by show _ ≠ _; omega
 have n4b6 : Hid (w.heap.size + 1 ≠ w.heap.size + 2) := by show _ ≠ _; omega
 have l6b : Hid (w.heap.size ≤ w.heap.size + 2) := by show _ ≤ _; omega
 go_wp2_with fail
 rw [← HW1.out, ← HW3.out, ← HW5.out]
 obtain ⟨W7, hW7⟩ : ∃ W, W = W5.drew := ⟨_, rfl⟩
 have j4 : Below W5.heap.size W5 W7 := by rw [hW7]; exact (Below.refl _ _).drew
 have jm1 := tt (tt j2 j3) j4
 replace HB2 := kB HB2 jm1
 have jm2 := tt j3 j4
 replace HB4 := kB HB4 jm2
 refine seq_start (S := fun w' => w'.cell? ⟨w.heap.size, 0, none⟩ = some (.bool gp0a) ∧ w'.cell? ⟨w.heap.size, 1, none⟩ = some (.slice Ap0a kp0a cp0a) ∧ w'.cell? ⟨w.heap.size, 2, none⟩ = some (.bool gp0b) ∧ w'.cell? ⟨w.heap.size, 3, none⟩ = some (.slice Ap0b kp0b cp0b) ∧ w'.cell? ⟨w.heap.size, 4, none⟩ = some (.bool gp0c) ∧ w'.cell? ⟨w.heap.size, 5, none⟩ = some (.slice Ap0c kp0c cp0c) ∧ w'.cell? ⟨w.heap.size, 6, none⟩ = some (.bool gp0d) ∧ w'.cell? ⟨w.heap.size, 7, none⟩ = some (.slice Ap0d kp0d cp0d) ∧ w'.cell? ⟨w.heap.size, 8, none⟩ = some (.slice Ap0e kp0e cp0e) ∧ w'.cell? ⟨w.heap.size + 1, 0, none⟩ = some (.bool gp1a) ∧ w'.cell? ⟨w.heap.size + 1, 1, none⟩ = some (.slice Ap1a kp1a cp1a) ∧ w'.cell? ⟨w.heap.size + 1, 2, none⟩ = some (.bool gp1b) ∧ w'.cell? ⟨w.heap.size + 1, 3, none⟩ = some (.slice Ap1b kp1b cp1b) ∧ w'.cell? ⟨w.heap.size + 1, 4, none⟩ = some (.bool gp1c) ∧ w'.cell? ⟨w.heap.size + 1, 5, none⟩ = some (.slice Ap1c kp1c cp1c) ∧ w'.cell? ⟨w.heap.size + 1, 6, none⟩ = some (.bool gp1d) ∧ w'.cell? ⟨w.heap.size + 1, 7, none⟩ = some (.slice Ap1d kp1d cp1d) ∧ w'.cell? ⟨w.heap.size + 1, 8, none⟩ = some (.slice Ap1e kp1e cp1e) ∧ w'.cell? ⟨w.heap.size, 9, none⟩ = some (.bool gp0f) ∧ w'.cell? ⟨w.heap.size, 10, none⟩ = some (.slice Ap0f kp0f cp0f) ∧ w'.cell? ⟨w.heap.size, 11, none⟩ = some (.bool gp0g) ∧ w'.cell? ⟨w.heap.size, 12, none⟩ = some (.slice Ap0g kp0g cp0g) ∧ w'.cell? ⟨w.heap.size, 13, none⟩ = some (.bool gp0h) ∧ w'.cell? ⟨w.heap.size, 14, none⟩ = some (.slice Ap0h kp0h cp0h) ∧ w'.cell? ⟨w.heap.size, 15, none⟩ = some (.bool gp0i) ∧ w'.cell? ⟨w.heap.size, 16, none⟩ = some (.slice Ap0i kp0i cp0i) ∧ w'.cell? ⟨w.heap.size, 17, none⟩ = some (.slice Ap0j kp0j cp0j) ∧ w'.cell? ⟨w.heap.size + 1, 9, none⟩ = some (.bool gp1f) ∧ w'.cell? ⟨w.heap.size + 1, 10, none⟩ = some (.slice Ap1f kp1f cp1f) ∧ w'.cell? ⟨w.heap.size + 1, 11, none⟩ = some (.bool gp1g) ∧ w'.cell? ⟨w.heap.size + 1, 12, none⟩ = some (.slice Ap1g kp1g cp1g) ∧ w'.cell? ⟨w.heap.size + 1, 13, none⟩ = some (.bool gp1h) ∧ w'.cell? ⟨w.heap.size + 1, 14, none⟩ = some (.slice Ap1h kp1h cp1h) ∧ w'.cell? ⟨w.heap.size + 1, 15, none⟩ = some (.bool gp1i) ∧ w'.cell? ⟨w.heap.size + 1, 16, none⟩ = some (.slice Ap1i kp1i cp1i) ∧ w'.cell? ⟨w.heap.size + 1, 17, none⟩ = some (.slice Ap1j kp1j cp1j)) (by kernel_rfl) (by kernel_rfl) (by rw [← hW7]; exact ⟨kD HB2 0, kD HB2 1, kD HB2 2, kD HB2 3, kD HB2 4, kD HB2 5, kD HB2 6, kD HB2 7, kD HB2 8, kD HB4 0, kD HB4 1, kD HB4 2, kD HB4 3, kD HB4 4, kD HB4 5, kD HB4 6, kD HB4 7, kD HB4 8, kD HB2 9, kD HB2 10, kD HB2 11, kD HB2 12, kD HB2 13, kD HB2 14, kD HB2 15, kD HB2 16, kD HB2 17, kD HB4 9, kD HB4 10, kD HB4 11, kD HB4 12, kD HB4 13, kD HB4 14, kD HB4 15, kD HB4 16, kD HB4 17⟩) ?_
 rw [← hW7]
 clear hW7
 iterate 4 refine tk0 (h := ?_)
 iterate 4 (refine plq 1 (h := ?_); refine tk0 (h := ?_))
 refine sop (h := fun K9 hK9 => ?_)
 go_simp
 replace HBw := kU HBw jm1
 replace HX0 := kV HBw.out HX0
 replace HX1 := kV HBw.out HX1
 refine mS (saddS_any _ _ x.re y.re K L _ HX0.out.parts.1 HX1.out.parts.1 (by omega) (by omega)) fun w1 g1a A1a k1a c1a g1b A1b k1b c1b g1c A1c k1c c1c g1d A1d k1d c1d A1e k1e c1e HR1 j1c => ?_
 replace HB2 := kB HB2 j1c
 replace HB4 := kB HB4 j1c
 refine ckk hK9 (by exact ⟨kD HB2 0, kD HB2 1, kD HB2 2, kD HB2 3, kD HB2 4, kD HB2 5, kD HB2 6, kD HB2 7, kD HB2 8, kD HB4 0, kD HB4 1, kD HB4 2, kD HB4 3, kD HB4 4, kD HB4 5, kD HB4 6, kD HB4 7, kD HB4 8, kD HB2 9, kD HB2 10, kD HB2 11, kD HB2 12, kD HB2 13, kD HB2 14, kD HB2 15, kD HB2 16, kD HB2 17, kD HB4 9, kD HB4 10, kD HB4 11, kD HB4 12, kD HB4 13, kD HB4 14, kD HB4 15, kD HB4 16, kD HB4 17⟩) (h := ?_)
 clear hK9 K9
 refine sop (h := fun K9 hK9 => ?_)
 go_simp
 replace HX0 := kV j1c HX0
 replace HX1 := kV j1c HX1
 refine mS (saddS_any _ _ x.im y.im K L _ HX0.out.parts.2 HX1.out.parts.2 (by omega) (by omega)) fun w2 g2a A2a k2a c2a g2b A2b k2b c2b g2c A2c k2c c2c g2d A2d k2d c2d A2e k2e c2e HR2 j2c => ?_
 replace HB2 := kB HB2 j2c
 replace HB4 := kB HB4 j2c
 refine ckk hK9 (by exact ⟨kD HB2 0, kD HB2 1, kD HB2 2, kD HB2 3, kD HB2 4, kD HB2 5, kD HB2 6, kD HB2 7, kD HB2 8, kD HB4 0, kD HB4 1, kD HB4 2, kD HB4 3, kD HB4 4, kD HB4 5, kD HB4 6, kD HB4 7, kD HB4 8, kD HB2 9, kD HB2 10, kD HB2 11, kD HB2 12, kD HB2 13, kD HB2 14, kD HB2 15, kD HB2 16, kD HB2 17, kD HB4 9, kD HB4 10, kD HB4 11, kD HB4 12, kD HB4 13, kD HB4 14, kD HB4 15, kD HB4 16, kD HB4 17⟩) (h := ?_)
 clear hK9 K9
 refine tk0 (h := ?_)
 refine sop (h := fun K9 hK9 => ?_)
 have jm3 := tt (tt j4 j1c) j2c
 replace HB6 := kB HB6 jm3
 have t8h := kth 0 18 HB6
 refine smw 88 (w.heap.size + 2) 0 (ht := by exact t8h) (h := ?_)
 obtain ⟨W9, HW9⟩ : ∃ W, Hid (W = w2.setCells (w.heap.size + 2) 0 [.bool g1a, .slice A1a k1a c1a, .bool g1b, .slice A1b k1b c1b, .bool g1c, .slice A1c k1c c1c, .bool g1d, .slice A1d k1d c1d, .slice A1e k1e c1e, .bool g2a, .slice A2a k2a c2a, .bool g2b, .slice A2b k2b c2b, .bool g2c, .slice A2c k2c c2c, .bool g2d, .slice A2d k2d c2d, .slice A2e k2e c2e]) := ⟨_, rfl⟩
 have TW9 := kN (kM HW9) HB6 rfl rfl
 replace HB6 := kP (ds := [.bool g1a, .slice A1a k1a c1a, .bool g1b, .slice A1b k1b c1b, .bool g1c, .slice A1c k1c c1c, .bool g1d, .slice A1d k1d c1d, .slice A1e k1e c1e, .bool g2a, .slice A2a k2a c2a, .bool g2b, .slice A2b k2b c2b, .bool g2c, .slice A2c k2c c2c, .bool g2d, .slice A2d k2d c2d, .slice A2e k2e c2e]) (kM HW9) HB6 rfl rfl
 rw [← HW9.out]
 replace HB2 := kO (kM HW9) HB2 n2b6.out
 replace HB4 := kO (kM HW9) HB4 n4b6.out
 refine ckk hK9 (by exact ⟨kD HB2 0, kD HB2 1, kD HB2 2, kD HB2 3, kD HB2 4, kD HB2 5, kD HB2 6, kD HB2 7, kD HB2 8, kD HB4 0, kD HB4 1, kD HB4 2, kD HB4 3, kD HB4 4, kD HB4 5, kD HB4 6, kD HB4 7, kD HB4 8, kD HB2 9, kD HB2 10, kD HB2 11, kD HB2 12, kD HB2 13, kD HB2 14, kD HB2 15, kD HB2 16, kD HB2 17, kD HB4 9, kD HB4 10, kD HB4 11, kD HB4 12, kD HB4 13, kD HB4 14, kD HB4 15, kD HB4 16, kD HB4 17⟩) (h := ?_)
 clear hK9 K9 t8h
 refine seq_done (by kernel_rfl) ?_
 go_wp2_with fail
 replace HR1 := kW TW9 (kV j2c HR1)
 replace HR2 := kW TW9 HR2
 have jm4 := tt j1c j2c
 replace HBw := kS (kM HW9) l6b (kU HBw jm4)
 exact bodyPost_ret (results_cell rfl (by rfl) (blk_all HB6.out) Tryz.underlying88 rfl (by kernel_rfl)) rfl ⟨⟨_, rfl, (show RdWv _ _ (x.add y) (K + L + 1) from RdWv.mk (x := x.add y) HR1.out HR2.out)⟩, HBw.out⟩
theorem wmul_any (v u : Value) (x y : W4) (K L : Nat) (w : World) (hv : RdWv w v x K) (hu : RdWv w u y L) (hK : K ≤ 40000) (hL : L ≤ 40000) :
  Calls Tryz.prog 45 #[v, u] w fun e w' => (∃ v', e = .returned v' ∧ RdWv w' v' (x.mul y) (K + L + 4 + (K + L + 4) + 1)) ∧ Below w.heap.size w w' := by
 obtain ⟨gp0a, Ap0a, kp0a, cp0a, gp0b, Ap0b, kp0b, cp0b, gp0c, Ap0c, kp0c, cp0c, gp0d, Ap0d, kp0d, cp0d, Ap0e, kp0e, cp0e, gp0f, Ap0f, kp0f, cp0f, gp0g, Ap0g, kp0g, cp0g, gp0h, Ap0h, kp0h, cp0h, gp0i, Ap0i, kp0i, cp0i, Ap0j, kp0j, cp0j, rfl, hv⟩ := hv.open
 have HX0 := h0d hv
 clear hv
 obtain ⟨gp1a, Ap1a, kp1a, cp1a, gp1b, Ap1b, kp1b, cp1b, gp1c, Ap1c, kp1c, cp1c, gp1d, Ap1d, kp1d, cp1d, Ap1e, kp1e, cp1e, gp1f, Ap1f, kp1f, cp1f, gp1g, Ap1g, kp1g, cp1g, gp1h, Ap1h, kp1h, cp1h, gp1i, Ap1i, kp1i, cp1i, Ap1j, kp1j, cp1j, rfl, hu⟩ := hu.open
 have HX1 := h0d hu
 clear hu
 go_enter Tryz.func45, Tryz.ntmps45
 obtain ⟨W1, HW1, HB2, s1w, j1⟩ := st_al0 w #[.bool gp0a, .slice Ap0a kp0a cp0a, .bool gp0b, .slice Ap0b kp0b cp0b, .bool gp0c, .slice Ap0c kp0c cp0c, .bool gp0d, .slice Ap0d kp0d cp0d, .slice Ap0e kp0e cp0e, .bool gp0f, .slice Ap0f kp0f cp0f, .bool gp0g, .slice Ap0g kp0g cp0g, .bool gp0h, .slice Ap0h kp0h cp0h, .bool gp0i, .slice Ap0i kp0i cp0i, .slice Ap0j kp0j cp0j] 88
 have HBw := h0d j1
 obtain ⟨W3, HW3, HB4, s3w, j2⟩ := st_alk 1 2 #[.bool gp1a, .slice Ap1a kp1a cp1a, .bool gp1b, .slice Ap1b kp1b cp1b, .bool gp1c, .slice Ap1c kp1c cp1c, .bool gp1d, .slice Ap1d kp1d cp1d, .slice Ap1e kp1e cp1e, .bool gp1f, .slice Ap1f kp1f cp1f, .bool gp1g, .slice Ap1g kp1g cp1g, .bool gp1h, .slice Ap1h kp1h cp1h, .bool gp1i, .slice Ap1i kp1i cp1i, .slice Ap1j kp1j cp1j] 88 s1w rfl
 obtain ⟨W5, HW5, HB6, s5w, j3⟩ := st_alk 2 3 #[.bool false, .slice none 0 0, .bool false, .slice none 0 0, .bool false, .slice none 0 0, .bool false, .slice none 0 0, .slice none 0 0, .bool false, .slice none 0 0, .bool false, .slice none 0 0, .bool false, .slice none 0 0, .bool false, .slice none 0 0, .slice none 0 0] 88 s3w rfl
 have n2b6 : Hid (w.heap.size ≠ w.heap.size + 2) := by show _ ≠ _; omega
 have n4b6 : Hid (w.heap.size + 1 ≠ w.heap.size + 2) := by show _ ≠ _; omega
 have l6b : Hid (w.heap.size ≤ w.heap.size + 2) := by show _ ≤ _; omega
 go_wp2_with fail
 rw [← HW1.out, ← HW3.out, ← HW5.out]
 obtain ⟨W7, hW7⟩ : ∃ W, W = W5.drew := ⟨_, rfl⟩
 have j4 : Below W5.heap.size W5 W7 := by rw [hW7]; exact (Below.refl _ _).drew
 have jm1 := tt (tt j2 j3) j4
 replace HB2 := kB HB2 jm1
 have jm2 := tt j3 j4
 replace HB4 := kB HB4 jm2
 refine seq_start (S := fun w' => w'.cell? ⟨w.heap.size, 0, none⟩ = some (.bool gp0a) ∧ w'.cell? ⟨w.heap.size, 1, none⟩ = some (.slice Ap0a kp0a cp0a) ∧ w'.cell? ⟨w.heap.size, 2, none⟩ = some (.bool gp0b) ∧ w'.cell? ⟨w.heap.size, 3, none⟩ = some (.slice Ap0b kp0b cp0b) ∧ w'.cell? ⟨w.heap.size, 4, none⟩ = some (.bool gp0c) ∧ w'.cell? ⟨w.heap.size, 5, none⟩ = some (.slice Ap0c kp0c cp0c) ∧ w'.cell? ⟨w.heap.size, 6, none⟩ = some (.bool gp0d) ∧ w'.cell? ⟨w.heap.size, 7, none⟩ = some (.slice Ap0d kp0d cp0d) ∧ w'.cell? ⟨w.heap.size, 8, none⟩ = some (.slice Ap0e kp0e cp0e) ∧ w'.cell? ⟨w.heap.size + 1, 0, none⟩ = some (.bool gp1a) ∧ w'.cell? ⟨w.heap.size + 1, 1, none⟩ = some (.slice Ap1a kp1a cp1a) ∧ w'.cell? ⟨w.heap.size + 1, 2, none⟩ = some (.bool gp1b) ∧ w'.cell? ⟨w.heap.size + 1, 3, none⟩ = some (.slice Ap1b kp1b cp1b) ∧ w'.cell? ⟨w.heap.size + 1, 4, none⟩ = some (.bool gp1c) ∧ w'.cell? ⟨w.heap.size + 1, 5, none⟩ = some (.slice Ap1c kp1c cp1c) ∧ w'.cell? ⟨w.heap.size + 1, 6, none⟩ = some (.bool gp1d) ∧ w'.cell? ⟨w.heap.size + 1, 7, none⟩ = some (.slice Ap1d kp1d cp1d) ∧ w'.cell? ⟨w.heap.size + 1, 8, none⟩ = some (.slice Ap1e kp1e cp1e) ∧ w'.cell? ⟨w.heap.size, 9, none⟩ = some (.bool gp0f) ∧ w'.cell? ⟨w.heap.size, 10, none⟩ = some (.slice Ap0f kp0f cp0f) ∧ w'.cell? ⟨w.heap.size, 11, none⟩ = some (.bool gp0g) ∧ w'.cell? ⟨w.heap.size, 12, none⟩ = some (.slice Ap0g kp0g cp0g) ∧ w'.cell? ⟨w.heap.size, 13, none⟩ = some (.bool gp0h) ∧ w'.cell? ⟨w.heap.size, 14, none⟩ = some (.slice Ap0h kp0h cp0h) ∧ w'.cell? ⟨w.heap.size, 15, none⟩ = some (.bool gp0i) ∧ w'.cell? ⟨w.heap.size, 16, none⟩ = some (.slice Ap0i kp0i cp0i) ∧ w'.cell? ⟨w.heap.size, 17, none⟩ = some (.slice Ap0j kp0j cp0j) ∧ w'.cell? ⟨w.heap.size + 1, 9, none⟩ = some (.bool gp1f) ∧ w'.cell? ⟨w.heap.size + 1, 10, none⟩ = some (.slice Ap1f kp1f cp1f) ∧ w'.cell? ⟨w.heap.size + 1, 11, none⟩ = some (.bool gp1g) ∧ w'.cell? ⟨w.heap.size + 1, 12, none⟩ = some (.slice Ap1g kp1g cp1g) ∧ w'.cell? ⟨w.heap.size + 1, 13, none⟩ = some (.bool gp1h) ∧ w'.cell? ⟨w.heap.size + 1, 14, none⟩ = some (.slice Ap1h kp1h cp1h) ∧ w'.cell? ⟨w.heap.size + 1, 15, none⟩ = some (.bool gp1i) ∧ w'.cell? ⟨w.heap.size + 1, 16, none⟩ = some (.slice Ap1i kp1i cp1i) ∧ w'.cell? ⟨w.heap.size + 1, 17, none⟩ = some (.slice Ap1j kp1j cp1j)) (by kernel_rfl) (by kernel_rfl) (by rw [← hW7]; exact ⟨kD HB2 0, kD HB2 1, kD HB2 2, kD HB2 3, kD HB2 4, kD HB2 5, kD HB2 6, kD HB2 7, kD HB2 8, kD HB4 0, kD HB4 1, kD HB4 2, kD HB4 3, kD HB4 4, kD HB4 5, kD HB4 6, kD HB4 7, kD HB4 8, kD HB2 9, kD HB2 10, kD HB2 11, kD HB2 12, kD HB2 13, kD HB2 14, kD HB2 15, kD HB2 16, kD HB2 17, kD HB4 9, kD HB4 10, kD HB4 11, kD HB4 12, kD HB4 13, kD HB4 14, kD HB4 15, kD HB4 16, kD HB4 17⟩) ?_
 rw [← hW7]
 clear hW7
 iterate 4 refine tk0 (h := ?_)
 iterate 4 (refine plq 1 (h := ?_); refine tk0 (h := ?_))
 iterate 4 (refine plq 3 (h := ?_); refine tk0 (h := ?_))
 iterate 4 (refine plq 4 (h := ?_); refine tk0 (h := ?_))
 refine sop (h := fun K9 hK9 => ?_)
 go_simp
 replace HBw := kU HBw jm1
 replace HX0 := kV HBw.out HX0
 replace HX1 := kV HBw.out HX1
 refine mS (smulS_any _ _ x.re y.re K L _ HX0.out.parts.1 HX1.out.parts.1 (by omega) (by omega)) fun w1 g1a A1a k1a c1a g1b A1b k1b c1b g1c A1c k1c c1c g1d A1d k1d c1d A1e k1e c1e HR1 j1c => ?_
 replace HB2 := kB HB2 j1c
 replace HB4 := kB HB4 j1c
 refine ckk hK9 (by exact ⟨kD HB2 0, kD HB2 1, kD HB2 2, kD HB2 3, kD HB2 4, kD HB2 5, kD HB2 6, kD HB2 7, kD HB2 8, kD HB4 0, kD HB4 1, kD HB4 2, kD HB4 3, kD HB4 4, kD HB4 5, kD HB4 6, kD HB4 7, kD HB4 8, kD HB2 9, kD HB2 10, kD HB2 11, kD HB2 12, kD HB2 13, kD HB2 14, kD HB2 15, kD HB2 16, kD HB2 17, kD HB4 9, kD HB4 10, kD HB4 11, kD HB4 12, kD HB4 13, kD HB4 14, kD HB4 15, kD HB4 16, kD HB4 17⟩) (h := ?_)
 clear hK9 K9
 refine sop (h := fun K9 hK9 => ?_)
 go_simp
 replace HX0 := kV j1c HX0
 replace HX1 := kV j1c HX1
 refine mS (smulS_any _ _ x.im y.im K L _ HX0.out.parts.2 HX1.out.parts.2 (by omega) (by omega)) fun w2 g2a A2a k2a c2a g2b A2b k2b c2b g2c A2c k2c c2c g2d A2d k2d c2d A2e k2e c2e HR2 j2c => ?_
 replace HB2 := kB HB2 j2c
 replace HB4 := kB HB4 j2c
 refine ckk hK9 (by exact ⟨kD HB2 0, kD HB2 1, kD HB2 2, kD HB2 3, kD HB2 4, kD HB2 5, kD HB2 6, kD HB2 7, kD HB2 8, kD HB4 0, kD HB4 1, kD HB4 2, kD HB4 3, kD HB4 4, kD HB4 5, kD HB4 6, kD HB4 7, kD HB4 8, kD HB2 9, kD HB2 10, kD HB2 11, kD HB2 12, kD HB2 13, kD HB2 14, kD HB2 15, kD HB2 16, kD HB2 17, kD HB4 9, kD HB4 10, kD HB4 11, kD HB4 12, kD HB4 13, kD HB4 14, kD HB4 15, kD HB4 16, kD HB4 17⟩) (h := ?_)
 clear hK9 K9
 refine sop (h := fun K9 hK9 => ?_)
 go_simp
 replace HR1 := kV j2c HR1
 refine mS (ssubS_any _ _ (x.re.mul y.re) (x.im.mul y.im) (K + L + 4) (K + L + 4) _ HR1.out HR2.out (by omega) (by omega)) fun w3 g3a A3a k3a c3a g3b A3b k3b c3b g3c A3c k3c c3c g3d A3d k3d c3d A3e k3e c3e HR3 j3c => ?_
 replace HB2 := kB HB2 j3c
 replace HB4 := kB HB4 j3c
 refine ckk hK9 (by exact ⟨kD HB2 0, kD HB2 1, kD HB2 2, kD HB2 3, kD HB2 4, kD HB2 5, kD HB2 6, kD HB2 7, kD HB2 8, kD HB4 0, kD HB4 1, kD HB4 2, kD HB4 3, kD HB4 4, kD HB4 5, kD HB4 6, kD HB4 7, kD HB4 8, kD HB2 9, kD HB2 10, kD HB2 11, kD HB2 12, kD HB2 13, kD HB2 14, kD HB2 15, kD HB2 16, kD HB2 17, kD HB4 9, kD HB4 10, kD HB4 11, kD HB4 12, kD HB4 13, kD HB4 14, kD HB4 15, kD HB4 16, kD HB4 17⟩) (h := ?_)
 clear hK9 K9
 refine sop (h := fun K9 hK9 => ?_)
 go_simp
 have jm3 := tt j2c j3c
 replace HX0 := kV jm3 HX0
 replace HX1 := kV jm3 HX1
 refine mS (smulS_any _ _ x.re y.im K L _ HX0.out.parts.1 HX1.out.parts.2 (by omega) (by omega)) fun w4 g4a A4a k4a c4a g4b A4b k4b c4b g4c A4c k4c c4c g4d A4d k4d c4d A4e k4e c4e HR4 j4c => ?_
 replace HB2 := kB HB2 j4c
 replace HB4 := kB HB4 j4c
 refine ckk hK9 (by exact ⟨kD HB2 0, kD HB2 1, kD HB2 2, kD HB2 3, kD HB2 4, kD HB2 5, kD HB2 6, kD HB2 7, kD HB2 8, kD HB4 0, kD HB4 1, kD HB4 2, kD HB4 3, kD HB4 4, kD HB4 5, kD HB4 6, kD HB4 7, kD HB4 8, kD HB2 9, kD HB2 10, kD HB2 11, kD HB2 12, kD HB2 13, kD HB2 14, kD HB2 15, kD HB2 16, kD HB2 17, kD HB4 9, kD HB4 10, kD HB4 11, kD HB4 12, kD HB4 13, kD HB4 14, kD HB4 15, kD HB4 16, kD HB4 17⟩) (h := ?_)
 clear hK9 K9
 refine sop (h := fun K9 hK9 => ?_)
 go_simp
 replace HX0 := kV j4c HX0
 replace HX1 := kV j4c HX1
 refine mS (smulS_any _ _ x.im y.re K L _ HX0.out.parts.2 HX1.out.parts.1 (by omega) (by omega)) fun w5 g5a A5a k5a c5a g5b A5b k5b c5b g5c A5c k5c c5c g5d A5d k5d c5d A5e k5e c5e HR5 j5c => ?_
 replace HB2 := kB HB2 j5c
 replace HB4 := kB HB4 j5c
 refine ckk hK9 (by exact ⟨kD HB2 0, kD HB2 1, kD HB2 2, kD HB2 3, kD HB2 4, kD HB2 5, kD HB2 6, kD HB2 7, kD HB2 8, kD HB4 0, kD HB4 1, kD HB4 2, kD HB4 3, kD HB4 4, kD HB4 5, kD HB4 6, kD HB4 7, kD HB4 8, kD HB2 9, kD HB2 10, kD HB2 11, kD HB2 12, kD HB2 13, kD HB2 14, kD HB2 15, kD HB2 16, kD HB2 17, kD HB4 9, kD HB4 10, kD HB4 11, kD HB4 12, kD HB4 13, kD HB4 14, kD HB4 15, kD HB4 16, kD HB4 17⟩) (h := ?_)
 clear hK9 K9
 refine sop (h := fun K9 hK9 => ?_)
 go_simp
 replace HR4 := kV j5c HR4
 refine mS (saddS_any _ _ (x.re.mul y.im) (x.im.mul y.re) (K + L + 4) (K + L + 4) _ HR4.out HR5.out (by omega) (by omega)) fun w6 g6a A6a k6a c6a g6b A6b k6b c6b g6c A6c k6c c6c g6d A6d k6d c6d A6e k6e c6e HR6 j6c => ?_
 replace HB2 := kB HB2 j6c
 replace HB4 := kB HB4 j6c
 refine ckk hK9 (by exact ⟨kD HB2 0, kD HB2 1, kD HB2 2, kD HB2 3, kD HB2 4, kD HB2 5, kD HB2 6, kD HB2 7, kD HB2 8, kD HB4 0, kD HB4 1, kD HB4 2, kD HB4 3, kD HB4 4, kD HB4 5, kD HB4 6, kD HB4 7, kD HB4 8, kD HB2 9, kD HB2 10, kD HB2 11, kD HB2 12, kD HB2 13, kD HB2 14, kD HB2 15, kD HB2 16, kD HB2 17, kD HB4 9, kD HB4 10, kD HB4 11, kD HB4 12, kD HB4 13, kD HB4 14, kD HB4 15, kD HB4 16, kD HB4 17⟩) (h := ?_)
 clear hK9 K9
 refine tk0 (h := ?_)
 refine sop (h := fun K9 hK9 => ?_)
 have jm4 := tt (tt (tt (tt (tt (tt j4 j1c) j2c) j3c) j4c) j5c) j6c
 replace HB6 := kB HB6 jm4
 have t8h := kth 0 18 HB6
 refine smw 88 (w.heap.size + 2) 0 (ht := by exact t8h) (h := ?_)
 obtain ⟨W9, HW9⟩ : ∃ W, Hid (W = w6.setCells (w.heap.size + 2) 0 [.bool g3a, .slice A3a k3a c3a, .bool g3b, .slice A3b k3b c3b, .bool g3c, .slice A3c k3c c3c, .bool g3d, .slice A3d k3d c3d, .slice A3e k3e c3e, .bool g6a, .slice A6a k6a c6a, .bool g6b, .slice A6b k6b c6b, .bool g6c, .slice A6c k6c c6c, .bool g6d, .slice A6d k6d c6d, .slice A6e k6e c6e]) := ⟨_, rfl⟩
 have TW9 := kN (kM HW9) HB6 rfl rfl
 replace HB6 := kP (ds := [.bool g3a, .slice A3a k3a c3a, .bool g3b, .slice A3b k3b c3b, .bool g3c, .slice A3c k3c c3c, .bool g3d, .slice A3d k3d c3d, .slice A3e k3e c3e, .bool g6a, .slice A6a k6a c6a, .bool g6b, .slice A6b k6b c6b, .bool g6c, .slice A6c k6c c6c, .bool g6d, .slice A6d k6d c6d, .slice A6e k6e c6e]) (kM HW9) HB6 rfl rfl
 rw [← HW9.out]
 replace HB2 := kO (kM HW9) HB2 n2b6.out
 replace HB4 := kO (kM HW9) HB4 n4b6.out
 refine ckk hK9 (by exact ⟨kD HB2 0, kD HB2 1, kD HB2 2, kD HB2 3, kD HB2 4, kD HB2 5, kD HB2 6, kD HB2 7, kD HB2 8, kD HB4 0, kD HB4 1, kD HB4 2, kD HB4 3, kD HB4 4, kD HB4 5, kD HB4 6, kD HB4 7, kD HB4 8, kD HB2 9, kD HB2 10, kD HB2 11, kD HB2 12, kD HB2 13, kD HB2 14, kD HB2 15, kD HB2 16, kD HB2 17, kD HB4 9, kD HB4 10, kD HB4 11, kD HB4 12, kD HB4 13, kD HB4 14, kD HB4 15, kD HB4 16, kD HB4 17⟩) (h := ?_)
 clear hK9 K9 t8h
 refine seq_done (by kernel_rfl) ?_
 go_wp2_with fail
 have jm5 := tt (tt j4c j5c) j6c
 replace HR3 := kW TW9 (kV jm5 HR3)
 replace HR6 := kW TW9 HR6
 have jm6 := tt (tt (tt (tt (tt j1c j2c) j3c) j4c) j5c) j6c
 replace HBw := kS (kM HW9) l6b (kU HBw jm6)
 exact bodyPost_ret (results_cell rfl (by rfl) (blk_all HB6.out) Tryz.underlying88 rfl (by kernel_rfl)) rfl ⟨⟨_, rfl, (show RdWv _ _ (x.mul y) _ from RdWv.mk (x := x.mul y) HR3.out HR6.out)⟩, HBw.out⟩
theorem wof_any (v u : Value) (x : W4) (q : Rat) (K L : Nat) (w : World) (hv : RdWv w v x K) (hu : RdQ w u q) (hq : QS L q) (hL : 1 ≤ L) :
  Calls Tryz.prog 47 #[v, u] w fun e w' => (∃ v', e = .returned v' ∧ RdWv w' v' (.ofQ q) (L)) ∧ Below w.heap.size w w' := by
 have HQ := h0d hq
 have HL := h0d hL
 clear hq hL
 obtain ⟨gp0a, Ap0a, kp0a, cp0a, gp0b, Ap0b, kp0b, cp0b, gp0c, Ap0c, kp0c, cp0c, gp0d, Ap0d, kp0d, cp0d, Ap0e, kp0e, cp0e, gp0f, Ap0f, kp0f, cp0f, gp0g, Ap0g, kp0g, cp0g, gp0h, Ap0h, kp0h, cp0h, gp0i, Ap0i, kp0i, cp0i, Ap0j, kp0j, cp0j, rfl, hv⟩ := hv.open
 have HX0 := h0d hv
 clear hv
 obtain ⟨gp1a, Ap1a, kp1a, cp1a, Ap1b, kp1b, cp1b, rfl, hu⟩ := hu.open
 have HX1 := h0d hu
 clear hu
 go_enter Tryz.func47, Tryz.ntmps47
 obtain ⟨W1, HW1, HB2, s1w, j1⟩ := st_al0 w #[.bool gp0a, .slice Ap0a kp0a cp0a, .bool gp0b, .slice Ap0b kp0b cp0b, .bool gp0c, .slice Ap0c kp0c cp0c, .bool gp0d, .slice Ap0d kp0d cp0d, .slice Ap0e kp0e cp0e, .bool gp0f, .slice Ap0f kp0f cp0f, .bool gp0g, .slice Ap0g kp0g cp0g, .bool gp0h, .slice Ap0h kp0h cp0h, .bool gp0i, .slice Ap0i kp0i cp0i, .slice Ap0j kp0j cp0j] 88
 have HBw := h0d j1
 obtain ⟨W3, HW3, HB4, s3w, j2⟩ := st_alk 1 2 #[.bool gp1a, .slice Ap1a kp1a cp1a, .slice Ap1b kp1b cp1b] 32 s1w rfl
 obtain ⟨W5, HW5, HB6, s5w, j3⟩ := st_alk 2 3 #[.bool false, .slice none 0 0, .bool false, .slice none 0 0, .bool false, .slice none 0 0, .bool false, .slice none 0 0, .slice none 0 0, .bool false, .slice none 0 0, .bool false, .slice none 0 0, .bool false, .slice none 0 0, .bool false, .slice none 0 0, .slice none 0 0] 88 s3w rfl
 have l6b : Hid (w.heap.size ≤ w.heap.size + 2) := by show _ ≤ _; omega
 go_wp2_with fail
 rw [← HW1.out, ← HW3.out, ← HW5.out]
 have jm1 := tt j2 j3
 replace HBw := kU HBw jm1
 replace HX0 := kV HBw.out HX0
 replace HX1 := kV HBw.out HX1
 refine mS (sof_any _ _ x.re q K L _ HX0.out.parts.1 HX1.out HQ.out) fun w1 g1a A1a k1a c1a g1b A1b k1b c1b g1c A1c k1c c1c g1d A1d k1d c1d A1e k1e c1e HR1 j1c => ?_
 replace HB6 := kB HB6 j1c
 have t7h := kth 0 18 HB6
 obtain ⟨W8, HW8⟩ : ∃ W, Hid (W = w1.setCells (w.heap.size + 2) 0 [.bool g1a, .slice A1a k1a c1a, .bool g1b, .slice A1b k1b c1b, .bool g1c, .slice A1c k1c c1c, .bool g1d, .slice A1d k1d c1d, .slice A1e k1e c1e, .bool false, .slice none 0 0, .bool false, .slice none 0 0, .bool false, .slice none 0 0, .bool false, .slice none 0 0, .slice none 0 0]) := ⟨_, rfl⟩
 have TW8 := kN (kM HW8) HB6 rfl rfl
 replace HB6 := kP (ds := [.bool g1a, .slice A1a k1a c1a, .bool g1b, .slice A1b k1b c1b, .bool g1c, .slice A1c k1c c1c, .bool g1d, .slice A1d k1d c1d, .slice A1e k1e c1e, .bool false, .slice none 0 0, .bool false, .slice none 0 0, .bool false, .slice none 0 0, .bool false, .slice none 0 0, .slice none 0 0]) (kM HW8) HB6 rfl rfl
 go_wp2_with (refine smd 88 (w.heap.size + 2) 0 (ht := by exact t7h) (h := ?_))
 rw [← HW8.out]
 clear t7h
 replace HR1 := kW TW8 HR1
 replace HBw := kS (kM HW8) l6b (kU HBw j1c)
 exact bodyPost_ret (results_cell rfl (by rfl) (blk_all HB6.out) Tryz.underlying88 rfl (by kernel_rfl)) rfl ⟨⟨_, rfl, (show RdWv _ _ (.ofQ q) L from RdWv.mk (x := .ofQ q) HR1.out (rdS_zero _ HL.out))⟩, HBw.out⟩
theorem wnorm_any (v : Value) (x : W4) (K : Nat) (w : World) (hv : RdWv w v x K) (hK : K ≤ 40000) :
  Calls Tryz.prog 151 #[v] w fun e w' => (∃ v', e = .returned v' ∧ RdS w' v' (x.norm) (K + K + 4 + (K + K + 4) + 1)) ∧ Below w.heap.size w w' := by
 obtain ⟨gp0a, Ap0a, kp0a, cp0a, gp0b, Ap0b, kp0b, cp0b, gp0c, Ap0c, kp0c, cp0c, gp0d, Ap0d, kp0d, cp0d, Ap0e, kp0e, cp0e, gp0f, Ap0f, kp0f, cp0f, gp0g, Ap0g, kp0g, cp0g, gp0h, Ap0h, kp0h, cp0h, gp0i, Ap0i, kp0i, cp0i, Ap0j, kp0j, cp0j, rfl, hv⟩ := hv.open
 have HX0 := h0d hv
 clear hv
 go_enter Tryz.func151, Tryz.ntmps151
 obtain ⟨W1, HW1, HB2, s1w, j1⟩ := st_al0 w #[.bool gp0a, .slice Ap0a kp0a cp0a, .bool gp0b, .slice Ap0b kp0b cp0b, .bool gp0c, .slice Ap0c kp0c cp0c, .bool gp0d, .slice Ap0d kp0d cp0d, .slice Ap0e kp0e cp0e, .bool gp0f, .slice Ap0f kp0f cp0f, .bool gp0g, .slice Ap0g kp0g cp0g, .bool gp0h, .slice Ap0h kp0h cp0h, .bool gp0i, .slice Ap0i kp0i cp0i, .slice Ap0j kp0j cp0j] 88
 have HBw := h0d j1
 obtain ⟨W3, HW3, HB4, s3w, j2⟩ := st_alk 1 2 #[.bool false, .slice none 0 0, .bool false, .slice none 0 0, .bool false, .slice none 0 0, .bool false, .slice none 0 0, .slice none 0 0] 30 s1w rfl
 have n2b4 : Hid (w.heap.size ≠ w.heap.size + 1) := by show _ ≠ _; omega
 have l4b : Hid (w.heap.size ≤ w.heap.size + 1) := by show _ ≤ _; omega
 go_wp2_with fail
 rw [← HW1.out, ← HW3.out]
 obtain ⟨W5, hW5⟩ : ∃ W, W = W3.drew := ⟨_, rfl⟩
 have j3 : Below W3.heap.size W3 W5 := by rw [hW5]; exact (Below.refl _ _).drew
 have jm1 := tt j2 j3
 replace HB2 := kB HB2 jm1
 refine seq_start (S := fun w' => w'.cell? ⟨w.heap.size, 0, none⟩ = some (.bool gp0a) ∧ w'.cell? ⟨w.heap.size, 1, none⟩ = some (.slice Ap0a kp0a cp0a) ∧ w'.cell? ⟨w.heap.size, 2, none⟩ = some (.bool gp0b) ∧ w'.cell? ⟨w.heap.size, 3, none⟩ = some (.slice Ap0b kp0b cp0b) ∧ w'.cell? ⟨w.heap.size, 4, none⟩ = some (.bool gp0c) ∧ w'.cell? ⟨w.heap.size, 5, none⟩ = some (.slice Ap0c kp0c cp0c) ∧ w'.cell? ⟨w.heap.size, 6, none⟩ = some (.bool gp0d) ∧ w'.cell? ⟨w.heap.size, 7, none⟩ = some (.slice Ap0d kp0d cp0d) ∧ w'.cell? ⟨w.heap.size, 8, none⟩ = some (.slice Ap0e kp0e cp0e) ∧ w'.cell? ⟨w.heap.size, 9, none⟩ = some (.bool gp0f) ∧ w'.cell? ⟨w.heap.size, 10, none⟩ = some (.slice Ap0f kp0f cp0f) ∧ w'.cell? ⟨w.heap.size, 11, none⟩ = some (.bool gp0g) ∧ w'.cell? ⟨w.heap.size, 12, none⟩ = some (.slice Ap0g kp0g cp0g) ∧ w'.cell? ⟨w.heap.size, 13, none⟩ = some (.bool gp0h) ∧ w'.cell? ⟨w.heap.size, 14, none⟩ = some (.slice Ap0h kp0h cp0h) ∧ w'.cell? ⟨w.heap.size, 15, none⟩ = some (.bool gp0i) ∧ w'.cell? ⟨w.heap.size, 16, none⟩ = some (.slice Ap0i kp0i cp0i) ∧ w'.cell? ⟨w.heap.size, 17, none⟩ = some (.slice Ap0j kp0j cp0j)) (by kernel_rfl) (by kernel_rfl) (by rw [← hW5]; exact ⟨kD HB2 0, kD HB2 1, kD HB2 2, kD HB2 3, kD HB2 4, kD HB2 5, kD HB2 6, kD HB2 7, kD HB2 8, kD HB2 9, kD HB2 10, kD HB2 11, kD HB2 12, kD HB2 13, kD HB2 14, kD HB2 15, kD HB2 16, kD HB2 17⟩) ?_
 rw [← hW5]
 clear hW5
 iterate 4 refine tk0 (h := ?_)
 iterate 4 (refine plq 1 (h := ?_); refine tk0 (h := ?_))
 refine sop (h := fun K9 hK9 => ?_)
 go_simp
 replace HBw := kU HBw jm1
 replace HX0 := kV HBw.out HX0
 refine mS (smulS_any _ _ x.re x.re K K _ HX0.out.parts.1 HX0.out.parts.1 (by omega) (by omega)) fun w1 g1a A1a k1a c1a g1b A1b k1b c1b g1c A1c k1c c1c g1d A1d k1d c1d A1e k1e c1e HR1 j1c => ?_
 replace HB2 := kB HB2 j1c
 refine ckk hK9 (by exact ⟨kD HB2 0, kD HB2 1, kD HB2 2, kD HB2 3, kD HB2 4, kD HB2 5, kD HB2 6, kD HB2 7, kD HB2 8, kD HB2 9, kD HB2 10, kD HB2 11, kD HB2 12, kD HB2 13, kD HB2 14, kD HB2 15, kD HB2 16, kD HB2 17⟩) (h := ?_)
 clear hK9 K9
 refine sop (h := fun K9 hK9 => ?_)
 go_simp
 replace HX0 := kV j1c HX0
 refine mS (smulS_any _ _ x.im x.im K K _ HX0.out.parts.2 HX0.out.parts.2 (by omega) (by omega)) fun w2 g2a A2a k2a c2a g2b A2b k2b c2b g2c A2c k2c c2c g2d A2d k2d c2d A2e k2e c2e HR2 j2c => ?_
 replace HB2 := kB HB2 j2c
 refine ckk hK9 (by exact ⟨kD HB2 0, kD HB2 1, kD HB2 2, kD HB2 3, kD HB2 4, kD HB2 5, kD HB2 6, kD HB2 7, kD HB2 8, kD HB2 9, kD HB2 10, kD HB2 11, kD HB2 12, kD HB2 13, kD HB2 14, kD HB2 15, kD HB2 16, kD HB2 17⟩) (h := ?_)
 clear hK9 K9
 refine sop (h := fun K9 hK9 => ?_)
 go_simp
 replace HR1 := kV j2c HR1
 refine mS (saddS_any _ _ (x.re.mul x.re) (x.im.mul x.im) (K + K + 4) (K + K + 4) _ HR1.out HR2.out (by omega) (by omega)) fun w3 g3a A3a k3a c3a g3b A3b k3b c3b g3c A3c k3c c3c g3d A3d k3d c3d A3e k3e c3e HR3 j3c => ?_
 replace HB2 := kB HB2 j3c
 refine ckk hK9 (by exact ⟨kD HB2 0, kD HB2 1, kD HB2 2, kD HB2 3, kD HB2 4, kD HB2 5, kD HB2 6, kD HB2 7, kD HB2 8, kD HB2 9, kD HB2 10, kD HB2 11, kD HB2 12, kD HB2 13, kD HB2 14, kD HB2 15, kD HB2 16, kD HB2 17⟩) (h := ?_)
 clear hK9 K9
 refine sop (h := fun K9 hK9 => ?_)
 have jm2 := tt (tt (tt j3 j1c) j2c) j3c
 replace HB4 := kB HB4 jm2
 have t6h := kth 0 9 HB4
 refine smw 30 (w.heap.size + 1) 0 (ht := by exact t6h) (h := ?_)
 obtain ⟨W7, HW7⟩ : ∃ W, Hid (W = w3.setCells (w.heap.size + 1) 0 [.bool g3a, .slice A3a k3a c3a, .bool g3b, .slice A3b k3b c3b, .bool g3c, .slice A3c k3c c3c, .bool g3d, .slice A3d k3d c3d, .slice A3e k3e c3e]) := ⟨_, rfl⟩
 have TW7 := kN (kM HW7) HB4 rfl rfl
 replace HB4 := kP (ds := [.bool g3a, .slice A3a k3a c3a, .bool g3b, .slice A3b k3b c3b, .bool g3c, .slice A3c k3c c3c, .bool g3d, .slice A3d k3d c3d, .slice A3e k3e c3e]) (kM HW7) HB4 rfl rfl
 rw [← HW7.out]
 replace HB2 := kO (kM HW7) HB2 n2b4.out
 refine ckk hK9 (by exact ⟨kD HB2 0, kD HB2 1, kD HB2 2, kD HB2 3, kD HB2 4, kD HB2 5, kD HB2 6, kD HB2 7, kD HB2 8, kD HB2 9, kD HB2 10, kD HB2 11, kD HB2 12, kD HB2 13, kD HB2 14, kD HB2 15, kD HB2 16, kD HB2 17⟩) (h := ?_)
 clear hK9 K9 t6h
 refine seq_done (by kernel_rfl) ?_
 go_wp2_with fail
 replace HR3 := kW TW7 HR3
 have jm3 := tt (tt j1c j2c) j3c
 replace HBw := kS (kM HW7) l4b (kU HBw jm3)
 exact bodyPost_ret (results_cell rfl (by rfl) (blk_all HB4.out) Tryz.underlying30 rfl (by kernel_rfl)) rfl ⟨⟨_, rfl, HR3.out⟩, HBw.out⟩
theorem ssame_t (v u : Value) (x y : S4) (K L : Nat) (w : World) (hv : RdS w v x K) (hu : RdS w u y L) (hK : K ≤ 100000) (hL : L ≤ 100000) (h : x = y) :
  Calls Tryz.prog 64 #[v, u] w fun e w' => e = .returned (.bool true) ∧ Below w.heap.size w w' := by
 have := ssame_any v u x y K L w hv hu hK hL
 rwa [decide_eq_true ((S4.sub_zero_iff x y).2 h)] at this
theorem ssame_f (v u : Value) (x y : S4) (K L : Nat) (w : World) (hv : RdS w v x K) (hu : RdS w u y L) (hK : K ≤ 100000) (hL : L ≤ 100000) (h : x ≠ y) :
  Calls Tryz.prog 64 #[v, u] w fun e w' => e = .returned (.bool false) ∧ Below w.heap.size w w' := by
 have := ssame_any v u x y K L w hv hu hK hL
 rwa [decide_eq_false (fun e => h ((S4.sub_zero_iff x y).1 e))] at this
theorem wsame_n (v u : Value) (x y : W4) (K L : Nat) (w : World) (hv : RdWv w v x K) (hu : RdWv w u y L) (hK : K ≤ 40000) (hL : L ≤ 40000) (hre : x.re ≠ y.re) :
  Calls Tryz.prog 44 #[v, u] w fun e w' => e = .returned (.bool false) ∧ Below w.heap.size w w' := by
 have HRE := h0d hre
 clear hre
 obtain ⟨gp0a, Ap0a, kp0a, cp0a, gp0b, Ap0b, kp0b, cp0b, gp0c, Ap0c, kp0c, cp0c, gp0d, Ap0d, kp0d, cp0d, Ap0e, kp0e, cp0e, gp0f, Ap0f, kp0f, cp0f, gp0g, Ap0g, kp0g, cp0g, gp0h, Ap0h, kp0h, cp0h, gp0i, Ap0i, kp0i, cp0i, Ap0j, kp0j, cp0j, rfl, hv⟩ := hv.open
 have HX0 := h0d hv
 clear hv
 obtain ⟨gp1a, Ap1a, kp1a, cp1a, gp1b, Ap1b, kp1b, cp1b, gp1c, Ap1c, kp1c, cp1c, gp1d, Ap1d, kp1d, cp1d, Ap1e, kp1e, cp1e, gp1f, Ap1f, kp1f, cp1f, gp1g, Ap1g, kp1g, cp1g, gp1h, Ap1h, kp1h, cp1h, gp1i, Ap1i, kp1i, cp1i, Ap1j, kp1j, cp1j, rfl, hu⟩ := hu.open
 have HX1 := h0d hu
 clear hu
 go_enter Tryz.func44, Tryz.ntmps44
 obtain ⟨W1, HW1, HB2, s1w, j1⟩ := st_al0 w #[.bool gp0a, .slice Ap0a kp0a cp0a, .bool gp0b, .slice Ap0b kp0b cp0b, .bool gp0c, .slice Ap0c kp0c cp0c, .bool gp0d, .slice Ap0d kp0d cp0d, .slice Ap0e kp0e cp0e, .bool gp0f, .slice Ap0f kp0f cp0f, .bool gp0g, .slice Ap0g kp0g cp0g, .bool gp0h, .slice Ap0h kp0h cp0h, .bool gp0i, .slice Ap0i kp0i cp0i, .slice Ap0j kp0j cp0j] 88
 have HBw := h0d j1
 obtain ⟨W3, HW3, HB4, s3w, j2⟩ := st_alk 1 2 #[.bool gp1a, .slice Ap1a kp1a cp1a, .bool gp1b, .slice Ap1b kp1b cp1b, .bool gp1c, .slice Ap1c kp1c cp1c, .bool gp1d, .slice Ap1d kp1d cp1d, .slice Ap1e kp1e cp1e, .bool gp1f, .slice Ap1f kp1f cp1f, .bool gp1g, .slice Ap1g kp1g cp1g, .bool gp1h, .slice Ap1h kp1h cp1h, .bool gp1i, .slice Ap1i kp1i cp1i, .slice Ap1j kp1j cp1j] 88 s1w rfl
 go_wp2_with fail
 rw [← HW1.out, ← HW3.out]
 replace HBw := kU HBw j2
 replace HX0 := kV HBw.out HX0
 replace HX1 := kV HBw.out HX1
 refine mV (ssame_f _ _ x.re y.re K L _ HX0.out.parts.1 HX1.out.parts.1 (by omega) (by omega) HRE.out) fun w1 j1c => ?_
 go_wp2_with fail
 go_ret
 replace HBw := kU HBw j1c
 exact ⟨rfl, HBw.out⟩
theorem wsame_yn (v u : Value) (x y : W4) (K L : Nat) (w : World) (hv : RdWv w v x K) (hu : RdWv w u y L) (hK : K ≤ 40000) (hL : L ≤ 40000) (hre : x.re = y.re) (him : x.im ≠ y.im) :
  Calls Tryz.prog 44 #[v, u] w fun e w' => e = .returned (.bool false) ∧ Below w.heap.size w w' := by
 have HRE := h0d hre
 have HIM := h0d him
 clear hre him
 obtain ⟨gp0a, Ap0a, kp0a, cp0a, gp0b, Ap0b, kp0b, cp0b, gp0c, Ap0c, kp0c, cp0c, gp0d, Ap0d, kp0d, cp0d, Ap0e, kp0e, cp0e, gp0f, Ap0f, kp0f, cp0f, gp0g, Ap0g, kp0g, cp0g, gp0h, Ap0h, kp0h, cp0h, gp0i, Ap0i, kp0i, cp0i, Ap0j, kp0j, cp0j, rfl, hv⟩ := hv.open
 have HX0 := h0d hv
 clear hv
 obtain ⟨gp1a, Ap1a, kp1a, cp1a, gp1b, Ap1b, kp1b, cp1b, gp1c, Ap1c, kp1c, cp1c, gp1d, Ap1d, kp1d, cp1d, Ap1e, kp1e, cp1e, gp1f, Ap1f, kp1f, cp1f, gp1g, Ap1g, kp1g, cp1g, gp1h, Ap1h, kp1h, cp1h, gp1i, Ap1i, kp1i, cp1i, Ap1j, kp1j, cp1j, rfl, hu⟩ := hu.open
 have HX1 := h0d hu
 clear hu
 go_enter Tryz.func44, Tryz.ntmps44
 obtain ⟨W1, HW1, HB2, s1w, j1⟩ := st_al0 w #[.bool gp0a, .slice Ap0a kp0a cp0a, .bool gp0b, .slice Ap0b kp0b cp0b, .bool gp0c, .slice Ap0c kp0c cp0c, .bool gp0d, .slice Ap0d kp0d cp0d, .slice Ap0e kp0e cp0e, .bool gp0f, .slice Ap0f kp0f cp0f, .bool gp0g, .slice Ap0g kp0g cp0g, .bool gp0h, .slice Ap0h kp0h cp0h, .bool gp0i, .slice Ap0i kp0i cp0i, .slice Ap0j kp0j cp0j] 88
 have HBw := h0d j1
 obtain ⟨W3, HW3, HB4, s3w, j2⟩ := st_alk 1 2 #[.bool gp1a, .slice Ap1a kp1a cp1a, .bool gp1b, .slice Ap1b kp1b cp1b, .bool gp1c, .slice Ap1c kp1c cp1c, .bool gp1d, .slice Ap1d kp1d cp1d, .slice Ap1e kp1e cp1e, .bool gp1f, .slice Ap1f kp1f cp1f, .bool gp1g, .slice Ap1g kp1g cp1g, .bool gp1h, .slice Ap1h kp1h cp1h, .bool gp1i, .slice Ap1i kp1i cp1i, .slice Ap1j kp1j cp1j] 88 s1w rfl
 go_wp2_with fail
 rw [← HW1.out, ← HW3.out]
 replace HBw := kU HBw j2
 replace HX0 := kV HBw.out HX0
 replace HX1 := kV HBw.out HX1
 refine mV (ssame_t _ _ x.re y.re K L _ HX0.out.parts.1 HX1.out.parts.1 (by omega) (by omega) HRE.out) fun w1 j1c => ?_
 have jm1 := tt j2 j1c
 replace HB2 := kB HB2 jm1
 have c5 := kC HB2 9 rfl
 have c6 := kC HB2 10 rfl
 have c7 := kC HB2 11 rfl
 have c8 := kC HB2 12 rfl
 have c9 := kC HB2 13 rfl
 have c10 := kC HB2 14 rfl
 have c11 := kC HB2 15 rfl
 have c12 := kC HB2 16 rfl
 have c13 := kC HB2 17 rfl
 replace HB4 := kB HB4 j1c
 have c14 := kC HB4 9 rfl
 have c15 := kC HB4 10 rfl
 have c16 := kC HB4 11 rfl
 have c17 := kC HB4 12 rfl
 have c18 := kC HB4 13 rfl
 have c19 := kC HB4 14 rfl
 have c20 := kC HB4 15 rfl
 have c21 := kC HB4 16 rfl
 have c22 := kC HB4 17 rfl
 go_wp2_with fail
 clear c5 c6 c7 c8 c9 c10 c11 c12 c13 c14 c15 c16 c17 c18 c19 c20 c21 c22
 replace HX0 := kV j1c HX0
 replace HX1 := kV j1c HX1
 refine mV (ssame_f _ _ x.im y.im K L _ HX0.out.parts.2 HX1.out.parts.2 (by omega) (by omega) HIM.out) fun w2 j2c => ?_
 go_wp2_with fail
 go_ret
 have jm2 := tt j1c j2c
 replace HBw := kU HBw jm2
 exact ⟨rfl, HBw.out⟩
theorem wsame_yy (v u : Value) (x y : W4) (K L : Nat) (w : World) (hv : RdWv w v x K) (hu : RdWv w u y L) (hK : K ≤ 40000) (hL : L ≤ 40000) (hre : x.re = y.re) (him : x.im = y.im) :
  Calls Tryz.prog 44 #[v, u] w fun e w' => e = .returned (.bool true) ∧ Below w.heap.size w w' := by
 have HRE := h0d hre
 have HIM := h0d him
 clear hre him
 obtain ⟨gp0a, Ap0a, kp0a, cp0a, gp0b, Ap0b, kp0b, cp0b, gp0c, Ap0c, kp0c, cp0c, gp0d, Ap0d, kp0d, cp0d, Ap0e, kp0e, cp0e, gp0f, Ap0f, kp0f, cp0f, gp0g, Ap0g, kp0g, cp0g, gp0h, Ap0h, kp0h, cp0h, gp0i, Ap0i, kp0i, cp0i, Ap0j, kp0j, cp0j, rfl, hv⟩ := hv.open
 have HX0 := h0d hv
 clear hv
 obtain ⟨gp1a, Ap1a, kp1a, cp1a, gp1b, Ap1b, kp1b, cp1b, gp1c, Ap1c, kp1c, cp1c, gp1d, Ap1d, kp1d, cp1d, Ap1e, kp1e, cp1e, gp1f, Ap1f, kp1f, cp1f, gp1g, Ap1g, kp1g, cp1g, gp1h, Ap1h, kp1h, cp1h, gp1i, Ap1i, kp1i, cp1i, Ap1j, kp1j, cp1j, rfl, hu⟩ := hu.open
 have HX1 := h0d hu
 clear hu
 go_enter Tryz.func44, Tryz.ntmps44
 obtain ⟨W1, HW1, HB2, s1w, j1⟩ := st_al0 w #[.bool gp0a, .slice Ap0a kp0a cp0a, .bool gp0b, .slice Ap0b kp0b cp0b, .bool gp0c, .slice Ap0c kp0c cp0c, .bool gp0d, .slice Ap0d kp0d cp0d, .slice Ap0e kp0e cp0e, .bool gp0f, .slice Ap0f kp0f cp0f, .bool gp0g, .slice Ap0g kp0g cp0g, .bool gp0h, .slice Ap0h kp0h cp0h, .bool gp0i, .slice Ap0i kp0i cp0i, .slice Ap0j kp0j cp0j] 88
 have HBw := h0d j1
 obtain ⟨W3, HW3, HB4, s3w, j2⟩ := st_alk 1 2 #[.bool gp1a, .slice Ap1a kp1a cp1a, .bool gp1b, .slice Ap1b kp1b cp1b, .bool gp1c, .slice Ap1c kp1c cp1c, .bool gp1d, .slice Ap1d kp1d cp1d, .slice Ap1e kp1e cp1e, .bool gp1f, .slice Ap1f kp1f cp1f, .bool gp1g, .slice Ap1g kp1g cp1g, .bool gp1h, .slice Ap1h kp1h cp1h, .bool gp1i, .slice Ap1i kp1i cp1i, .slice Ap1j kp1j cp1j] 88 s1w rfl
 go_wp2_with fail
 rw [← HW1.out, ← HW3.out]
 replace HBw := kU HBw j2
 replace HX0 := kV HBw.out HX0
 replace HX1 := kV HBw.out HX1
 refine mV (ssame_t _ _ x.re y.re K L _ HX0.out.parts.1 HX1.out.parts.1 (by omega) (by omega) HRE.out) fun w1 j1c => ?_
 have jm1 := tt j2 j1c
 replace HB2 := kB HB2 jm1
 have c5 := kC HB2 9 rfl
 have c6 := kC HB2 10 rfl
 have c7 := kC HB2 11 rfl
 have c8 := kC HB2 12 rfl
 have c9 := kC HB2 13 rfl
 have c10 := kC HB2 14 rfl
 have c11 := kC HB2 15 rfl
 have c12 := kC HB2 16 rfl
 have c13 := kC HB2 17 rfl
 replace HB4 := kB HB4 j1c
 have c14 := kC HB4 9 rfl
 have c15 := kC HB4 10 rfl
 have c16 := kC HB4 11 rfl
 have c17 := kC HB4 12 rfl
 have c18 := kC HB4 13 rfl
 have c19 := kC HB4 14 rfl
 have c20 := kC HB4 15 rfl
 have c21 := kC HB4 16 rfl
 have c22 := kC HB4 17 rfl
 go_wp2_with fail
 clear c5 c6 c7 c8 c9 c10 c11 c12 c13 c14 c15 c16 c17 c18 c19 c20 c21 c22
 replace HX0 := kV j1c HX0
 replace HX1 := kV j1c HX1
 refine mV (ssame_t _ _ x.im y.im K L _ HX0.out.parts.2 HX1.out.parts.2 (by omega) (by omega) HIM.out) fun w2 j2c => ?_
 go_wp2_with fail
 go_ret
 have jm2 := tt j1c j2c
 replace HBw := kU HBw jm2
 exact ⟨rfl, HBw.out⟩
theorem wsame_any (v u : Value) (x y : W4) (K L : Nat) (w : World) (hv : RdWv w v x K) (hu : RdWv w u y L) (hK : K ≤ 40000) (hL : L ≤ 40000) :
  Calls Tryz.prog 44 #[v, u] w fun e w' => e = .returned (.bool (decide (x = y))) ∧ Below w.heap.size w w' := by
 by_cases h : x = y
 ·subst h
  rw [decide_eq_true rfl]
  exact wsame_yy v u x x K L w hv hu hK hL rfl rfl
 ·rw [decide_eq_false h]
  by_cases hr : x.re = y.re
  ·exact wsame_yn v u x y K L w hv hu hK hL hr (fun hi => h (W4.ext hr hi))
  ·exact wsame_n v u x y K L w hv hu hK hL hr
end Go.Proofs.YtodckaioeomccaaGreat
