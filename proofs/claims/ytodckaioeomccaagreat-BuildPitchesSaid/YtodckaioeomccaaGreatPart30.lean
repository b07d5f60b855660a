/- Walks of complex numbers: Add, Mul, Same, Of, Norm. -/
import Derived.Test.YtodckaioeomccaaGreatPart28
namespace Go.Proofs.YtodckaioeomccaaGreat
open Go.RowKit Go.Proofs.S4P
set_option linter.unusedVariables false
set_option linter.unusedSimpArgs false
set_option maxRecDepth 100000
set_option maxHeartbeats 4000000
theorem rdS_zero (w : World) {K : Nat} (hK : 1 ≤ K) : RdS w (.agg #[.bool false, .slice none 0 0, .bool false, .slice none 0 0, .bool false, .slice none 0 0, .bool false, .slice none 0 0, .slice none 0 0]) .zero K :=
 ⟨0, 0, 0, 0, 1, RdSn.mk (RdZ.nil0 _) (RdZ.nil0 _) (RdZ.nil0 _) (RdZ.nil0 _) (show RdN _ _ (den1 1) from RdN.nil0 _), Sx.mono (K := 1) ⟨by decide, ⟨by decide +kernel, by decide +kernel, by decide +kernel, by decide +kernel⟩, ⟨dl_small (by decide), dl_small (by decide), dl_small (by decide), dl_small (by decide)⟩, dl_small (by decide)⟩ hK⟩
theorem rdWv_zero (w : World) {K : Nat} (hK : 1 ≤ K) : RdWv w (.agg #[.bool false, .slice none 0 0, .bool false, .slice none 0 0, .bool false, .slice none 0 0, .bool false, .slice none 0 0, .slice none 0 0, .bool false, .slice none 0 0, .bool false, .slice none 0 0, .bool false, .slice none 0 0, .bool false, .slice none 0 0, .slice none 0 0]) .zero K :=
 RdWv.mk (x := .zero) (rdS_zero w hK) (rdS_zero w hK)
theorem wadd_any (v u : Value) (x y : W4) (K L : Nat) (w : World) (hv : RdWv w v x K) (hu : RdWv w u y L) (hK : K ≤ 40000) (hL : L ≤ 40000) :
  Calls Tryz.prog 62 #[v, u] w fun e w' => (∃ v', e = .returned v' ∧ RdWv w' v' (x.add y) (K + L + 1)) ∧ Below w.heap.size w w' := by
 obtain ⟨gp0a, Ap0a, kp0a, cp0a, gp0b, Ap0b, kp0b, cp0b, gp0c, Ap0c, kp0c, cp0c, gp0d, Ap0d, kp0d, cp0d, Ap0e, kp0e, cp0e, gp0f, Ap0f, kp0f, cp0f, gp0g, Ap0g, kp0g, cp0g, gp0h, Ap0h, kp0h, cp0h, gp0i, Ap0i, kp0i, cp0i, Ap0j, kp0j, cp0j, rfl, hv⟩ := hv.open
 have HX0 := h0d hv
 clear hv
 obtain ⟨gp1a, Ap1a, kp1a, cp1a, gp1b, Ap1b, kp1b, cp1b, gp1c, Ap1c, kp1c, cp1c, gp1d, Ap1d, kp1d, cp1d, Ap1e, kp1e, cp1e, gp1f, Ap1f, kp1f, cp1f, gp1g, Ap1g, kp1g, cp1g, gp1h, Ap1h, kp1h, cp1h, gp1i, Ap1i, kp1i, cp1i, Ap1j, kp1j, cp1j, rfl, hu⟩ := hu.open
 have HX1 := h0d hu
 clear hu
 go_enter Tryz.func62, Tryz.ntmps62
 obtain ⟨W1, HW1, HB2, s1w, j1⟩ := st_al0 w #[.bool gp0a, .slice Ap0a kp0a cp0a, .bool gp0b, .slice Ap0b kp0b cp0b, .bool gp0c, .slice Ap0c kp0c cp0c, .bool gp0d, .slice Ap0d kp0d cp0d, .slice Ap0e kp0e cp0e, .bool gp0f, .slice Ap0f kp0f cp0f, .bool gp0g, .slice Ap0g kp0g cp0g, .bool gp0h, .slice Ap0h kp0h cp0h, .bool gp0i, .slice Ap0i kp0i cp0i, .slice Ap0j kp0j cp0j] 88
 have HBw := h0d j1
 obtain ⟨W3, HW3, HB4, s3w, j2⟩ := st_alk 1 2 #[.bool gp1a, .slice Ap1a kp1a cp1a, .bool gp1b, .slice Ap1b kp1b cp1b, .bool gp1c, .slice Ap1c kp1c cp1c, .bool gp1d, .slice Ap1d kp1d cp1d, .slice Ap1e kp1e cp1e, .bool gp1f, .slice Ap1f kp1f cp1f, .bool gp1g, .slice Ap1g kp1g cp1g, .bool gp1h, .slice Ap1h kp1h cp1h, .bool gp1i, .slice Ap1i kp1i cp1i, .slice Ap1j kp1j cp1j] 88 s1w rfl
 obtain ⟨W5, HW5, HB6, s5w, j3⟩ := st_alk 2 3 #[.bool false, .slice none 0 0, .bool false, .slice none 0 0, .bool false, .slice none 0 0, .bool false, .slice none 0 0, .slice none 0 0, .bool false, .slice none 0 0, .bool false, .slice none 0 0, .bool false, .slice none 0 0, .bool false, .slice none 0 0, .slice none 0 0] 88 s3w rfl
 have n2b6 : Hid (w.heap.size ≠ w.heap.size + 2) := by show _ ≠ _; omega
 have n4b6 : Hid (w.heap.size + 1 ≠ w.heap.size + 2) := by show _ ≠ _; omega
 have l6b : Hid (w.heap.size ≤ w.heap.size + 2) := by show _ ≤ _; omega
 go_wp2_with fail
 rw [← HW1.out, ← HW3.out, ← HW5.out]
 obtain ⟨W7, hW7⟩ : ∃ W, W = W5.drew := ⟨_, rfl⟩
 have j4 : Below W5.heap.size W5 W7 := by rw [hW7]; exact (Below.refl _ _).drew
 have jm1 := tt (tt j2 j3) j4
 replace HB2 := kB HB2 jm1
 have jm2 := tt j3 j4
 replace HB4 := kB HB4 jm2
 refine seq_start (S := fun w' => w'.cell? ⟨w.heap.size, 0, none⟩ = some (.bool gp0a) ∧ w'.cell? ⟨w.heap.size, 1, none⟩ = some (.slice Ap0a kp0a cp0a) ∧ w'.cell? ⟨w.heap.size, 2, none⟩ = some (.bool gp0b) ∧ w'.cell? ⟨w.heap.size, 3, none⟩ = some (.slice Ap0b kp0b cp0b) ∧ w'.cell? ⟨w.heap.size, 4, none⟩ = some (.bool gp0c) ∧ w'.cell? ⟨w.heap.size, 5, none⟩ = some (.slice Ap0c kp0c cp0c) ∧ w'.cell? ⟨w.heap.size, 6, none⟩ = some (.bool gp0d) ∧ w'.cell? ⟨w.heap.size, 7, none⟩ = some (.slice Ap0d kp0d cp0d) ∧ w'.cell? ⟨w.heap.size, 8, none⟩ = some (.slice Ap0e kp0e cp0e) ∧ w'.cell? ⟨w.heap.size + 1, 0, none⟩ = some (.bool gp1a) ∧ w'.cell? ⟨w.heap.size + 1, 1, none⟩ = some (.slice Ap1a kp1a cp1a) ∧ w'.cell? ⟨w.heap.size + 1, 2, none⟩ = some (.bool gp1b) ∧ w'.cell? ⟨w.heap.size + 1, 3, none⟩ = some (.slice Ap1b kp1b cp1b) ∧ w'.cell? ⟨w.heap.size + 1, 4, none⟩ = some (.bool gp1c) ∧ w'.cell? ⟨w.heap.size + 1, 5, none⟩ = some (.slice Ap1c kp1c cp1c) ∧ w'.cell? ⟨w.heap.size + 1, 6, none⟩ = some (.bool gp1d) ∧ w'.cell? ⟨w.heap.size + 1, 7, none⟩ = some (.slice Ap1d kp1d cp1d) ∧ w'.cell? ⟨w.heap.size + 1, 8, none⟩ = some (.slice Ap1e kp1e cp1e) ∧ w'.cell? ⟨w.heap.size, 9, none⟩ = some (.bool gp0f) ∧ w'.cell? ⟨w.heap.size, 10, none⟩ = some (.slice Ap0f kp0f cp0f) ∧ w'.cell? ⟨w.heap.size, 11, none⟩ = some (.bool gp0g) ∧ w'.cell? ⟨w.heap.size, 12, none⟩ = some (.slice Ap0g kp0g cp0g) ∧ w'.cell? ⟨w.heap.size, 13, none⟩ = some (.bool gp0h) ∧ w'.cell? ⟨w.heap.size, 14, none⟩ = some (.slice Ap0h kp0h cp0h) ∧ w'.cell? ⟨w.heap.size, 15, none⟩ = some (.bool gp0i) ∧ w'.cell? ⟨w.heap.size, 16, none⟩ = some (.slice Ap0i kp0i cp0i) ∧ w'.cell? ⟨w.heap.size, 17, none⟩ = some (.slice Ap0j kp0j cp0j) ∧ w'.cell? ⟨w.heap.size + 1, 9, none⟩ = some (.bool gp1f) ∧ w'.cell? ⟨w.heap.size + 1, 10, none⟩ = some (.slice Ap1f kp1f cp1f) ∧ w'.cell? ⟨w.heap.size + 1, 11, none⟩ = some (.bool gp1g) ∧ w'.cell? ⟨w.heap.size + 1, 12, none⟩ = some (.slice Ap1g kp1g cp1g) ∧ w'.cell? ⟨w.heap.size + 1, 13, none⟩ = some (.bool gp1h) ∧ w'.cell? ⟨w.heap.size + 1, 14, none⟩ = some (.slice Ap1h kp1h cp1h) ∧ w'.cell? ⟨w.heap.size + 1, 15, none⟩ = some (.bool gp1i) ∧ w'.cell? ⟨w.heap.size + 1, 16, none⟩ = some (.slice Ap1i kp1i cp1i) ∧ w'.cell? ⟨w.heap.size + 1, 17, none⟩ = some (.slice Ap1j kp1j cp1j)) (by kernel_rfl) (by kernel_rfl) (by rw [← hW7]; exact ⟨kD HB2 0, kD HB2 1, kD HB2 2, kD HB2 3, kD HB2 4, kD HB2 5, kD HB2 6, kD HB2 7, kD HB2 8, kD HB4 0, kD HB4 1, kD HB4 2, kD HB4 3, kD HB4 4, kD HB4 5, kD HB4 6, kD HB4 7, kD HB4 8, kD HB2 9, kD HB2 10, kD HB2 11, kD HB2 12, kD HB2 13, kD HB2 14, kD HB2 15, kD HB2 16, kD HB2 17, kD HB4 9, kD HB4 10, kD HB4 11, kD HB4 12, kD HB4 13, kD HB4 14, kD HB4 15, kD HB4 16, kD HB4 17⟩) ?_
 rw [← hW7]
 clear hW7
 iterate 4 refine tk0 (h := ?_)
 iterate 4 (refine plq 1 (h := ?_); refine tk0 (h := ?_))
 refine sop (h := fun K9 hK9 => ?_)
 go_simp
 replace HBw := kU HBw jm1
 replace HX0 := kV HBw.out HX0
 replace HX1 := kV HBw.out HX1
 refine mS (saddS_any _ _ x.re y.re K L _ HX0.out.parts.1 HX1.out.parts.1 (by omega) (by omega)) fun w1 g1a A1a k1a c1a g1b A1b k1b c1b g1c A1c k1c c1c g1d A1d k1d c1d A1e k1e c1e HR1 j1c => ?_
 replace HB2 := kB HB2 j1c
 replace HB4 := kB HB4 j1c
 refine ckk hK9 (by exact ⟨kD HB2 0, kD HB2 1, kD HB2 2, kD HB2 3, kD HB2 4, kD HB2 5, kD HB2 6, kD HB2 7, kD HB2 8, kD HB4 0, kD HB4 1, kD HB4 2, kD HB4 3, kD HB4 4, kD HB4 5, kD HB4 6, kD HB4 7, kD HB4 8, kD HB2 9, kD HB2 10, kD HB2 11, kD HB2 12, kD HB2 13, kD HB2 14, kD HB2 15, kD HB2 16, kD HB2 17, kD HB4 9, kD HB4 10, kD HB4 11, kD HB4 12, kD HB4 13, kD HB4 14, kD HB4 15, kD HB4 16, kD HB4 17⟩) (h := ?_)
 clear hK9 K9
 refine sop (h := fun K9 hK9 => ?_)
 go_simp
 replace HX0 := kV j1c HX0
 replace HX1 := kV j1c HX1
 refine mS (saddS_any _ _ x.im y.im K L _ HX0.out.parts.2 HX1.out.parts.2 (by omega) (by omega)) fun w2 g2a A2a k2a c2a g2b A2b k2b c2b g2c A2c k2c c2c g2d A2d k2d c2d A2e k2e c2e HR2 j2c => ?_
 replace HB2 := kB HB2 j2c
 replace HB4 := kB HB4 j2c
 refine ckk hK9 (by exact ⟨kD HB2 0, kD HB2 1, kD HB2 2, kD HB2 3, kD HB2 4, kD HB2 5, kD HB2 6, kD HB2 7, kD HB2 8, kD HB4 0, kD HB4 1, kD HB4 2, kD HB4 3, kD HB4 4, kD HB4 5, kD HB4 6, kD HB4 7, kD HB4 8, kD HB2 9, kD HB2 10, kD HB2 11, kD HB2 12, kD HB2 13, kD HB2 14, kD HB2 15, kD HB2 16, kD HB2 17, kD HB4 9, kD HB4 10, kD HB4 11, kD HB4 12, kD HB4 13, kD HB4 14, kD HB4 15, kD HB4 16, kD HB4 17⟩) (h := ?_)
 clear hK9 K9
 refine tk0 (h := ?_)
 refine sop (h := fun K9 hK9 => ?_)
 have jm3 := tt (tt j4 j1c) j2c
 replace HB6 := kB HB6 jm3
 have t8h := kth 0 18 HB6
 refine smw 88 (w.heap.size + 2) 0 (ht := by exact t8h) (h := ?_)
 obtain ⟨W9, HW9⟩ : ∃ W, Hid (W = w2.setCells (w.heap.size + 2) 0 [.bool g1a, .slice A1a k1a c1a, .bool g1b, .slice A1b k1b c1b, .bool g1c, .slice A1c k1c c1c, .bool g1d, .slice A1d k1d c1d, .slice A1e k1e c1e, .bool g2a, .slice A2a k2a c2a, .bool g2b, .slice A2b k2b c2b, .bool g2c, .slice A2c k2c c2c, .bool g2d, .slice A2d k2d c2d, .slice A2e k2e c2e]) := ⟨_, rfl⟩
 have TW9 := kN (kM HW9) HB6 rfl rfl
 replace HB6 := kP (ds := [.bool g1a, .slice A1a k1a c1a, .bool g1b, .slice A1b k1b c1b, .bool g1c, .slice A1c k1c c1c, .bool g1d, .slice A1d k1d c1d, .slice A1e k1e c1e, .bool g2a, .slice A2a k2a c2a, .bool g2b, .slice A2b k2b c2b, .bool g2c, .slice A2c k2c c2c, .bool g2d, .slice A2d k2d c2d, .slice A2e k2e c2e]) (kM HW9) HB6 rfl rfl
 rw [← HW9.out]
 replace HB2 := kO (kM HW9) HB2 n2b6.out
 replace HB4 := kO (kM HW9) HB4 n4b6.out
 refine ckk hK9 (by exact ⟨kD HB2 0, kD HB2 1, kD HB2 2, kD HB2 3, kD HB2 4, kD HB2 5, kD HB2 6, kD HB2 7, kD HB2 8, kD HB4 0, kD HB4 1, kD HB4 2, kD HB4 3, kD HB4 4, kD HB4 5, kD HB4 6, kD HB4 7, kD HB4 8, kD HB2 9, kD HB2 10, kD HB2 11, kD HB2 12, kD HB2 13, kD HB2 14, kD HB2 15, kD HB2 16, kD HB2 17, kD HB4 9, kD HB4 10, kD HB4 11, kD HB4 12, kD HB4 13, kD HB4 14, kD HB4 15, kD HB4 16, kD HB4 17⟩) (h := ?_)
 clear hK9 K9 t8h
 refine seq_done (by kernel_rfl) ?_
 go_wp2_with fail
 replace HR1 := kW TW9 (kV j2c HR1)
 replace HR2 := kW TW9 HR2
 have jm4 := tt j1c j2c
 replace HBw := kS (kM HW9) l6b (kU HBw jm4)
 exact bodyPost_ret (results_cell rfl (by rfl) (blk_all HB6.out) Tryz.underlying88 rfl (by kernel_rfl)) rfl ⟨⟨_, rfl, (show RdWv _ _ (x.add y) (K + L + 1) from RdWv.mk (x := x.add y) HR1.out HR2.out)⟩, HBw.out⟩
end Go.Proofs.YtodckaioeomccaaGreat
