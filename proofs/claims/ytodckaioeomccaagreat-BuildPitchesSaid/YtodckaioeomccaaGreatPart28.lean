/- Walks of numbers with roots: Neg, Add, Sub, product, Mul, Zero, Same, Of. Stores of many cells at once: by the kit's law, without unrolling. Walks of directions: cosine, Turn, Re, Im. Walks of numbers with roots: product, Mul. A new block into which many cells are stored at once. -/
import Derived.Test.YtodckaioeomccaaGreatPart23
import Derived.Deep.MidRow
import Derived.StillTailTactics
namespace Go.Proofs.YtodckaioeomccaaGreat
open Go.RowKit Go.Proofs.S4P
set_option linter.unusedVariables false
set_option linter.unusedSimpArgs false
set_option maxRecDepth 100000
set_option maxHeartbeats 4000000
theorem dl_add2 {a b : Int} {K : Nat} (ha : dl a.natAbs ≤ K) (hb : dl b.natAbs ≤ K) : dl (a + b).natAbs ≤ K + 1 := by have := dl_two a b; omega
theorem dl_muln {a : Int} {b K L : Nat} (ha : dl a.natAbs ≤ K) (hb : dl b ≤ L) : dl (a * b).natAbs ≤ K + L := by have := dl_imul a b; omega
theorem Sx.neg {x : S4} {n0 n1 n2 n3 : Int} {d K : Nat} (h : Sx x n0 n1 n2 n3 d K) : Sx x.neg (-n0) (-n1) (-n2) (-n3) d K := by
 obtain ⟨k0, ⟨a, b, c, e⟩, ⟨p, q, r, s⟩, t⟩ := h
 refine ⟨k0, ⟨?_, ?_, ?_, ?_⟩, ⟨by rw [Int.natAbs_neg]; exact p, by rw [Int.natAbs_neg]; exact q, by rw [Int.natAbs_neg]; exact r, by rw [Int.natAbs_neg]; exact s⟩, t⟩
 all_goals (simp only [S4.neg, Rat.intCast_neg]; grind)
theorem Sx.add {x y : S4} {n0 n1 n2 n3 m0 m1 m2 m3 : Int} {d e K L : Nat} (h : Sx x n0 n1 n2 n3 d K) (k : Sx y m0 m1 m2 m3 e L) : Sx (x.add y) (n0 * e + m0 * d) (n1 * e + m1 * d) (n2 * e + m2 * d) (n3 * e + m3 * d) (d * e) (K + L + 1) := by
 obtain ⟨k0, ⟨a, b, c, e0⟩, ⟨p, q, r, s⟩, t⟩ := h
 obtain ⟨k0', ⟨a', b', c', e0'⟩, ⟨p', q', r', s'⟩, t'⟩ := k
 refine ⟨Nat.mul_ne_zero k0 k0', ⟨?_, ?_, ?_, ?_⟩, ⟨?_, ?_, ?_, ?_⟩, ?_⟩
 ·simp only [S4.add, Rat.natCast_mul, Rat.intCast_add, Rat.intCast_mul, Rat.intCast_natCast, ← a, ← a']; grind
 ·simp only [S4.add, Rat.natCast_mul, Rat.intCast_add, Rat.intCast_mul, Rat.intCast_natCast, ← b, ← b']; grind
 ·simp only [S4.add, Rat.natCast_mul, Rat.intCast_add, Rat.intCast_mul, Rat.intCast_natCast, ← c, ← c']; grind
 ·simp only [S4.add, Rat.natCast_mul, Rat.intCast_add, Rat.intCast_mul, Rat.intCast_natCast, ← e0, ← e0']; grind
 ·exact dl_add2 (dl_muln p t') (by have := dl_muln p' t; omega)
 ·exact dl_add2 (dl_muln q t') (by have := dl_muln q' t; omega)
 ·exact dl_add2 (dl_muln r t') (by have := dl_muln r' t; omega)
 ·exact dl_add2 (dl_muln s t') (by have := dl_muln s' t; omega)
 ·have := dl_mul d e; omega
theorem snegS_any (v : Value) (x : S4) (K : Nat) (w : World) (hv : RdS w v x K) :
  Calls Tryz.prog 207 #[v] w fun e w' => (∃ v', e = .returned v' ∧ RdS w' v' (x.neg) (K)) ∧ Below w.heap.size w w' := by
 obtain ⟨n0, n1, n2, n3, d, hv, hxx⟩ := hv
 have HSx := h0d hxx
 clear hxx
 obtain ⟨gp0a, Ap0a, kp0a, cp0a, gp0b, Ap0b, kp0b, cp0b, gp0c, Ap0c, kp0c, cp0c, gp0d, Ap0d, kp0d, cp0d, Ap0e, kp0e, cp0e, rfl, hv⟩ := hv.open
 have HX0 := h0d hv
 clear hv
 go_enter Tryz.func207, Tryz.ntmps207
 obtain ⟨W1, HW1, HB2, s1w, j1⟩ := st_al0 w #[.bool gp0a, .slice Ap0a kp0a cp0a, .bool gp0b, .slice Ap0b kp0b cp0b, .bool gp0c, .slice Ap0c kp0c cp0c, .bool gp0d, .slice Ap0d kp0d cp0d, .slice Ap0e kp0e cp0e] 30
 have l2b : Hid (w.heap.size ≤ w.heap.size) := by show _ ≤ _; omega
 have HBw := h0d j1
 obtain ⟨W3, HW3, HB4, s3w, j2⟩ := st_alk 1 2 #[.bool false, .slice none 0 0, .bool false, .slice none 0 0, .bool false, .slice none 0 0, .bool false, .slice none 0 0, .slice none 0 0] 30 s1w rfl
 have n2b4 : Hid (w.heap.size ≠ w.heap.size + 1) := by show _ ≠ _; omega
 have l4b : Hid (w.heap.size ≤ w.heap.size + 1) := by show _ ≤ _; omega
 go_wp2_with fail
 rw [← HW1.out, ← HW3.out]
 refine wp_loop_rounds 5 ?_
 rw [rounds_succ]
 replace HB2 := kB HB2 j2
 have c5 := kC HB2 0 rfl
 have c6 := kC HB2 1 rfl
 go_wp2_with fail
 clear c5 c6
 replace HBw := kU HBw j2
 replace HX0 := kV HBw.out HX0
 refine mZ (iminus_any _ n0 _ HX0.out.z0) fun w1 g1a A1a k1a c1a HR1 j1c => ?_
 replace HB2 := kB HB2 j1c
 have c7 := kC HB2 0 rfl
 have c8 := kF HB2 0
 have c9 := kC HB2 1 rfl
 have c10 := kF HB2 1
 obtain ⟨W11, HW11⟩ : ∃ W, Hid (W = ((w1.setCell ⟨w.heap.size, 0, none⟩ (.bool g1a)).setCell ⟨w.heap.size, 1, none⟩ (.slice A1a k1a c1a))) := ⟨_, rfl⟩
 have SW11 : Hid (W11 = setsW w1 (w.heap.size) 0 [.bool g1a, .slice A1a k1a c1a]) := HW11.out
 have TW11 := kN (SW11.out) HB2 rfl rfl
 replace HB2 := kP (ds := [.bool g1a, .slice A1a k1a c1a, .bool gp0b, .slice Ap0b kp0b cp0b, .bool gp0c, .slice Ap0c kp0c cp0c, .bool gp0d, .slice Ap0d kp0d cp0d, .slice Ap0e kp0e cp0e]) (SW11.out) HB2 rfl rfl
 go_wp2_with fail
 rw [← HW11.out]
 clear c7 c8 c9 c10
 rw [rounds_succ]
 have c12 := kC HB2 2 rfl
 have c13 := kC HB2 3 rfl
 go_wp2_with fail
 clear c12 c13
 replace HX0 := kW TW11 (kV j1c HX0)
 refine mZ (iminus_any _ n1 _ HX0.out.z1) fun w2 g2a A2a k2a c2a HR2 j2c => ?_
 replace HB2 := kB HB2 j2c
 have c14 := kC HB2 2 rfl
 have c15 := kF HB2 2
 have c16 := kC HB2 3 rfl
 have c17 := kF HB2 3
 obtain ⟨W18, HW18⟩ : ∃ W, Hid (W = ((w2.setCell ⟨w.heap.size, 2, none⟩ (.bool g2a)).setCell ⟨w.heap.size, 3, none⟩ (.slice A2a k2a c2a))) := ⟨_, rfl⟩
 have SW18 : Hid (W18 = setsW w2 (w.heap.size) 2 [.bool g2a, .slice A2a k2a c2a]) := HW18.out
 have TW18 := kN (SW18.out) HB2 rfl rfl
 replace HB2 := kP (ds := [.bool g1a, .slice A1a k1a c1a, .bool g2a, .slice A2a k2a c2a, .bool gp0c, .slice Ap0c kp0c cp0c, .bool gp0d, .slice Ap0d kp0d cp0d, .slice Ap0e kp0e cp0e]) (SW18.out) HB2 rfl rfl
 go_wp2_with fail
 rw [← HW18.out]
 clear c14 c15 c16 c17
 rw [rounds_succ]
 have c19 := kC HB2 4 rfl
 have c20 := kC HB2 5 rfl
 go_wp2_with fail
 clear c19 c20
 replace HX0 := kW TW18 (kV j2c HX0)
 refine mZ (iminus_any _ n2 _ HX0.out.z2) fun w3 g3a A3a k3a c3a HR3 j3c => ?_
 replace HB2 := kB HB2 j3c
 have c21 := kC HB2 4 rfl
 have c22 := kF HB2 4
 have c23 := kC HB2 5 rfl
 have c24 := kF HB2 5
 obtain ⟨W25, HW25⟩ : ∃ W, Hid (W = ((w3.setCell ⟨w.heap.size, 4, none⟩ (.bool g3a)).setCell ⟨w.heap.size, 5, none⟩ (.slice A3a k3a c3a))) := ⟨_, rfl⟩
 have SW25 : Hid (W25 = setsW w3 (w.heap.size) 4 [.bool g3a, .slice A3a k3a c3a]) := HW25.out
 have TW25 := kN (SW25.out) HB2 rfl rfl
 replace HB2 := kP (ds := [.bool g1a, .slice A1a k1a c1a, .bool g2a, .slice A2a k2a c2a, .bool g3a, .slice A3a k3a c3a, .bool gp0d, .slice Ap0d kp0d cp0d, .slice Ap0e kp0e cp0e]) (SW25.out) HB2 rfl rfl
 go_wp2_with fail
 rw [← HW25.out]
 clear c21 c22 c23 c24
 rw [rounds_succ]
 have c26 := kC HB2 6 rfl
 have c27 := kC HB2 7 rfl
 go_wp2_with fail
 clear c26 c27
 replace HX0 := kW TW25 (kV j3c HX0)
 refine mZ (iminus_any _ n3 _ HX0.out.z3) fun w4 g4a A4a k4a c4a HR4 j4c => ?_
 replace HB2 := kB HB2 j4c
 have c28 := kC HB2 6 rfl
 have c29 := kF HB2 6
 have c30 := kC HB2 7 rfl
 have c31 := kF HB2 7
 obtain ⟨W32, HW32⟩ : ∃ W, Hid (W = ((w4.setCell ⟨w.heap.size, 6, none⟩ (.bool g4a)).setCell ⟨w.heap.size, 7, none⟩ (.slice A4a k4a c4a))) := ⟨_, rfl⟩
 have SW32 : Hid (W32 = setsW w4 (w.heap.size) 6 [.bool g4a, .slice A4a k4a c4a]) := HW32.out
 have TW32 := kN (SW32.out) HB2 rfl rfl
 replace HB2 := kP (ds := [.bool g1a, .slice A1a k1a c1a, .bool g2a, .slice A2a k2a c2a, .bool g3a, .slice A3a k3a c3a, .bool g4a, .slice A4a k4a c4a, .slice Ap0e kp0e cp0e]) (SW32.out) HB2 rfl rfl
 go_wp2_with fail
 rw [← HW32.out]
 clear c28 c29 c30 c31
 rw [rounds_succ]
 have c33 := kC HB2 0 rfl
 have c34 := kC HB2 1 rfl
 have c35 := kC HB2 2 rfl
 have c36 := kC HB2 3 rfl
 have c37 := kC HB2 4 rfl
 have c38 := kC HB2 5 rfl
 have c39 := kC HB2 6 rfl
 have c40 := kC HB2 7 rfl
 have c41 := kC HB2 8 rfl
 replace HB4 := kO (SW32.out) (kB (kO (SW25.out) (kB (kO (SW18.out) (kB (kO (SW11.out) (kB HB4 j1c) n2b4.out.symm) j2c) n2b4.out.symm) j3c) n2b4.out.symm) j4c) n2b4.out.symm
 have c42 := kC HB4 0 rfl
 have c43 := kF HB4 0
 have c44 := kC HB4 1 rfl
 have c45 := kF HB4 1
 have c46 := kC HB4 2 rfl
 have c47 := kF HB4 2
 have c48 := kC HB4 3 rfl
 have c49 := kF HB4 3
 have c50 := kC HB4 4 rfl
 have c51 := kF HB4 4
 have c52 := kC HB4 5 rfl
 have c53 := kF HB4 5
 have c54 := kC HB4 6 rfl
 have c55 := kF HB4 6
 have c56 := kC HB4 7 rfl
 have c57 := kF HB4 7
 have c58 := kC HB4 8 rfl
 have c59 := kF HB4 8
 obtain ⟨W60, HW60⟩ : ∃ W, Hid (W = (((((((((W32.setCell ⟨w.heap.size + 1, 0, none⟩ (.bool g1a)).setCell ⟨w.heap.size + 1, 1, none⟩ (.slice A1a k1a c1a)).setCell ⟨w.heap.size + 1, 2, none⟩ (.bool g2a)).setCell ⟨w.heap.size + 1, 3, none⟩ (.slice A2a k2a c2a)).setCell ⟨w.heap.size + 1, 4, none⟩ (.bool g3a)).setCell ⟨w.heap.size + 1, 5, none⟩ (.slice A3a k3a c3a)).setCell ⟨w.heap.size + 1, 6, none⟩ (.bool g4a)).setCell ⟨w.heap.size + 1, 7, none⟩ (.slice A4a k4a c4a)).setCell ⟨w.heap.size + 1, 8, none⟩ (.slice Ap0e kp0e cp0e))) := ⟨_, rfl⟩
 have SW60 : Hid (W60 = setsW W32 (w.heap.size + 1) 0 [.bool g1a, .slice A1a k1a c1a, .bool g2a, .slice A2a k2a c2a, .bool g3a, .slice A3a k3a c3a, .bool g4a, .slice A4a k4a c4a, .slice Ap0e kp0e cp0e]) := HW60.out
 have TW60 := kN (SW60.out) HB4 rfl rfl
 replace HB4 := kP (ds := [.bool g1a, .slice A1a k1a c1a, .bool g2a, .slice A2a k2a c2a, .bool g3a, .slice A3a k3a c3a, .bool g4a, .slice A4a k4a c4a, .slice Ap0e kp0e cp0e]) (SW60.out) HB4 rfl rfl
 go_wp2_with fail
 rw [← HW60.out]
 clear c33 c34 c35 c36 c37 c38 c39 c40 c41 c42 c43 c44 c45 c46 c47 c48 c49 c50 c51 c52 c53 c54 c55 c56 c57 c58 c59
 have c61 := kC HB4 0 rfl
 have c62 := kC HB4 1 rfl
 have c63 := kC HB4 2 rfl
 have c64 := kC HB4 3 rfl
 have c65 := kC HB4 4 rfl
 have c66 := kC HB4 5 rfl
 have c67 := kC HB4 6 rfl
 have c68 := kC HB4 7 rfl
 have c69 := kC HB4 8 rfl
 replace HR1 := kW TW60 (kW TW32 (kV j4c (kW TW25 (kV j3c (kW TW18 (kV j2c (kW TW11 HR1)))))))
 replace HR2 := kW TW60 (kW TW32 (kV j4c (kW TW25 (kV j3c (kW TW18 HR2)))))
 replace HR3 := kW TW60 (kW TW32 (kV j4c (kW TW25 HR3)))
 replace HR4 := kW TW60 (kW TW32 HR4)
 replace HX0 := kW TW60 (kW TW32 (kV j4c HX0))
 replace HBw := kS (SW60.out) l4b (kS (SW32.out) l2b (kU (kS (SW25.out) l2b (kU (kS (SW18.out) l2b (kU (kS (SW11.out) l2b (kU HBw j1c)) j2c)) j3c)) j4c))
 exact bodyPost_ret (v := .agg #[.bool g1a, .slice A1a k1a c1a, .bool g2a, .slice A2a k2a c2a, .bool g3a, .slice A3a k3a c3a, .bool g4a, .slice A4a k4a c4a, .slice Ap0e kp0e cp0e]) (by simp [results, Tryz.results207, go_sem, c61, c62, c63, c64, c65, c66, c67, c68, c69]) rfl ⟨⟨_, rfl, (show RdS _ _ x.neg K from ⟨_, _, _, _, _, RdSn.mk HR1.out HR2.out HR3.out HR4.out HX0.out.den, HSx.out.neg⟩)⟩, HBw.out⟩
theorem saddS_any (v u : Value) (x y : S4) (K L : Nat) (w : World) (hv : RdS w v x K) (hu : RdS w u y L) (hK : K ≤ 100000) (hL : L ≤ 100000) :
  Calls Tryz.prog 133 #[v, u] w fun e w' => (∃ v', e = .returned v' ∧ RdS w' v' (x.add y) (K + L + 1)) ∧ Below w.heap.size w w' := by
 obtain ⟨n0, n1, n2, n3, d, hv, hxx⟩ := hv
 have HSx := h0d hxx
 clear hxx
 obtain ⟨m0, m1, m2, m3, e, hu, hxy⟩ := hu
 have HSy := h0d hxy
 clear hxy
 obtain ⟨gp0a, Ap0a, kp0a, cp0a, gp0b, Ap0b, kp0b, cp0b, gp0c, Ap0c, kp0c, cp0c, gp0d, Ap0d, kp0d, cp0d, Ap0e, kp0e, cp0e, rfl, hv⟩ := hv.open
 have HX0 := h0d hv
 clear hv
 obtain ⟨gp1a, Ap1a, kp1a, cp1a, gp1b, Ap1b, kp1b, cp1b, gp1c, Ap1c, kp1c, cp1c, gp1d, Ap1d, kp1d, cp1d, Ap1e, kp1e, cp1e, rfl, hu⟩ := hu.open
 have HX1 := h0d hu
 clear hu
 go_enter Tryz.func133, Tryz.ntmps133
 obtain ⟨W1, HW1, HB2, s1w, j1⟩ := st_al0 w #[.bool gp0a, .slice Ap0a kp0a cp0a, .bool gp0b, .slice Ap0b kp0b cp0b, .bool gp0c, .slice Ap0c kp0c cp0c, .bool gp0d, .slice Ap0d kp0d cp0d, .slice Ap0e kp0e cp0e] 30
 have HBw := h0d j1
 obtain ⟨W3, HW3, HB4, s3w, j2⟩ := st_alk 1 2 #[.bool gp1a, .slice Ap1a kp1a cp1a, .bool gp1b, .slice Ap1b kp1b cp1b, .bool gp1c, .slice Ap1c kp1c cp1c, .bool gp1d, .slice Ap1d kp1d cp1d, .slice Ap1e kp1e cp1e] 30 s1w rfl
 obtain ⟨W5, HW5, HB6, s5w, j3⟩ := st_alk 2 3 #[.bool false, .slice none 0 0, .bool false, .slice none 0 0, .bool false, .slice none 0 0, .bool false, .slice none 0 0, .slice none 0 0] 30 s3w rfl
 have l6b : Hid (w.heap.size ≤ w.heap.size + 2) := by show _ ≤ _; omega
 go_wp2_with fail
 rw [← HW1.out, ← HW3.out, ← HW5.out]
 obtain ⟨W7, hW7⟩ : ∃ W, W = W5.drew := ⟨_, rfl⟩
 have j4 : Below W5.heap.size W5 W7 := by rw [hW7]; exact (Below.refl _ _).drew
 have jm1 := tt (tt j2 j3) j4
 replace HB2 := kB HB2 jm1
 have jm2 := tt j3 j4
 replace HB4 := kB HB4 jm2
 refine seq_start (S := fun w' => w'.cell? ⟨w.heap.size, 8, none⟩ = some (.slice Ap0e kp0e cp0e) ∧ w'.cell? ⟨w.heap.size + 1, 8, none⟩ = some (.slice Ap1e kp1e cp1e)) (by kernel_rfl) (by kernel_rfl) (by rw [← hW7]; exact ⟨kD HB2 8, kD HB4 8⟩) ?_
 rw [← hW7]
 clear hW7
 iterate 2 refine tk0 (h := ?_)
 iterate 2 (refine plq 1 (h := ?_); refine tk0 (h := ?_))
 refine sop (h := fun K9 hK9 => ?_)
 go_simp
 replace HBw := kU HBw jm1
 replace HX0 := kV HBw.out HX0
 refine mN (under_any _ d _ HSx.out.1 HX0.out.den) fun w1 A1 k1 c1 HR1 j1c => ?_
 replace HB2 := kB HB2 j1c
 replace HB4 := kB HB4 j1c
 refine ckk hK9 (by exact ⟨kD HB2 8, kD HB4 8⟩) (h := ?_)
 clear hK9 K9
 refine sop (h := fun K9 hK9 => ?_)
 go_simp
 replace HBw := kU HBw j1c
 replace HX1 := kV HBw.out HX1
 refine mN (under_any _ e _ HSy.out.1 HX1.out.den) fun w2 A2 k2 c2 HR2 j2c => ?_
 replace HB2 := kB HB2 j2c
 replace HB4 := kB HB4 j2c
 refine ckk hK9 (by exact ⟨kD HB2 8, kD HB4 8⟩) (h := ?_)
 clear hK9 K9
 iterate 2 refine tk0 (h := ?_)
 refine seq_done (by kernel_rfl) ?_
 obtain ⟨W8, HW8, HB9, s8w, j5⟩ := st_al0 w2 #[.bool false, .slice none 0 0, .bool false, .slice none 0 0, .bool false, .slice none 0 0, .bool false, .slice none 0 0] 28
 have n2b9 : Hid (w.heap.size ≠ w2.heap.size) := by show _ ≠ _; have hlt := blk_lt HB2.out; omega
 have n4b9 : Hid (w.heap.size + 1 ≠ w2.heap.size) := by show _ ≠ _; have hlt := blk_lt HB4.out; omega
 have n6b9 : Hid (w.heap.size + 2 ≠ w2.heap.size) := by show _ ≠ _; have hlt := blk_lt HB6.out; have := j4.size; have := j1c.size; have := j2c.size; omega
 have l9b : Hid (w.heap.size ≤ w2.heap.size) := by show _ ≤ _; have hlt := HBw.out.size; have := j2c.size; omega
 go_wp2_with fail
 rw [← HW8.out]
 refine wp_loop_rounds 5 ?_
 rw [rounds_succ]
 go_wp2_with fail
 obtain ⟨W10, hW10⟩ : ∃ W, W = W8.drew := ⟨_, rfl⟩
 have j6 : Below W8.heap.size W8 W10 := by rw [hW10]; exact (Below.refl _ _).drew
 have jm3 := tt j5 j6
 replace HB2 := kB HB2 jm3
 replace HB4 := kB HB4 jm3
 refine seq_start (S := fun w' => w'.cell? ⟨w.heap.size, 0, none⟩ = some (.bool gp0a) ∧ w'.cell? ⟨w.heap.size, 1, none⟩ = some (.slice Ap0a kp0a cp0a) ∧ w'.cell? ⟨w.heap.size + 1, 0, none⟩ = some (.bool gp1a) ∧ w'.cell? ⟨w.heap.size + 1, 1, none⟩ = some (.slice Ap1a kp1a cp1a)) (by kernel_rfl) (by kernel_rfl) (by rw [← hW10]; exact ⟨kD HB2 0, kD HB2 1, kD HB4 0, kD HB4 1⟩) ?_
 rw [← hW10]
 clear hW10
 iterate 6 refine tk0 (h := ?_)
 iterate 5 (refine plq 1 (h := ?_); refine tk0 (h := ?_))
 refine sop (h := fun K9 hK9 => ?_)
 go_simp
 have jm4 := tt (tt (tt j1c j2c) j5) j6
 replace HX0 := kV jm4 HX0
 replace HR2 := kV jm3 HR2
 refine mZ (scaled_any _ _ n0 e _ HX0.out.z0 HR2.out (by have := HSx.out.2.2.1.1; omega) (by have := HSy.out.2.2.2; omega)) fun w3 g3a A3a k3a c3a HR3 j3c => ?_
 replace HB2 := kB HB2 j3c
 replace HB4 := kB HB4 j3c
 refine ckk hK9 (by exact ⟨kD HB2 0, kD HB2 1, kD HB4 0, kD HB4 1⟩) (h := ?_)
 clear hK9 K9
 refine sop (h := fun K9 hK9 => ?_)
 go_simp
 have jm5 := tt (tt (tt j2c j5) j6) j3c
 replace HX1 := kV jm5 HX1
 replace HR1 := kV jm5 HR1
 refine mZ (scaled_any _ _ m0 d _ HX1.out.z0 HR1.out (by have := HSy.out.2.2.1.1; omega) (by have := HSx.out.2.2.2; omega)) fun w4 g4a A4a k4a c4a HR4 j4c => ?_
 replace HB2 := kB HB2 j4c
 replace HB4 := kB HB4 j4c
 refine ckk hK9 (by exact ⟨kD HB2 0, kD HB2 1, kD HB4 0, kD HB4 1⟩) (h := ?_)
 clear hK9 K9
 refine sop (h := fun K9 hK9 => ?_)
 go_simp
 replace HR3 := kV j4c HR3
 refine mZ (iplus_any _ _ (n0 * e) (m0 * d) _ HR3.out HR4.out (by have := dl_muln HSx.out.2.2.1.1 HSy.out.2.2.2; omega) (by have := dl_muln HSy.out.2.2.1.1 HSx.out.2.2.2; omega)) fun w5 g5a A5a k5a c5a HR5 j5c => ?_
 replace HB2 := kB HB2 j5c
 replace HB4 := kB HB4 j5c
 refine ckk hK9 (by exact ⟨kD HB2 0, kD HB2 1, kD HB4 0, kD HB4 1⟩) (h := ?_)
 clear hK9 K9
 refine tk0 (h := ?_)
 refine sop (h := fun K9 hK9 => ?_)
 have jm6 := tt (tt (tt j6 j3c) j4c) j5c
 replace HB9 := kB HB9 jm6
 have c11 := kC HB9 0 rfl
 have c12 := kF HB9 0
 have c13 := kC HB9 1 rfl
 have c14 := kF HB9 1
 go_simp
 obtain ⟨W15, HW15⟩ : ∃ W, Hid (W = ((w5.setCell ⟨w2.heap.size, 0, none⟩ (.bool g5a)).setCell ⟨w2.heap.size, 1, none⟩ (.slice A5a k5a c5a))) := ⟨_, rfl⟩
 have SW15 : Hid (W15 = setsW w5 (w2.heap.size) 0 [.bool g5a, .slice A5a k5a c5a]) := HW15.out
 have TW15 := kN (SW15.out) HB9 rfl rfl
 replace HB9 := kP (ds := [.bool g5a, .slice A5a k5a c5a, .bool false, .slice none 0 0, .bool false, .slice none 0 0, .bool false, .slice none 0 0]) (SW15.out) HB9 rfl rfl
 rw [← HW15.out]
 replace HB2 := kO (SW15.out) HB2 n2b9.out
 replace HB4 := kO (SW15.out) HB4 n4b9.out
 refine ckk hK9 (by exact ⟨kD HB2 0, kD HB2 1, kD HB4 0, kD HB4 1⟩) (h := ?_)
 clear hK9 K9 c11 c12 c13 c14
 refine seq_done (by kernel_rfl) ?_
 go_wp2_with fail
 rw [rounds_succ]
 go_wp2_with fail
 obtain ⟨W16, hW16⟩ : ∃ W, W = W15.drew := ⟨_, rfl⟩
 have j7 : Below W15.heap.size W15 W16 := by rw [hW16]; exact (Below.refl _ _).drew
 replace HB2 := kB HB2 j7
 replace HB4 := kB HB4 j7
 refine seq_start (S := fun w' => w'.cell? ⟨w.heap.size, 2, none⟩ = some (.bool gp0b) ∧ w'.cell? ⟨w.heap.size, 3, none⟩ = some (.slice Ap0b kp0b cp0b) ∧ w'.cell? ⟨w.heap.size + 1, 2, none⟩ = some (.bool gp1b) ∧ w'.cell? ⟨w.heap.size + 1, 3, none⟩ = some (.slice Ap1b kp1b cp1b)) (by kernel_rfl) (by kernel_rfl) (by rw [← hW16]; exact ⟨kD HB2 2, kD HB2 3, kD HB4 2, kD HB4 3⟩) ?_
 rw [← hW16]
 clear hW16
 iterate 6 refine tk0 (h := ?_)
 iterate 5 (refine plq 1 (h := ?_); refine tk0 (h := ?_))
 refine sop (h := fun K9 hK9 => ?_)
 go_simp
 have jm7 := tt (tt j3c j4c) j5c
 replace HX0 := kV j7 (kW TW15 (kV jm7 HX0))
 replace HR2 := kV j7 (kW TW15 (kV jm7 HR2))
 refine mZ (scaled_any _ _ n1 e _ HX0.out.z1 HR2.out (by have := HSx.out.2.2.1.2.1; omega) (by have := HSy.out.2.2.2; omega)) fun w6 g6a A6a k6a c6a HR6 j6c => ?_
 replace HB2 := kB HB2 j6c
 replace HB4 := kB HB4 j6c
 refine ckk hK9 (by exact ⟨kD HB2 2, kD HB2 3, kD HB4 2, kD HB4 3⟩) (h := ?_)
 clear hK9 K9
 refine sop (h := fun K9 hK9 => ?_)
 go_simp
 have jm8 := tt j4c j5c
 have jm9 := tt j7 j6c
 replace HX1 := kV jm9 (kW TW15 (kV jm8 HX1))
 replace HR1 := kV jm9 (kW TW15 (kV jm8 HR1))
 refine mZ (scaled_any _ _ m1 d _ HX1.out.z1 HR1.out (by have := HSy.out.2.2.1.2.1; omega) (by have := HSx.out.2.2.2; omega)) fun w7 g7a A7a k7a c7a HR7 j7c => ?_
 replace HB2 := kB HB2 j7c
 replace HB4 := kB HB4 j7c
 refine ckk hK9 (by exact ⟨kD HB2 2, kD HB2 3, kD HB4 2, kD HB4 3⟩) (h := ?_)
 clear hK9 K9
 refine sop (h := fun K9 hK9 => ?_)
 go_simp
 replace HR6 := kV j7c HR6
 refine mZ (iplus_any _ _ (n1 * e) (m1 * d) _ HR6.out HR7.out (by have := dl_muln HSx.out.2.2.1.2.1 HSy.out.2.2.2; omega) (by have := dl_muln HSy.out.2.2.1.2.1 HSx.out.2.2.2; omega)) fun w8 g8a A8a k8a c8a HR8 j8c => ?_
 replace HB2 := kB HB2 j8c
 replace HB4 := kB HB4 j8c
 refine ckk hK9 (by exact ⟨kD HB2 2, kD HB2 3, kD HB4 2, kD HB4 3⟩) (h := ?_)
 clear hK9 K9
 refine tk0 (h := ?_)
 refine sop (h := fun K9 hK9 => ?_)
 have jm10 := tt (tt jm9 j7c) j8c
 replace HB9 := kB HB9 jm10
 have c17 := kC HB9 2 rfl
 have c18 := kF HB9 2
 have c19 := kC HB9 3 rfl
 have c20 := kF HB9 3
 go_simp
 obtain ⟨W21, HW21⟩ : ∃ W, Hid (W = ((w8.setCell ⟨w2.heap.size, 2, none⟩ (.bool g8a)).setCell ⟨w2.heap.size, 3, none⟩ (.slice A8a k8a c8a))) := ⟨_, rfl⟩
 have SW21 : Hid (W21 = setsW w8 (w2.heap.size) 2 [.bool g8a, .slice A8a k8a c8a]) := HW21.out
 have TW21 := kN (SW21.out) HB9 rfl rfl
 replace HB9 := kP (ds := [.bool g5a, .slice A5a k5a c5a, .bool g8a, .slice A8a k8a c8a, .bool false, .slice none 0 0, .bool false, .slice none 0 0]) (SW21.out) HB9 rfl rfl
 rw [← HW21.out]
 replace HB2 := kO (SW21.out) HB2 n2b9.out
 replace HB4 := kO (SW21.out) HB4 n4b9.out
 refine ckk hK9 (by exact ⟨kD HB2 2, kD HB2 3, kD HB4 2, kD HB4 3⟩) (h := ?_)
 clear hK9 K9 c17 c18 c19 c20
 refine seq_done (by kernel_rfl) ?_
 go_wp2_with fail
 rw [rounds_succ]
 go_wp2_with fail
 obtain ⟨W22, hW22⟩ : ∃ W, W = W21.drew := ⟨_, rfl⟩
 have j8 : Below W21.heap.size W21 W22 := by rw [hW22]; exact (Below.refl _ _).drew
 replace HB2 := kB HB2 j8
 replace HB4 := kB HB4 j8
 refine seq_start (S := fun w' => w'.cell? ⟨w.heap.size, 4, none⟩ = some (.bool gp0c) ∧ w'.cell? ⟨w.heap.size, 5, none⟩ = some (.slice Ap0c kp0c cp0c) ∧ w'.cell? ⟨w.heap.size + 1, 4, none⟩ = some (.bool gp1c) ∧ w'.cell? ⟨w.heap.size + 1, 5, none⟩ = some (.slice Ap1c kp1c cp1c)) (by kernel_rfl) (by kernel_rfl) (by rw [← hW22]; exact ⟨kD HB2 4, kD HB2 5, kD HB4 4, kD HB4 5⟩) ?_
 rw [← hW22]
 clear hW22
 iterate 6 refine tk0 (h := ?_)
 iterate 5 (refine plq 1 (h := ?_); refine tk0 (h := ?_))
 refine sop (h := fun K9 hK9 => ?_)
 go_simp
 have jm11 := tt (tt j6c j7c) j8c
 replace HX0 := kV j8 (kW TW21 (kV jm11 HX0))
 replace HR2 := kV j8 (kW TW21 (kV jm11 HR2))
 refine mZ (scaled_any _ _ n2 e _ HX0.out.z2 HR2.out (by have := HSx.out.2.2.1.2.2.1; omega) (by have := HSy.out.2.2.2; omega)) fun w9 g9a A9a k9a c9a HR9 j9c => ?_
 replace HB2 := kB HB2 j9c
 replace HB4 := kB HB4 j9c
 refine ckk hK9 (by exact ⟨kD HB2 4, kD HB2 5, kD HB4 4, kD HB4 5⟩) (h := ?_)
 clear hK9 K9
 refine sop (h := fun K9 hK9 => ?_)
 go_simp
 have jm12 := tt j7c j8c
 have jm13 := tt j8 j9c
 replace HX1 := kV jm13 (kW TW21 (kV jm12 HX1))
 replace HR1 := kV jm13 (kW TW21 (kV jm12 HR1))
 refine mZ (scaled_any _ _ m2 d _ HX1.out.z2 HR1.out (by have := HSy.out.2.2.1.2.2.1; omega) (by have := HSx.out.2.2.2; omega)) fun w10 g10a A10a k10a c10a HR10 j10c => ?_
 replace HB2 := kB HB2 j10c
 replace HB4 := kB HB4 j10c
 refine ckk hK9 (by exact ⟨kD HB2 4, kD HB2 5, kD HB4 4, kD HB4 5⟩) (h := ?_)
 clear hK9 K9
 refine sop (h := fun K9 hK9 => ?_)
 go_simp
 replace HR9 := kV j10c HR9
 refine mZ (iplus_any _ _ (n2 * e) (m2 * d) _ HR9.out HR10.out (by have := dl_muln HSx.out.2.2.1.2.2.1 HSy.out.2.2.2; omega) (by have := dl_muln HSy.out.2.2.1.2.2.1 HSx.out.2.2.2; omega)) fun w11 g11a A11a k11a c11a HR11 j11c => ?_
 replace HB2 := kB HB2 j11c
 replace HB4 := kB HB4 j11c
 refine ckk hK9 (by exact ⟨kD HB2 4, kD HB2 5, kD HB4 4, kD HB4 5⟩) (h := ?_)
 clear hK9 K9
 refine tk0 (h := ?_)
 refine sop (h := fun K9 hK9 => ?_)
 have jm14 := tt (tt jm13 j10c) j11c
 replace HB9 := kB HB9 jm14
 have c23 := kC HB9 4 rfl
 have c24 := kF HB9 4
 have c25 := kC HB9 5 rfl
 have c26 := kF HB9 5
 go_simp
 obtain ⟨W27, HW27⟩ : ∃ W, Hid (W = ((w11.setCell ⟨w2.heap.size, 4, none⟩ (.bool g11a)).setCell ⟨w2.heap.size, 5, none⟩ (.slice A11a k11a c11a))) := ⟨_, rfl⟩
 have SW27 : Hid (W27 = setsW w11 (w2.heap.size) 4 [.bool g11a, .slice A11a k11a c11a]) := HW27.out
 have TW27 := kN (SW27.out) HB9 rfl rfl
 replace HB9 := kP (ds := [.bool g5a, .slice A5a k5a c5a, .bool g8a, .slice A8a k8a c8a, .bool g11a, .slice A11a k11a c11a, .bool false, .slice none 0 0]) (SW27.out) HB9 rfl rfl
 rw [← HW27.out]
 replace HB2 := kO (SW27.out) HB2 n2b9.out
 replace HB4 := kO (SW27.out) HB4 n4b9.out
 refine ckk hK9 (by exact ⟨kD HB2 4, kD HB2 5, kD HB4 4, kD HB4 5⟩) (h := ?_)
 clear hK9 K9 c23 c24 c25 c26
 refine seq_done (by kernel_rfl) ?_
 go_wp2_with fail
 rw [rounds_succ]
 go_wp2_with fail
 obtain ⟨W28, hW28⟩ : ∃ W, W = W27.drew := ⟨_, rfl⟩
 have j9 : Below W27.heap.size W27 W28 := by rw [hW28]; exact (Below.refl _ _).drew
 replace HB2 := kB HB2 j9
 replace HB4 := kB HB4 j9
 refine seq_start (S := fun w' => w'.cell? ⟨w.heap.size, 6, none⟩ = some (.bool gp0d) ∧ w'.cell? ⟨w.heap.size, 7, none⟩ = some (.slice Ap0d kp0d cp0d) ∧ w'.cell? ⟨w.heap.size + 1, 6, none⟩ = some (.bool gp1d) ∧ w'.cell? ⟨w.heap.size + 1, 7, none⟩ = some (.slice Ap1d kp1d cp1d)) (by kernel_rfl) (by kernel_rfl) (by rw [← hW28]; exact ⟨kD HB2 6, kD HB2 7, kD HB4 6, kD HB4 7⟩) ?_
 rw [← hW28]
 clear hW28
 iterate 6 refine tk0 (h := ?_)
 iterate 5 (refine plq 1 (h := ?_); refine tk0 (h := ?_))
 refine sop (h := fun K9 hK9 => ?_)
 go_simp
 have jm15 := tt (tt j9c j10c) j11c
 replace HX0 := kV j9 (kW TW27 (kV jm15 HX0))
 replace HR2 := kV j9 (kW TW27 (kV jm15 HR2))
 refine mZ (scaled_any _ _ n3 e _ HX0.out.z3 HR2.out (by have := HSx.out.2.2.1.2.2.2; omega) (by have := HSy.out.2.2.2; omega)) fun w12 g12a A12a k12a c12a HR12 j12c => ?_
 replace HB2 := kB HB2 j12c
 replace HB4 := kB HB4 j12c
 refine ckk hK9 (by exact ⟨kD HB2 6, kD HB2 7, kD HB4 6, kD HB4 7⟩) (h := ?_)
 clear hK9 K9
 refine sop (h := fun K9 hK9 => ?_)
 go_simp
 have jm16 := tt j10c j11c
 have jm17 := tt j9 j12c
 replace HX1 := kV jm17 (kW TW27 (kV jm16 HX1))
 replace HR1 := kV jm17 (kW TW27 (kV jm16 HR1))
 refine mZ (scaled_any _ _ m3 d _ HX1.out.z3 HR1.out (by have := HSy.out.2.2.1.2.2.2; omega) (by have := HSx.out.2.2.2; omega)) fun w13 g13a A13a k13a c13a HR13 j13c => ?_
 replace HB2 := kB HB2 j13c
 replace HB4 := kB HB4 j13c
 refine ckk hK9 (by exact ⟨kD HB2 6, kD HB2 7, kD HB4 6, kD HB4 7⟩) (h := ?_)
 clear hK9 K9
 refine sop (h := fun K9 hK9 => ?_)
 go_simp
 replace HR12 := kV j13c HR12
 refine mZ (iplus_any _ _ (n3 * e) (m3 * d) _ HR12.out HR13.out (by have := dl_muln HSx.out.2.2.1.2.2.2 HSy.out.2.2.2; omega) (by have := dl_muln HSy.out.2.2.1.2.2.2 HSx.out.2.2.2; omega)) fun w14 g14a A14a k14a c14a HR14 j14c => ?_
 replace HB2 := kB HB2 j14c
 replace HB4 := kB HB4 j14c
 refine ckk hK9 (by exact ⟨kD HB2 6, kD HB2 7, kD HB4 6, kD HB4 7⟩) (h := ?_)
 clear hK9 K9
 refine tk0 (h := ?_)
 refine sop (h := fun K9 hK9 => ?_)
 have jm18 := tt (tt jm17 j13c) j14c
 replace HB9 := kB HB9 jm18
 have c29 := kC HB9 6 rfl
 have c30 := kF HB9 6
 have c31 := kC HB9 7 rfl
 have c32 := kF HB9 7
 go_simp
 obtain ⟨W33, HW33⟩ : ∃ W, Hid (W = ((w14.setCell ⟨w2.heap.size, 6, none⟩ (.bool g14a)).setCell ⟨w2.heap.size, 7, none⟩ (.slice A14a k14a c14a))) := ⟨_, rfl⟩
 have SW33 : Hid (W33 = setsW w14 (w2.heap.size) 6 [.bool g14a, .slice A14a k14a c14a]) := HW33.out
 have TW33 := kN (SW33.out) HB9 rfl rfl
 replace HB9 := kP (ds := [.bool g5a, .slice A5a k5a c5a, .bool g8a, .slice A8a k8a c8a, .bool g11a, .slice A11a k11a c11a, .bool g14a, .slice A14a k14a c14a]) (SW33.out) HB9 rfl rfl
 rw [← HW33.out]
 replace HB2 := kO (SW33.out) HB2 n2b9.out
 replace HB4 := kO (SW33.out) HB4 n4b9.out
 refine ckk hK9 (by exact ⟨kD HB2 6, kD HB2 7, kD HB4 6, kD HB4 7⟩) (h := ?_)
 clear hK9 K9 c29 c30 c31 c32
 refine seq_done (by kernel_rfl) ?_
 go_wp2_with fail
 rw [rounds_succ]
 go_wp2_with fail
 obtain ⟨W34, hW34⟩ : ∃ W, W = W33.drew := ⟨_, rfl⟩
 have j10 : Below W33.heap.size W33 W34 := by rw [hW34]; exact (Below.refl _ _).drew
 replace HB9 := kB HB9 j10
 refine seq_start (S := fun w' => w'.cell? ⟨w2.heap.size, 0, none⟩ = some (.bool g5a) ∧ w'.cell? ⟨w2.heap.size, 1, none⟩ = some (.slice A5a k5a c5a) ∧ w'.cell? ⟨w2.heap.size, 2, none⟩ = some (.bool g8a) ∧ w'.cell? ⟨w2.heap.size, 3, none⟩ = some (.slice A8a k8a c8a) ∧ w'.cell? ⟨w2.heap.size, 4, none⟩ = some (.bool g11a) ∧ w'.cell? ⟨w2.heap.size, 5, none⟩ = some (.slice A11a k11a c11a) ∧ w'.cell? ⟨w2.heap.size, 6, none⟩ = some (.bool g14a) ∧ w'.cell? ⟨w2.heap.size, 7, none⟩ = some (.slice A14a k14a c14a)) (by kernel_rfl) (by kernel_rfl) (by rw [← hW34]; exact ⟨kD HB9 0, kD HB9 1, kD HB9 2, kD HB9 3, kD HB9 4, kD HB9 5, kD HB9 6, kD HB9 7⟩) ?_
 rw [← hW34]
 clear hW34
 iterate 3 refine tk0 (h := ?_)
 refine sop (h := fun K9 hK9 => ?_)
 go_simp
 have jm19 := tt j13c j14c
 replace HR1 := kV j10 (kW TW33 (kV jm19 HR1))
 have jm20 := tt j12c jm19
 replace HR2 := kV j10 (kW TW33 (kV jm20 HR2))
 refine mN (times_any _ _ d e _ HR1.out HR2.out (by have := HSx.out.2.2.2; omega) (by have := HSy.out.2.2.2; omega)) fun w15 A15 k15 c15 HR15 j15c => ?_
 replace HB9 := kB HB9 j15c
 refine ckk hK9 (by exact ⟨kD HB9 0, kD HB9 1, kD HB9 2, kD HB9 3, kD HB9 4, kD HB9 5, kD HB9 6, kD HB9 7⟩) (h := ?_)
 clear hK9 K9
 refine sop (h := fun K9 hK9 => ?_)
 go_simp
 have jm21 := tt j10 j15c
 replace HR5 := kV jm21 (kW TW33 (kV jm18 (kW TW27 (kV jm14 (kW TW21 (kV jm10 (kW TW15 HR5)))))))
 replace HR8 := kV jm21 (kW TW33 (kV jm18 (kW TW27 (kV jm14 (kW TW21 HR8)))))
 replace HR11 := kV jm21 (kW TW33 (kV jm18 (kW TW27 HR11)))
 replace HR14 := kV jm21 (kW TW33 HR14)
 refine mS (surd_any _ _ (x.add y) _ _ _ _ _ (K + L + 1) _ (RdA.mk HR5.out HR8.out HR11.out HR14.out) HR15.out (HSx.out.add HSy.out) (by omega)) fun w16 g16a A16a k16a c16a g16b A16b k16b c16b g16c A16c k16c c16c g16d A16d k16d c16d A16e k16e c16e HR16 j16c => ?_
 replace HB9 := kB HB9 j16c
 refine ckk hK9 (by exact ⟨kD HB9 0, kD HB9 1, kD HB9 2, kD HB9 3, kD HB9 4, kD HB9 5, kD HB9 6, kD HB9 7⟩) (h := ?_)
 clear hK9 K9
 refine sop (h := fun K9 hK9 => ?_)
 have jm22 := tt (tt (tt (tt (tt (tt (tt j4 j1c) j2c) j5) j6) j3c) j4c) j5c
 have jm23 := tt jm21 j16c
 replace HB6 := kB (kO (SW33.out) (kB (kO (SW27.out) (kB (kO (SW21.out) (kB (kO (SW15.out) (kB HB6 jm22) n6b9.out) jm10) n6b9.out) jm14) n6b9.out) jm18) n6b9.out) jm23
 have c35 := kC HB6 0 rfl
 have c36 := kF HB6 0
 have c37 := kC HB6 1 rfl
 have c38 := kF HB6 1
 have c39 := kC HB6 2 rfl
 have c40 := kF HB6 2
 have c41 := kC HB6 3 rfl
 have c42 := kF HB6 3
 have c43 := kC HB6 4 rfl
 have c44 := kF HB6 4
 have c45 := kC HB6 5 rfl
 have c46 := kF HB6 5
 have c47 := kC HB6 6 rfl
 have c48 := kF HB6 6
 have c49 := kC HB6 7 rfl
 have c50 := kF HB6 7
 have c51 := kC HB6 8 rfl
 have c52 := kF HB6 8
 go_simp
 obtain ⟨W53, HW53⟩ : ∃ W, Hid (W = (((((((((w16.setCell ⟨w.heap.size + 2, 0, none⟩ (.bool g16a)).setCell ⟨w.heap.size + 2, 1, none⟩ (.slice A16a k16a c16a)).setCell ⟨w.heap.size + 2, 2, none⟩ (.bool g16b)).setCell ⟨w.heap.size + 2, 3, none⟩ (.slice A16b k16b c16b)).setCell ⟨w.heap.size + 2, 4, none⟩ (.bool g16c)).setCell ⟨w.heap.size + 2, 5, none⟩ (.slice A16c k16c c16c)).setCell ⟨w.heap.size + 2, 6, none⟩ (.bool g16d)).setCell ⟨w.heap.size + 2, 7, none⟩ (.slice A16d k16d c16d)).setCell ⟨w.heap.size + 2, 8, none⟩ (.slice A16e k16e c16e))) := ⟨_, rfl⟩
 have SW53 : Hid (W53 = setsW w16 (w.heap.size + 2) 0 [.bool g16a, .slice A16a k16a c16a, .bool g16b, .slice A16b k16b c16b, .bool g16c, .slice A16c k16c c16c, .bool g16d, .slice A16d k16d c16d, .slice A16e k16e c16e]) := HW53.out
 have TW53 := kN (SW53.out) HB6 rfl rfl
 replace HB6 := kP (ds := [.bool g16a, .slice A16a k16a c16a, .bool g16b, .slice A16b k16b c16b, .bool g16c, .slice A16c k16c c16c, .bool g16d, .slice A16d k16d c16d, .slice A16e k16e c16e]) (SW53.out) HB6 rfl rfl
 rw [← HW53.out]
 replace HB9 := kO (SW53.out) HB9 n6b9.out.symm
 refine ckk hK9 (by exact ⟨kD HB9 0, kD HB9 1, kD HB9 2, kD HB9 3, kD HB9 4, kD HB9 5, kD HB9 6, kD HB9 7⟩) (h := ?_)
 clear hK9 K9 c35 c36 c37 c38 c39 c40 c41 c42 c43 c44 c45 c46 c47 c48 c49 c50 c51 c52
 refine seq_done (by kernel_rfl) ?_
 go_wp2_with fail
 have c54 := kC HB6 0 rfl
 have c55 := kC HB6 1 rfl
 have c56 := kC HB6 2 rfl
 have c57 := kC HB6 3 rfl
 have c58 := kC HB6 4 rfl
 have c59 := kC HB6 5 rfl
 have c60 := kC HB6 6 rfl
 have c61 := kC HB6 7 rfl
 have c62 := kC HB6 8 rfl
 replace HR16 := kW TW53 HR16
 have jm24 := tt (tt jm5 j4c) j5c
 replace HBw := kS (SW53.out) l6b (kU (kS (SW33.out) l9b (kU (kS (SW27.out) l9b (kU (kS (SW21.out) l9b (kU (kS (SW15.out) l9b (kU HBw jm24)) jm10)) jm14)) jm18)) jm23)
 exact bodyPost_ret (v := .agg #[.bool g16a, .slice A16a k16a c16a, .bool g16b, .slice A16b k16b c16b, .bool g16c, .slice A16c k16c c16c, .bool g16d, .slice A16d k16d c16d, .slice A16e k16e c16e]) (by simp [results, Tryz.results133, go_sem, c54, c55, c56, c57, c58, c59, c60, c61, c62]) rfl ⟨⟨_, rfl, HR16.out⟩, HBw.out⟩
theorem ssubS_any (v u : Value) (x y : S4) (K L : Nat) (w : World) (hv : RdS w v x K) (hu : RdS w u y L) (hK : K ≤ 100000) (hL : L ≤ 100000) :
  Calls Tryz.prog 132 #[v, u] w fun e w' => (∃ v', e = .returned v' ∧ RdS w' v' (x.sub y) (K + L + 1)) ∧ Below w.heap.size w w' := by
 obtain ⟨gp0a, Ap0a, kp0a, cp0a, gp0b, Ap0b, kp0b, cp0b, gp0c, Ap0c, kp0c, cp0c, gp0d, Ap0d, kp0d, cp0d, Ap0e, kp0e, cp0e, rfl, hv⟩ := hv.open
 have HX0 := h0d hv
 clear hv
 obtain ⟨gp1a, Ap1a, kp1a, cp1a, gp1b, Ap1b, kp1b, cp1b, gp1c, Ap1c, kp1c, cp1c, gp1d, Ap1d, kp1d, cp1d, Ap1e, kp1e, cp1e, rfl, hu⟩ := hu.open
 have HX1 := h0d hu
 clear hu
 go_enter Tryz.func132, Tryz.ntmps132
 obtain ⟨W1, HW1, HB2, s1w, j1⟩ := st_al0 w #[.bool gp0a, .slice Ap0a kp0a cp0a, .bool gp0b, .slice Ap0b kp0b cp0b, .bool gp0c, .slice Ap0c kp0c cp0c, .bool gp0d, .slice Ap0d kp0d cp0d, .slice Ap0e kp0e cp0e] 30
 have HBw := h0d j1
 obtain ⟨W3, HW3, HB4, s3w, j2⟩ := st_alk 1 2 #[.bool gp1a, .slice Ap1a kp1a cp1a, .bool gp1b, .slice Ap1b kp1b cp1b, .bool gp1c, .slice Ap1c kp1c cp1c, .bool gp1d, .slice Ap1d kp1d cp1d, .slice Ap1e kp1e cp1e] 30 s1w rfl
 obtain ⟨W5, HW5, HB6, s5w, j3⟩ := st_alk 2 3 #[.bool false, .slice none 0 0, .bool false, .slice none 0 0, .bool false, .slice none 0 0, .bool false, .slice none 0 0, .slice none 0 0] 30 s3w rfl
 have n2b6 : Hid (w.heap.size ≠ w.heap.size + 2) := by show _ ≠ _; omega
 have n4b6 : Hid (w.heap.size + 1 ≠ w.heap.size + 2) := by show _ ≠ _; omega
 have l6b : Hid (w.heap.size ≤ w.heap.size + 2) := by show _ ≤ _; omega
 go_wp2_with fail
 rw [← HW1.out, ← HW3.out, ← HW5.out]
 obtain ⟨W7, hW7⟩ : ∃ W, W = W5.drew := ⟨_, rfl⟩
 have j4 : Below W5.heap.size W5 W7 := by rw [hW7]; exact (Below.refl _ _).drew
 have jm1 := tt (tt j2 j3) j4
 replace HB2 := kB HB2 jm1
 have jm2 := tt j3 j4
 replace HB4 := kB HB4 jm2
 refine seq_start (S := fun w' => w'.cell? ⟨w.heap.size, 0, none⟩ = some (.bool gp0a) ∧ w'.cell? ⟨w.heap.size, 1, none⟩ = some (.slice Ap0a kp0a cp0a) ∧ w'.cell? ⟨w.heap.size, 2, none⟩ = some (.bool gp0b) ∧ w'.cell? ⟨w.heap.size, 3, none⟩ = some (.slice Ap0b kp0b cp0b) ∧ w'.cell? ⟨w.heap.size, 4, none⟩ = some (.bool gp0c) ∧ w'.cell? ⟨w.heap.size, 5, none⟩ = some (.slice Ap0c kp0c cp0c) ∧ w'.cell? ⟨w.heap.size, 6, none⟩ = some (.bool gp0d) ∧ w'.cell? ⟨w.heap.size, 7, none⟩ = some (.slice Ap0d kp0d cp0d) ∧ w'.cell? ⟨w.heap.size, 8, none⟩ = some (.slice Ap0e kp0e cp0e) ∧ w'.cell? ⟨w.heap.size + 1, 0, none⟩ = some (.bool gp1a) ∧ w'.cell? ⟨w.heap.size + 1, 1, none⟩ = some (.slice Ap1a kp1a cp1a) ∧ w'.cell? ⟨w.heap.size + 1, 2, none⟩ = some (.bool gp1b) ∧ w'.cell? ⟨w.heap.size + 1, 3, none⟩ = some (.slice Ap1b kp1b cp1b) ∧ w'.cell? ⟨w.heap.size + 1, 4, none⟩ = some (.bool gp1c) ∧ w'.cell? ⟨w.heap.size + 1, 5, none⟩ = some (.slice Ap1c kp1c cp1c) ∧ w'.cell? ⟨w.heap.size + 1, 6, none⟩ = some (.bool gp1d) ∧ w'.cell? ⟨w.heap.size + 1, 7, none⟩ = some (.slice Ap1d kp1d cp1d) ∧ w'.cell? ⟨w.heap.size + 1, 8, none⟩ = some (.slice Ap1e kp1e cp1e)) (by kernel_rfl) (by kernel_rfl) (by rw [← hW7]; exact ⟨kD HB2 0, kD HB2 1, kD HB2 2, kD HB2 3, kD HB2 4, kD HB2 5, kD HB2 6, kD HB2 7, kD HB2 8, kD HB4 0, kD HB4 1, kD HB4 2, kD HB4 3, kD HB4 4, kD HB4 5, kD HB4 6, kD HB4 7, kD HB4 8⟩) ?_
 rw [← hW7]
 clear hW7
 iterate 2 refine tk0 (h := ?_)
 refine sop (h := fun K9 hK9 => ?_)
 go_simp
 replace HBw := kU HBw jm1
 replace HX1 := kV HBw.out HX1
 refine mS (snegS_any _ y L _ HX1.out) fun w1 g1a A1a k1a c1a g1b A1b k1b c1b g1c A1c k1c c1c g1d A1d k1d c1d A1e k1e c1e HR1 j1c => ?_
 replace HB2 := kB HB2 j1c
 replace HB4 := kB HB4 j1c
 refine ckk hK9 (by exact ⟨kD HB2 0, kD HB2 1, kD HB2 2, kD HB2 3, kD HB2 4, kD HB2 5, kD HB2 6, kD HB2 7, kD HB2 8, kD HB4 0, kD HB4 1, kD HB4 2, kD HB4 3, kD HB4 4, kD HB4 5, kD HB4 6, kD HB4 7, kD HB4 8⟩) (h := ?_)
 clear hK9 K9
 refine sop (h := fun K9 hK9 => ?_)
 go_simp
 replace HBw := kU HBw j1c
 replace HX0 := kV HBw.out HX0
 refine mS (saddS_any _ _ x y.neg K L _ HX0.out HR1.out hK hL) fun w2 g2a A2a k2a c2a g2b A2b k2b c2b g2c A2c k2c c2c g2d A2d k2d c2d A2e k2e c2e HR2 j2c => ?_
 replace HB2 := kB HB2 j2c
 replace HB4 := kB HB4 j2c
 refine ckk hK9 (by exact ⟨kD HB2 0, kD HB2 1, kD HB2 2, kD HB2 3, kD HB2 4, kD HB2 5, kD HB2 6, kD HB2 7, kD HB2 8, kD HB4 0, kD HB4 1, kD HB4 2, kD HB4 3, kD HB4 4, kD HB4 5, kD HB4 6, kD HB4 7, kD HB4 8⟩) (h := ?_)
 clear hK9 K9
 refine sop (h := fun K9 hK9 => ?_)
 have jm3 := tt (tt j4 j1c) j2c
 replace HB6 := kB HB6 jm3
 have c8 := kC HB6 0 rfl
 have c9 := kF HB6 0
 have c10 := kC HB6 1 rfl
 have c11 := kF HB6 1
 have c12 := kC HB6 2 rfl
 have c13 := kF HB6 2
 have c14 := kC HB6 3 rfl
 have c15 := kF HB6 3
 have c16 := kC HB6 4 rfl
 have c17 := kF HB6 4
 have c18 := kC HB6 5 rfl
 have c19 := kF HB6 5
 have c20 := kC HB6 6 rfl
 have c21 := kF HB6 6
 have c22 := kC HB6 7 rfl
 have c23 := kF HB6 7
 have c24 := kC HB6 8 rfl
 have c25 := kF HB6 8
 go_simp
 obtain ⟨W26, HW26⟩ : ∃ W, Hid (W = (((((((((w2.setCell ⟨w.heap.size + 2, 0, none⟩ (.bool g2a)).setCell ⟨w.heap.size + 2, 1, none⟩ (.slice A2a k2a c2a)).setCell ⟨w.heap.size + 2, 2, none⟩ (.bool g2b)).setCell ⟨w.heap.size + 2, 3, none⟩ (.slice A2b k2b c2b)).setCell ⟨w.heap.size + 2, 4, none⟩ (.bool g2c)).setCell ⟨w.heap.size + 2, 5, none⟩ (.slice A2c k2c c2c)).setCell ⟨w.heap.size + 2, 6, none⟩ (.bool g2d)).setCell ⟨w.heap.size + 2, 7, none⟩ (.slice A2d k2d c2d)).setCell ⟨w.heap.size + 2, 8, none⟩ (.slice A2e k2e c2e))) := ⟨_, rfl⟩
 have SW26 : Hid (W26 = setsW w2 (w.heap.size + 2) 0 [.bool g2a, .slice A2a k2a c2a, .bool g2b, .slice A2b k2b c2b, .bool g2c, .slice A2c k2c c2c, .bool g2d, .slice A2d k2d c2d, .slice A2e k2e c2e]) := HW26.out
 have TW26 := kN (SW26.out) HB6 rfl rfl
 replace HB6 := kP (ds := [.bool g2a, .slice A2a k2a c2a, .bool g2b, .slice A2b k2b c2b, .bool g2c, .slice A2c k2c c2c, .bool g2d, .slice A2d k2d c2d, .slice A2e k2e c2e]) (SW26.out) HB6 rfl rfl
 rw [← HW26.out]
 replace HB2 := kO (SW26.out) HB2 n2b6.out
 replace HB4 := kO (SW26.out) HB4 n4b6.out
 refine ckk hK9 (by exact ⟨kD HB2 0, kD HB2 1, kD HB2 2, kD HB2 3, kD HB2 4, kD HB2 5, kD HB2 6, kD HB2 7, kD HB2 8, kD HB4 0, kD HB4 1, kD HB4 2, kD HB4 3, kD HB4 4, kD HB4 5, kD HB4 6, kD HB4 7, kD HB4 8⟩) (h := ?_)
 clear hK9 K9 c8 c9 c10 c11 c12 c13 c14 c15 c16 c17 c18 c19 c20 c21 c22 c23 c24 c25
 refine seq_done (by kernel_rfl) ?_
 go_wp2_with fail
 have c27 := kC HB6 0 rfl
 have c28 := kC HB6 1 rfl
 have c29 := kC HB6 2 rfl
 have c30 := kC HB6 3 rfl
 have c31 := kC HB6 4 rfl
 have c32 := kC HB6 5 rfl
 have c33 := kC HB6 6 rfl
 have c34 := kC HB6 7 rfl
 have c35 := kC HB6 8 rfl
 replace HR2 := kW TW26 HR2
 replace HBw := kS (SW26.out) l6b (kU HBw j2c)
 exact bodyPost_ret (v := .agg #[.bool g2a, .slice A2a k2a c2a, .bool g2b, .slice A2b k2b c2b, .bool g2c, .slice A2c k2c c2c, .bool g2d, .slice A2d k2d c2d, .slice A2e k2e c2e]) (by simp [results, Tryz.results132, go_sem, c27, c28, c29, c30, c31, c32, c33, c34, c35]) rfl ⟨⟨_, rfl, HR2.out⟩, HBw.out⟩
theorem zlen {w : World} {g : Bool} {A : Option Addr} {k c : Nat} {z : Int} (h : RdZ w (.agg #[.bool g, .slice A k c]) z) : (k = 0 ↔ z = 0) ∧ k = dl z.natAbs := by
 obtain ⟨A', n', c', e, e1, _⟩ := RdW.open_ h.abs
 simp only [Value.slice.injEq] at e
 obtain ⟨rfl, rfl, rfl⟩ := e
 have e2 : dl z.natAbs = k := e1
 refine ⟨⟨fun hk => ?_, fun hx => ?_⟩, e2.symm⟩
 ·rcases Nat.eq_zero_or_pos z.natAbs with h0 | h0
  ·omega
  ·have := dl_pos (show z.natAbs ≠ 0 by omega); omega
 ·rw [← e2, hx]; exact dl_zero
theorem Sx.zero {x : S4} {n0 n1 n2 n3 : Int} {d K : Nat} (h : Sx x n0 n1 n2 n3 d K) : (n0 = 0 ∧ n1 = 0 ∧ n2 = 0 ∧ n3 = 0) ↔ x = .zero := by
 obtain ⟨k0, ⟨a, b, c, e⟩, _⟩ := h
 have hd : (d : Rat) ≠ 0 := fun h => k0 (by exact_mod_cast h)
 have key : ∀ (q : Rat) (n : Int), q * d = n → (n = 0 ↔ q = 0) := fun q n h => by
  constructor
  ·intro h0; rw [h0] at h; have h2 : q * d = 0 := h; rcases Rat.mul_eq_zero.1 h2 with h | h; exact h; exact absurd h hd
  ·intro h0; rw [h0, Rat.zero_mul] at h; exact_mod_cast h.symm
 rw [key _ _ a, key _ _ b, key _ _ c, key _ _ e]
 constructor
 ·rintro ⟨h1, h2, h3, h4⟩; exact S4.ext h1 h2 h3 h4
 ·rintro rfl; exact ⟨rfl, rfl, rfl, rfl⟩
theorem szero_yes (v : Value) (x : S4) (K : Nat) (w : World) (hv : RdS w v x K) (hK : K ≤ 900000) (h0 : x = .zero) :
  Calls Tryz.prog 68 #[v] w fun e w' => e = .returned (.bool true) ∧ Below w.heap.size w w' := by
 obtain ⟨n0, n1, n2, n3, d, hv, hxx⟩ := hv
 have HSx := h0d hxx
 clear hxx
 obtain ⟨gp0a, Ap0a, kp0a, cp0a, gp0b, Ap0b, kp0b, cp0b, gp0c, Ap0c, kp0c, cp0c, gp0d, Ap0d, kp0d, cp0d, Ap0e, kp0e, cp0e, rfl, hv⟩ := hv.open
 have HX0 := h0d hv
 clear hv
 obtain ⟨⟨e0, l0⟩, ⟨e1, l1⟩, ⟨e2, l2⟩, ⟨e3, l3⟩⟩ : _ ∧ _ ∧ _ ∧ _ := ⟨zlen HX0.out.z0, zlen HX0.out.z1, zlen HX0.out.z2, zlen HX0.out.z3⟩
 have hz := HSx.out.zero
 obtain ⟨h1, h2, h3, h4⟩ := hz.2 h0
 obtain rfl := e0.2 h1
 obtain rfl := e1.2 h2
 obtain rfl := e2.2 h3
 obtain rfl := e3.2 h4
 clear e0 e1 e2 e3 l0 l1 l2 l3 hz h0 h1 h2 h3 h4
 go_enter Tryz.func68, Tryz.ntmps68
 obtain ⟨W1, HW1, HB2, s1w, j1⟩ := st_al0 w #[.bool gp0a, .slice Ap0a 0 cp0a, .bool gp0b, .slice Ap0b 0 cp0b, .bool gp0c, .slice Ap0c 0 cp0c, .bool gp0d, .slice Ap0d 0 cp0d, .slice Ap0e kp0e cp0e] 30
 have HBw := h0d j1
 go_wp2_with fail
 rw [← HW1.out]
 go_ret
 exact ⟨rfl, HBw.out⟩
theorem q_den (q : Rat) : q * (q.den : Rat) = (q.num : Rat) := by
 have h := num_div q
 rw [Rat.intCast_natCast] at h
 have h0 : (q.den : Rat) ≠ 0 := fun e => q.den_nz (by exact_mod_cast e)
 generalize (q.num : Rat) = a at h ⊢
 generalize (q.den : Rat) = b at h h0 ⊢
 rw [h]; grind
end Go.Proofs.YtodckaioeomccaaGreat
namespace Go.Proofs.YtodckaioeomccaaGreat
open Go.RowKit
set_option linter.unusedVariables false
theorem blk_there {w : World} {b t off n : Nat} {cs : Array Value} (h : w.heap[b]? = some (.cells cs t (0, 0))) (hn : off + n ≤ cs.size) : w.there b off n := fun j hj =>
 ⟨by rw [blk_cell h, Array.getElem?_eq_getElem (by omega)]; rfl, blk_free h _⟩
theorem blk_range {w : World} {b t : Nat} {p q r : List Value} (h : w.heap[b]? = some (.cells (p ++ q ++ r).toArray t (0, 0))) : w.rangeAt b p.length q := fun j v hj => by
 have hl := (List.getElem?_eq_some_iff.1 hj).1
 rw [blk_cell h]
 simp only [List.getElem?_toArray]
 rw [List.append_assoc, List.getElem?_append_right (by omega), Nat.add_sub_cancel_left, List.getElem?_append_left hl]
 exact hj
theorem setCells_sets (b : Nat) : ∀ (vs : List Value) (o : Nat) (w : World), w.setCells b o vs = setsW w b o vs
 | [], _, _ => rfl
 | v :: vs, o, w => setCells_sets b vs (o + 1) _
theorem results_cell {P : Program} {fn : Func} {t b : Nat} {ty : TypeId} {tmps : Array Value} {w : World} {d : TypeDesc} {cs : List Value} (h : fn.results = #[.cell t ty]) (hp : tmps.getD t undef = .pointer (some ⟨b, 0, none⟩)) (hc : w.rangeAt b 0 cs)
  (hu : P.underlying ty = some d) (hd : d.isRow = true) (hi : (P.info? ty).map (·.size) = some cs.length) : (results fn tmps).run P w = .ok (.agg cs.toArray) w := by
 have hl := run_loadVar_mid w b 0 ty cs d hc hu hd hi
 rw [Array.getD_eq_getD_getElem?] at hp
 simp [results, h, hp, asAddr, hl]
theorem results_cell_tmp {P : Program} {fn : Func} {t u b : Nat} {ty : TypeId} {tmps : Array Value} {w : World} {d : TypeDesc} {cs : List Value} (h : fn.results = #[.cell t ty, .tmp u]) (hp : tmps.getD t undef = .pointer (some ⟨b, 0, none⟩)) (hc : w.rangeAt b 0 cs)
  (hu : P.underlying ty = some d) (hd : d.isRow = true) (hi : (P.info? ty).map (·.size) = some cs.length) : (results fn tmps).run P w = .ok (.tuple #[.agg cs.toArray, tmps.getD u undef]) w := by
 have hl := run_loadVar_mid w b 0 ty cs d hc hu hd hi
 rw [Array.getD_eq_getD_getElem?] at hp
 simp [results, h, hp, asAddr, hl]
theorem blk_all {w : World} {b t : Nat} {cs : List Value} (h : w.heap[b]? = some (.cells cs.toArray t (0, 0))) : w.rangeAt b 0 cs := blk_range (p := []) (q := cs) (r := []) (by simpa using h)
theorem smd {P : Program} {ops : Array Oper} {rest : List Oper} {op : Oper} {a : Act} {w : World} {Q : Exit → Act → World → Prop} {x y : Operand} {cells : Array Value} {n : Nat} (ty : TypeId) (b o : Nat) (hgd : op.guard = none := by rfl) (ho : op.op = .store ty x y := by rfl)
  (hx : a.eval x = .pointer (some ⟨b, o, none⟩) := by rfl) (hy : a.eval y = .agg cells := by rfl) (ht : Hid (w.there b o n)) (hn : cells.size = n := by rfl) (hi : (P.info? ty).map (·.size) = some n := by kernel_rfl) (h1 : cells.all (·.oneCell') = true := by kernel_rfl)
  (h : wpList P ops Q rest (a.put op.dst undef) (w.setCells b o cells.toList)) : wpList P ops Q (op :: rest) a w := by
 subst hn
 exact wpList_store_mid hgd ty x y ho b o cells hx hy ht.out hi h1 h
theorem smw {P : Program} {op : Oper} {a : Act} {w : World} {K : Act → World → Prop} {Q : Exit → Act → World → Prop} {x y : Operand} {cells : Array Value} {n : Nat} (ty : TypeId) (b o : Nat) (ho : op.op = .store ty x y := by rfl)
  (hx : a.eval x = .pointer (some ⟨b, o, none⟩) := by rfl) (hy : a.eval y = .agg cells := by rfl) (ht : Hid (w.there b o n)) (hn : cells.size = n := by rfl) (hi : (P.info? ty).map (·.size) = some n := by kernel_rfl) (h1 : cells.all (·.oneCell') = true := by kernel_rfl)
  (h : K (a.put op.dst undef) (w.setCells b o cells.toList)) : op.wp P a w K Q := by
 subst hn
 exact wp_store_mid ty x y ho b o cells hx hy ht.out hi h1 h
theorem kth {w : World} {b t : Nat} {cs : Array Value} (o n : Nat) (h : Hid (w.heap[b]? = some (.cells cs t (0, 0)))) (hn : Nat.ble (o + n) cs.size = true := by rfl) : Hid (w.there b o n) := blk_there h.out (Nat.le_of_ble_eq_true hn)
theorem kM {w W : World} {b o : Nat} {vs : List Value} (h : Hid (W = w.setCells b o vs)) : W = setsW w b o vs := h.out.trans (setCells_sets _ _ _ _)
end Go.Proofs.YtodckaioeomccaaGreat
namespace Go.Proofs.YtodckaioeomccaaGreat
open Go.RowKit Go.Proofs.S4P
set_option linter.unusedVariables false
set_option linter.unusedSimpArgs false
set_option maxRecDepth 100000
set_option maxHeartbeats 4000000
theorem sx_14 : Sx ⟨0, 1/4, 0, 0⟩ 0 1 0 0 4 1 := ⟨by decide, ⟨by decide +kernel, by decide +kernel, by decide +kernel, by decide +kernel⟩, ⟨dl_small (by decide), dl_small (by decide), dl_small (by decide), dl_small (by decide)⟩, dl_small (by decide)⟩
theorem part_14 (w : World) :
  Calls Tryz.prog 208 #[.int .i64 1, .int .u64 4] w fun e w' => (∃ v', e = .returned v' ∧ RdS w' v' (⟨0, 1/4, 0, 0⟩) (1)) ∧ Below w.heap.size w w' := by
 go_enter Tryz.func208, Tryz.ntmps208
 obtain ⟨W1, HW1, HB2, s1w, j1⟩ := st_al0 w #[.bool false, .slice none 0 0, .bool false, .slice none 0 0, .bool false, .slice none 0 0, .bool false, .slice none 0 0, .slice none 0 0] 30
 have l2b : Hid (w.heap.size ≤ w.heap.size) := by show _ ≤ _; omega
 have HBw := h0d j1
 obtain ⟨W3, HW3, HB4, s3w, j2⟩ := st_alk 1 2 #[.bool false, .slice none 0 0, .bool false, .slice none 0 0, .bool false, .slice none 0 0, .bool false, .slice none 0 0] 28 s1w rfl
 have n2b4 : Hid (w.heap.size ≠ w.heap.size + 1) := by show _ ≠ _; omega
 have l4b : Hid (w.heap.size ≤ w.heap.size + 1) := by show _ ≤ _; omega
 go_wp2_with fail
 rw [← HW1.out, ← HW3.out]
 refine mZ (of_any 1 _ (by omega) (by omega)) fun w1 g1a A1a k1a c1a HR1 j1c => ?_
 replace HB4 := kB HB4 j1c
 have t5h := kth 2 2 HB4
 obtain ⟨W6, HW6⟩ : ∃ W, Hid (W = w1.setCells (w.heap.size + 1) 2 [.bool g1a, .slice A1a k1a c1a]) := ⟨_, rfl⟩
 have TW6 := kN (kM HW6) HB4 rfl rfl
 replace HB4 := kP (ds := [.bool false, .slice none 0 0, .bool g1a, .slice A1a k1a c1a, .bool false, .slice none 0 0, .bool false, .slice none 0 0]) (kM HW6) HB4 rfl rfl
 go_wp2_with (refine smd 27 (w.heap.size + 1) 2 (ht := by exact t5h) (h := ?_))
 rw [← HW6.out]
 clear t5h
 obtain ⟨W7, hW7⟩ : ∃ W, W = W6.drew := ⟨_, rfl⟩
 have j3 : Below W6.heap.size W6 W7 := by rw [hW7]; exact (Below.refl _ _).drew
 replace HB4 := kB HB4 j3
 refine seq_start (S := fun w' => w'.cell? ⟨w.heap.size + 1, 0, none⟩ = some (.bool false) ∧ w'.cell? ⟨w.heap.size + 1, 1, none⟩ = some (.slice none 0 0) ∧ w'.cell? ⟨w.heap.size + 1, 2, none⟩ = some (.bool g1a) ∧ w'.cell? ⟨w.heap.size + 1, 3, none⟩ = some (.slice A1a k1a c1a) ∧ w'.cell? ⟨w.heap.size + 1, 4, none⟩ = some (.bool false) ∧ w'.cell? ⟨w.heap.size + 1, 5, none⟩ = some (.slice none 0 0) ∧ w'.cell? ⟨w.heap.size + 1, 6, none⟩ = some (.bool false) ∧ w'.cell? ⟨w.heap.size + 1, 7, none⟩ = some (.slice none 0 0)) (by kernel_rfl) (by kernel_rfl) (by rw [← hW7]; exact ⟨kD HB4 0, kD HB4 1, kD HB4 2, kD HB4 3, kD HB4 4, kD HB4 5, kD HB4 6, kD HB4 7⟩) ?_
 rw [← hW7]
 clear hW7
 iterate 2 refine tk0 (h := ?_)
 refine sop (h := fun K9 hK9 => ?_)
 go_simp
 refine mN (word_any 4 _ (by unfold B64; omega)) fun w2 A2 k2 c2 HR2 j2c => ?_
 replace HB4 := kB HB4 j2c
 refine ckk hK9 (by exact ⟨kD HB4 0, kD HB4 1, kD HB4 2, kD HB4 3, kD HB4 4, kD HB4 5, kD HB4 6, kD HB4 7⟩) (h := ?_)
 clear hK9 K9
 refine tk0 (h := ?_)
 refine sop (h := fun K9 hK9 => ?_)
 have jm1 := tt j2 j1c
 have jm2 := tt j3 j2c
 replace HB2 := kB (kO (kM HW6) (kB HB2 jm1) n2b4.out) jm2
 have t8h := kth 0 9 HB2
 refine smw 30 (w.heap.size) 0 (ht := by exact t8h) (h := ?_)
 obtain ⟨W9, HW9⟩ : ∃ W, Hid (W = w2.setCells (w.heap.size) 0 [.bool false, .slice none 0 0, .bool g1a, .slice A1a k1a c1a, .bool false, .slice none 0 0, .bool false, .slice none 0 0, .slice A2 k2 c2]) := ⟨_, rfl⟩
 have TW9 := kN (kM HW9) HB2 rfl rfl
 replace HB2 := kP (ds := [.bool false, .slice none 0 0, .bool g1a, .slice A1a k1a c1a, .bool false, .slice none 0 0, .bool false, .slice none 0 0, .slice A2 k2 c2]) (kM HW9) HB2 rfl rfl
 rw [← HW9.out]
 replace HB4 := kO (kM HW9) HB4 n2b4.out.symm
 refine ckk hK9 (by exact ⟨kD HB4 0, kD HB4 1, kD HB4 2, kD HB4 3, kD HB4 4, kD HB4 5, kD HB4 6, kD HB4 7⟩) (h := ?_)
 clear hK9 K9 t8h
 refine seq_done (by kernel_rfl) ?_
 go_wp2_with fail
 replace HR1 := kW TW9 (kV jm2 (kW TW6 HR1))
 replace HR2 := kW TW9 HR2
 replace HBw := kS (kM HW9) l2b (kU (kS (kM HW6) l4b (kU HBw jm1)) jm2)
 exact bodyPost_ret (results_cell rfl (by rfl) (blk_all HB2.out) Tryz.underlying30 rfl (by kernel_rfl)) rfl ⟨⟨_, rfl, (show RdS _ _ ⟨0, 1/4, 0, 0⟩ 1 from ⟨_, _, _, _, _, RdSn.mk (RdZ.nil0 _) HR1.out (RdZ.nil0 _) (RdZ.nil0 _) (show RdN _ _ (den1 4) from HR2.out), sx_14⟩)⟩, HBw.out⟩
theorem sx_34 : Sx ⟨0, 0, 0, 1/4⟩ 0 0 0 1 4 1 := ⟨by decide, ⟨by decide +kernel, by decide +kernel, by decide +kernel, by decide +kernel⟩, ⟨dl_small (by decide), dl_small (by decide), dl_small (by decide), dl_small (by decide)⟩, dl_small (by decide)⟩
theorem part_34 (w : World) :
  Calls Tryz.prog 208 #[.int .i64 3, .int .u64 4] w fun e w' => (∃ v', e = .returned v' ∧ RdS w' v' (⟨0, 0, 0, 1/4⟩) (1)) ∧ Below w.heap.size w w' := by
 go_enter Tryz.func208, Tryz.ntmps208
 obtain ⟨W1, HW1, HB2, s1w, j1⟩ := st_al0 w #[.bool false, .slice none 0 0, .bool false, .slice none 0 0, .bool false, .slice none 0 0, .bool false, .slice none 0 0, .slice none 0 0] 30
 have l2b : Hid (w.heap.size ≤ w.heap.size) := by show _ ≤ _; omega
 have HBw := h0d j1
 obtain ⟨W3, HW3, HB4, s3w, j2⟩ := st_alk 1 2 #[.bool false, .slice none 0 0, .bool false, .slice none 0 0, .bool false, .slice none 0 0, .bool false, .slice none 0 0] 28 s1w rfl
 have n2b4 : Hid (w.heap.size ≠ w.heap.size + 1) := by show _ ≠ _; omega
 have l4b : Hid (w.heap.size ≤ w.heap.size + 1) := by show _ ≤ _; omega
 go_wp2_with fail
 rw [← HW1.out, ← HW3.out]
 refine mZ (of_any 1 _ (by omega) (by omega)) fun w1 g1a A1a k1a c1a HR1 j1c => ?_
 replace HB4 := kB HB4 j1c
 have t5h := kth 6 2 HB4
 obtain ⟨W6, HW6⟩ : ∃ W, Hid (W = w1.setCells (w.heap.size + 1) 6 [.bool g1a, .slice A1a k1a c1a]) := ⟨_, rfl⟩
 have TW6 := kN (kM HW6) HB4 rfl rfl
 replace HB4 := kP (ds := [.bool false, .slice none 0 0, .bool false, .slice none 0 0, .bool false, .slice none 0 0, .bool g1a, .slice A1a k1a c1a]) (kM HW6) HB4 rfl rfl
 go_wp2_with (refine smd 27 (w.heap.size + 1) 6 (ht := by exact t5h) (h := ?_))
 rw [← HW6.out]
 clear t5h
 obtain ⟨W7, hW7⟩ : ∃ W, W = W6.drew := ⟨_, rfl⟩
 have j3 : Below W6.heap.size W6 W7 := by rw [hW7]; exact (Below.refl _ _).drew
 replace HB4 := kB HB4 j3
 refine seq_start (S := fun w' => w'.cell? ⟨w.heap.size + 1, 0, none⟩ = some (.bool false) ∧ w'.cell? ⟨w.heap.size + 1, 1, none⟩ = some (.slice none 0 0) ∧ w'.cell? ⟨w.heap.size + 1, 2, none⟩ = some (.bool false) ∧ w'.cell? ⟨w.heap.size + 1, 3, none⟩ = some (.slice none 0 0) ∧ w'.cell? ⟨w.heap.size + 1, 4, none⟩ = some (.bool false) ∧ w'.cell? ⟨w.heap.size + 1, 5, none⟩ = some (.slice none 0 0) ∧ w'.cell? ⟨w.heap.size + 1, 6, none⟩ = some (.bool g1a) ∧ w'.cell? ⟨w.heap.size + 1, 7, none⟩ = some (.slice A1a k1a c1a)) (by kernel_rfl) (by kernel_rfl) (by rw [← hW7]; exact ⟨kD HB4 0, kD HB4 1, kD HB4 2, kD HB4 3, kD HB4 4, kD HB4 5, kD HB4 6, kD HB4 7⟩) ?_
 rw [← hW7]
 clear hW7
 iterate 2 refine tk0 (h := ?_)
 refine sop (h := fun K9 hK9 => ?_)
 go_simp
 refine mN (word_any 4 _ (by unfold B64; omega)) fun w2 A2 k2 c2 HR2 j2c => ?_
 replace HB4 := kB HB4 j2c
 refine ckk hK9 (by exact ⟨kD HB4 0, kD HB4 1, kD HB4 2, kD HB4 3, kD HB4 4, kD HB4 5, kD HB4 6, kD HB4 7⟩) (h := ?_)
 clear hK9 K9
 refine tk0 (h := ?_)
 refine sop (h := fun K9 hK9 => ?_)
 have jm1 := tt j2 j1c
 have jm2 := tt j3 j2c
 replace HB2 := kB (kO (kM HW6) (kB HB2 jm1) n2b4.out) jm2
 have t8h := kth 0 9 HB2
 refine smw 30 (w.heap.size) 0 (ht := by exact t8h) (h := ?_)
 obtain ⟨W9, HW9⟩ : ∃ W, Hid (W = w2.setCells (w.heap.size) 0 [.bool false, .slice none 0 0, .bool false, .slice none 0 0, .bool false, .slice none 0 0, .bool g1a, .slice A1a k1a c1a, .slice A2 k2 c2]) := ⟨_, rfl⟩
 have TW9 := kN (kM HW9) HB2 rfl rfl
 replace HB2 := kP (ds := [.bool false, .slice none 0 0, .bool false, .slice none 0 0, .bool false, .slice none 0 0, .bool g1a, .slice A1a k1a c1a, .slice A2 k2 c2]) (kM HW9) HB2 rfl rfl
 rw [← HW9.out]
 replace HB4 := kO (kM HW9) HB4 n2b4.out.symm
 refine ckk hK9 (by exact ⟨kD HB4 0, kD HB4 1, kD HB4 2, kD HB4 3, kD HB4 4, kD HB4 5, kD HB4 6, kD HB4 7⟩) (h := ?_)
 clear hK9 K9 t8h
 refine seq_done (by kernel_rfl) ?_
 go_wp2_with fail
 replace HR1 := kW TW9 (kV jm2 (kW TW6 HR1))
 replace HR2 := kW TW9 HR2
 replace HBw := kS (kM HW9) l2b (kU (kS (kM HW6) l4b (kU HBw jm1)) jm2)
 exact bodyPost_ret (results_cell rfl (by rfl) (blk_all HB2.out) Tryz.underlying30 rfl (by kernel_rfl)) rfl ⟨⟨_, rfl, (show RdS _ _ ⟨0, 0, 0, 1/4⟩ 1 from ⟨_, _, _, _, _, RdSn.mk (RdZ.nil0 _) (RdZ.nil0 _) (RdZ.nil0 _) HR1.out (show RdN _ _ (den1 4) from HR2.out), sx_34⟩)⟩, HBw.out⟩
theorem sx_22 : Sx ⟨0, 0, 1/2, 0⟩ 0 0 1 0 2 1 := ⟨by decide, ⟨by decide +kernel, by decide +kernel, by decide +kernel, by decide +kernel⟩, ⟨dl_small (by decide), dl_small (by decide), dl_small (by decide), dl_small (by decide)⟩, dl_small (by decide)⟩
theorem part_22 (w : World) :
  Calls Tryz.prog 208 #[.int .i64 2, .int .u64 2] w fun e w' => (∃ v', e = .returned v' ∧ RdS w' v' (⟨0, 0, 1/2, 0⟩) (1)) ∧ Below w.heap.size w w' := by
 go_enter Tryz.func208, Tryz.ntmps208
 obtain ⟨W1, HW1, HB2, s1w, j1⟩ := st_al0 w #[.bool false, .slice none 0 0, .bool false, .slice none 0 0, .bool false, .slice none 0 0, .bool false, .slice none 0 0, .slice none 0 0] 30
 have l2b : Hid (w.heap.size ≤ w.heap.size) := by show _ ≤ _; omega
 have HBw := h0d j1
 obtain ⟨W3, HW3, HB4, s3w, j2⟩ := st_alk 1 2 #[.bool false, .slice none 0 0, .bool false, .slice none 0 0, .bool false, .slice none 0 0, .bool false, .slice none 0 0] 28 s1w rfl
 have n2b4 : Hid (w.heap.size ≠ w.heap.size + 1) := by show _ ≠ _; omega
 have l4b : Hid (w.heap.size ≤ w.heap.size + 1) := by show _ ≤ _; omega
 go_wp2_with fail
 rw [← HW1.out, ← HW3.out]
 refine mZ (of_any 1 _ (by omega) (by omega)) fun w1 g1a A1a k1a c1a HR1 j1c => ?_
 replace HB4 := kB HB4 j1c
 have t5h := kth 4 2 HB4
 obtain ⟨W6, HW6⟩ : ∃ W, Hid (W = w1.setCells (w.heap.size + 1) 4 [.bool g1a, .slice A1a k1a c1a]) := ⟨_, rfl⟩
 have TW6 := kN (kM HW6) HB4 rfl rfl
 replace HB4 := kP (ds := [.bool false, .slice none 0 0, .bool false, .slice none 0 0, .bool g1a, .slice A1a k1a c1a, .bool false, .slice none 0 0]) (kM HW6) HB4 rfl rfl
 go_wp2_with (refine smd 27 (w.heap.size + 1) 4 (ht := by exact t5h) (h := ?_))
 rw [← HW6.out]
 clear t5h
 obtain ⟨W7, hW7⟩ : ∃ W, W = W6.drew := ⟨_, rfl⟩
 have j3 : Below W6.heap.size W6 W7 := by rw [hW7]; exact (Below.refl _ _).drew
 replace HB4 := kB HB4 j3
 refine seq_start (S := fun w' => w'.cell? ⟨w.heap.size + 1, 0, none⟩ = some (.bool false) ∧ w'.cell? ⟨w.heap.size + 1, 1, none⟩ = some (.slice none 0 0) ∧ w'.cell? ⟨w.heap.size + 1, 2, none⟩ = some (.bool false) ∧ w'.cell? ⟨w.heap.size + 1, 3, none⟩ = some (.slice none 0 0) ∧ w'.cell? ⟨w.heap.size + 1, 4, none⟩ = some (.bool g1a) ∧ w'.cell? ⟨w.heap.size + 1, 5, none⟩ = some (.slice A1a k1a c1a) ∧ w'.cell? ⟨w.heap.size + 1, 6, none⟩ = some (.bool false) ∧ w'.cell? ⟨w.heap.size + 1, 7, none⟩ = some (.slice none 0 0)) (by kernel_rfl) (by kernel_rfl) (by rw [← hW7]; exact ⟨kD HB4 0, kD HB4 1, kD HB4 2, kD HB4 3, kD HB4 4, kD HB4 5, kD HB4 6, kD HB4 7⟩) ?_
 rw [← hW7]
 clear hW7
 iterate 2 refine tk0 (h := ?_)
 refine sop (h := fun K9 hK9 => ?_)
 go_simp
 refine mN (word_any 2 _ (by unfold B64; omega)) fun w2 A2 k2 c2 HR2 j2c => ?_
 replace HB4 := kB HB4 j2c
 refine ckk hK9 (by exact ⟨kD HB4 0, kD HB4 1, kD HB4 2, kD HB4 3, kD HB4 4, kD HB4 5, kD HB4 6, kD HB4 7⟩) (h := ?_)
 clear hK9 K9
 refine tk0 (h := ?_)
 refine sop (h := fun K9 hK9 => ?_)
 have jm1 := tt j2 j1c
 have jm2 := tt j3 j2c
 replace HB2 := kB (kO (kM HW6) (kB HB2 jm1) n2b4.out) jm2
 have t8h := kth 0 9 HB2
 refine smw 30 (w.heap.size) 0 (ht := by exact t8h) (h := ?_)
 obtain ⟨W9, HW9⟩ : ∃ W, Hid (W = w2.setCells (w.heap.size) 0 [.bool false, .slice none 0 0, .bool false, .slice none 0 0, .bool g1a, .slice A1a k1a c1a, .bool false, .slice none 0 0, .slice A2 k2 c2]) := ⟨_, rfl⟩
 have TW9 := kN (kM HW9) HB2 rfl rfl
 replace HB2 := kP (ds := [.bool false, .slice none 0 0, .bool false, .slice none 0 0, .bool g1a, .slice A1a k1a c1a, .bool false, .slice none 0 0, .slice A2 k2 c2]) (kM HW9) HB2 rfl rfl
 rw [← HW9.out]
 replace HB4 := kO (kM HW9) HB4 n2b4.out.symm
 refine ckk hK9 (by exact ⟨kD HB4 0, kD HB4 1, kD HB4 2, kD HB4 3, kD HB4 4, kD HB4 5, kD HB4 6, kD HB4 7⟩) (h := ?_)
 clear hK9 K9 t8h
 refine seq_done (by kernel_rfl) ?_
 go_wp2_with fail
 replace HR1 := kW TW9 (kV jm2 (kW TW6 HR1))
 replace HR2 := kW TW9 HR2
 replace HBw := kS (kM HW9) l2b (kU (kS (kM HW6) l4b (kU HBw jm1)) jm2)
 exact bodyPost_ret (results_cell rfl (by rfl) (blk_all HB2.out) Tryz.underlying30 rfl (by kernel_rfl)) rfl ⟨⟨_, rfl, (show RdS _ _ ⟨0, 0, 1/2, 0⟩ 1 from ⟨_, _, _, _, _, RdSn.mk (RdZ.nil0 _) (RdZ.nil0 _) HR1.out (RdZ.nil0 _) (show RdN _ _ (den1 2) from HR2.out), sx_22⟩)⟩, HBw.out⟩
theorem sx_12 : Sx ⟨0, 1/2, 0, 0⟩ 0 1 0 0 2 1 := ⟨by decide, ⟨by decide +kernel, by decide +kernel, by decide +kernel, by decide +kernel⟩, ⟨dl_small (by decide), dl_small (by decide), dl_small (by decide), dl_small (by decide)⟩, dl_small (by decide)⟩
theorem part_12 (w : World) :
  Calls Tryz.prog 208 #[.int .i64 1, .int .u64 2] w fun e w' => (∃ v', e = .returned v' ∧ RdS w' v' (⟨0, 1/2, 0, 0⟩) (1)) ∧ Below w.heap.size w w' := by
 go_enter Tryz.func208, Tryz.ntmps208
 obtain ⟨W1, HW1, HB2, s1w, j1⟩ := st_al0 w #[.bool false, .slice none 0 0, .bool false, .slice none 0 0, .bool false, .slice none 0 0, .bool false, .slice none 0 0, .slice none 0 0] 30
 have l2b : Hid (w.heap.size ≤ w.heap.size) := by show _ ≤ _; omega
 have HBw := h0d j1
 obtain ⟨W3, HW3, HB4, s3w, j2⟩ := st_alk 1 2 #[.bool false, .slice none 0 0, .bool false, .slice none 0 0, .bool false, .slice none 0 0, .bool false, .slice none 0 0] 28 s1w rfl
 have n2b4 : Hid (w.heap.size ≠ w.heap.size + 1) := by show _ ≠ _; omega
 have l4b : Hid (w.heap.size ≤ w.heap.size + 1) := by show _ ≤ _; omega
 go_wp2_with fail
 rw [← HW1.out, ← HW3.out]
 refine mZ (of_any 1 _ (by omega) (by omega)) fun w1 g1a A1a k1a c1a HR1 j1c => ?_
 replace HB4 := kB HB4 j1c
 have t5h := kth 2 2 HB4
 obtain ⟨W6, HW6⟩ : ∃ W, Hid (W = w1.setCells (w.heap.size + 1) 2 [.bool g1a, .slice A1a k1a c1a]) := ⟨_, rfl⟩
 have TW6 := kN (kM HW6) HB4 rfl rfl
 replace HB4 := kP (ds := [.bool false, .slice none 0 0, .bool g1a, .slice A1a k1a c1a, .bool false, .slice none 0 0, .bool false, .slice none 0 0]) (kM HW6) HB4 rfl rfl
 go_wp2_with (refine smd 27 (w.heap.size + 1) 2 (ht := by exact t5h) (h := ?_))
 rw [← HW6.out]
 clear t5h
 obtain ⟨W7, hW7⟩ : ∃ W, W = W6.drew := ⟨_, rfl⟩
 have j3 : Below W6.heap.size W6 W7 := by rw [hW7]; exact (Below.refl _ _).drew
 replace HB4 := kB HB4 j3
 refine seq_start (S := fun w' => w'.cell? ⟨w.heap.size + 1, 0, none⟩ = some (.bool false) ∧ w'.cell? ⟨w.heap.size + 1, 1, none⟩ = some (.slice none 0 0) ∧ w'.cell? ⟨w.heap.size + 1, 2, none⟩ = some (.bool g1a) ∧ w'.cell? ⟨w.heap.size + 1, 3, none⟩ = some (.slice A1a k1a c1a) ∧ w'.cell? ⟨w.heap.size + 1, 4, none⟩ = some (.bool false) ∧ w'.cell? ⟨w.heap.size + 1, 5, none⟩ = some (.slice none 0 0) ∧ w'.cell? ⟨w.heap.size + 1, 6, none⟩ = some (.bool false) ∧ w'.cell? ⟨w.heap.size + 1, 7, none⟩ = some (.slice none 0 0)) (by kernel_rfl) (by kernel_rfl) (by rw [← hW7]; exact ⟨kD HB4 0, kD HB4 1, kD HB4 2, kD HB4 3, kD HB4 4, kD HB4 5, kD HB4 6, kD HB4 7⟩) ?_
 rw [← hW7]
 clear hW7
 iterate 2 refine tk0 (h := ?_)
 refine sop (h := fun K9 hK9 => ?_)
 go_simp
 refine mN (word_any 2 _ (by unfold B64; omega)) fun w2 A2 k2 c2 HR2 j2c => ?_
 replace HB4 := kB HB4 j2c
 refine ckk hK9 (by exact ⟨kD HB4 0, kD HB4 1, kD HB4 2, kD HB4 3, kD HB4 4, kD HB4 5, kD HB4 6, kD HB4 7⟩) (h := ?_)
 clear hK9 K9
 refine tk0 (h := ?_)
 refine sop (h := fun K9 hK9 => ?_)
 have jm1 := tt j2 j1c
 have jm2 := tt j3 j2c
 replace HB2 := kB (kO (kM HW6) (kB HB2 jm1) n2b4.out) jm2
 have t8h := kth 0 9 HB2
 refine smw 30 (w.heap.size) 0 (ht := by exact t8h) (h := ?_)
 obtain ⟨W9, HW9⟩ : ∃ W, Hid (W = w2.setCells (w.heap.size) 0 [.bool false, .slice none 0 0, .bool g1a, .slice A1a k1a c1a, .bool false, .slice none 0 0, .bool false, .slice none 0 0, .slice A2 k2 c2]) := ⟨_, rfl⟩
 have TW9 := kN (kM HW9) HB2 rfl rfl
 replace HB2 := kP (ds := [.bool false, .slice none 0 0, .bool g1a, .slice A1a k1a c1a, .bool false, .slice none 0 0, .bool false, .slice none 0 0, .slice A2 k2 c2]) (kM HW9) HB2 rfl rfl
 rw [← HW9.out]
 replace HB4 := kO (kM HW9) HB4 n2b4.out.symm
 refine ckk hK9 (by exact ⟨kD HB4 0, kD HB4 1, kD HB4 2, kD HB4 3, kD HB4 4, kD HB4 5, kD HB4 6, kD HB4 7⟩) (h := ?_)
 clear hK9 K9 t8h
 refine seq_done (by kernel_rfl) ?_
 go_wp2_with fail
 replace HR1 := kW TW9 (kV jm2 (kW TW6 HR1))
 replace HR2 := kW TW9 HR2
 replace HBw := kS (kM HW9) l2b (kU (kS (kM HW6) l4b (kU HBw jm1)) jm2)
 exact bodyPost_ret (results_cell rfl (by rfl) (blk_all HB2.out) Tryz.underlying30 rfl (by kernel_rfl)) rfl ⟨⟨_, rfl, (show RdS _ _ ⟨0, 1/2, 0, 0⟩ 1 from ⟨_, _, _, _, _, RdSn.mk (RdZ.nil0 _) HR1.out (RdZ.nil0 _) (RdZ.nil0 _) (show RdN _ _ (den1 2) from HR2.out), sx_12⟩)⟩, HBw.out⟩
theorem sx_02 : Sx ⟨1/2, 0, 0, 0⟩ 1 0 0 0 2 1 := ⟨by decide, ⟨by decide +kernel, by decide +kernel, by decide +kernel, by decide +kernel⟩, ⟨dl_small (by decide), dl_small (by decide), dl_small (by decide), dl_small (by decide)⟩, dl_small (by decide)⟩
theorem part_02 (w : World) :
  Calls Tryz.prog 208 #[.int .i64 0, .int .u64 2] w fun e w' => (∃ v', e = .returned v' ∧ RdS w' v' (⟨1/2, 0, 0, 0⟩) (1)) ∧ Below w.heap.size w w' := by
 go_enter Tryz.func208, Tryz.ntmps208
 obtain ⟨W1, HW1, HB2, s1w, j1⟩ := st_al0 w #[.bool false, .slice none 0 0, .bool false, .slice none 0 0, .bool false, .slice none 0 0, .bool false, .slice none 0 0, .slice none 0 0] 30
 have l2b : Hid (w.heap.size ≤ w.heap.size) := by show _ ≤ _; omega
 have HBw := h0d j1
 obtain ⟨W3, HW3, HB4, s3w, j2⟩ := st_alk 1 2 #[.bool false, .slice none 0 0, .bool false, .slice none 0 0, .bool false, .slice none 0 0, .bool false, .slice none 0 0] 28 s1w rfl
 have n2b4 : Hid (w.heap.size ≠ w.heap.size + 1) := by show _ ≠ _; omega
 have l4b : Hid (w.heap.size ≤ w.heap.size + 1) := by show _ ≤ _; omega
 go_wp2_with fail
 rw [← HW1.out, ← HW3.out]
 refine mZ (of_any 1 _ (by omega) (by omega)) fun w1 g1a A1a k1a c1a HR1 j1c => ?_
 replace HB4 := kB HB4 j1c
 have t5h := kth 0 2 HB4
 obtain ⟨W6, HW6⟩ : ∃ W, Hid (W = w1.setCells (w.heap.size + 1) 0 [.bool g1a, .slice A1a k1a c1a]) := ⟨_, rfl⟩
 have TW6 := kN (kM HW6) HB4 rfl rfl
 replace HB4 := kP (ds := [.bool g1a, .slice A1a k1a c1a, .bool false, .slice none 0 0, .bool false, .slice none 0 0, .bool false, .slice none 0 0]) (kM HW6) HB4 rfl rfl
 go_wp2_with (refine smd 27 (w.heap.size + 1) 0 (ht := by exact t5h) (h := ?_))
 rw [← HW6.out]
 clear t5h
 obtain ⟨W7, hW7⟩ : ∃ W, W = W6.drew := ⟨_, rfl⟩
 have j3 : Below W6.heap.size W6 W7 := by rw [hW7]; exact (Below.refl _ _).drew
 replace HB4 := kB HB4 j3
 refine seq_start (S := fun w' => w'.cell? ⟨w.heap.size + 1, 0, none⟩ = some (.bool g1a) ∧ w'.cell? ⟨w.heap.size + 1, 1, none⟩ = some (.slice A1a k1a c1a) ∧ w'.cell? ⟨w.heap.size + 1, 2, none⟩ = some (.bool false) ∧ w'.cell? ⟨w.heap.size + 1, 3, none⟩ = some (.slice none 0 0) ∧ w'.cell? ⟨w.heap.size + 1, 4, none⟩ = some (.bool false) ∧ w'.cell? ⟨w.heap.size + 1, 5, none⟩ = some (.slice none 0 0) ∧ w'.cell? ⟨w.heap.size + 1, 6, none⟩ = some (.bool false) ∧ w'.cell? ⟨w.heap.size + 1, 7, none⟩ = some (.slice none 0 0)) (by kernel_rfl) (by kernel_rfl) (by rw [← hW7]; exact ⟨kD HB4 0, kD HB4 1, kD HB4 2, kD HB4 3, kD HB4 4, kD HB4 5, kD HB4 6, kD HB4 7⟩) ?_
 rw [← hW7]
 clear hW7
 iterate 2 refine tk0 (h := ?_)
 refine sop (h := fun K9 hK9 => ?_)
 go_simp
 refine mN (word_any 2 _ (by unfold B64; omega)) fun w2 A2 k2 c2 HR2 j2c => ?_
 replace HB4 := kB HB4 j2c
 refine ckk hK9 (by exact ⟨kD HB4 0, kD HB4 1, kD HB4 2, kD HB4 3, kD HB4 4, kD HB4 5, kD HB4 6, kD HB4 7⟩) (h := ?_)
 clear hK9 K9
 refine tk0 (h := ?_)
 refine sop (h := fun K9 hK9 => ?_)
 have jm1 := tt j2 j1c
 have jm2 := tt j3 j2c
 replace HB2 := kB (kO (kM HW6) (kB HB2 jm1) n2b4.out) jm2
 have t8h := kth 0 9 HB2
 refine smw 30 (w.heap.size) 0 (ht := by exact t8h) (h := ?_)
 obtain ⟨W9, HW9⟩ : ∃ W, Hid (W = w2.setCells (w.heap.size) 0 [.bool g1a, .slice A1a k1a c1a, .bool false, .slice none 0 0, .bool false, .slice none 0 0, .bool false, .slice none 0 0, .slice A2 k2 c2]) := ⟨_, rfl⟩
 have TW9 := kN (kM HW9) HB2 rfl rfl
 replace HB2 := kP (ds := [.bool g1a, .slice A1a k1a c1a, .bool false, .slice none 0 0, .bool false, .slice none 0 0, .bool false, .slice none 0 0, .slice A2 k2 c2]) (kM HW9) HB2 rfl rfl
 rw [← HW9.out]
 replace HB4 := kO (kM HW9) HB4 n2b4.out.symm
 refine ckk hK9 (by exact ⟨kD HB4 0, kD HB4 1, kD HB4 2, kD HB4 3, kD HB4 4, kD HB4 5, kD HB4 6, kD HB4 7⟩) (h := ?_)
 clear hK9 K9 t8h
 refine seq_done (by kernel_rfl) ?_
 go_wp2_with fail
 replace HR1 := kW TW9 (kV jm2 (kW TW6 HR1))
 replace HR2 := kW TW9 HR2
 replace HBw := kS (kM HW9) l2b (kU (kS (kM HW6) l4b (kU HBw jm1)) jm2)
 exact bodyPost_ret (results_cell rfl (by rfl) (blk_all HB2.out) Tryz.underlying30 rfl (by kernel_rfl)) rfl ⟨⟨_, rfl, (show RdS _ _ ⟨1/2, 0, 0, 0⟩ 1 from ⟨_, _, _, _, _, RdSn.mk HR1.out (RdZ.nil0 _) (RdZ.nil0 _) (RdZ.nil0 _) (show RdN _ _ (den1 2) from HR2.out), sx_02⟩)⟩, HBw.out⟩
theorem sx_one : Sx (cos6 0) 1 0 0 0 1 1 := ⟨by decide, ⟨by decide +kernel, by decide +kernel, by decide +kernel, by decide +kernel⟩, ⟨dl_small (by decide), dl_small (by decide), dl_small (by decide), dl_small (by decide)⟩, dl_small (by decide)⟩
theorem sx_nil : Sx (cos6 6) 0 0 0 0 1 1 := ⟨by decide, ⟨by decide +kernel, by decide +kernel, by decide +kernel, by decide +kernel⟩, ⟨dl_small (by decide), dl_small (by decide), dl_small (by decide), dl_small (by decide)⟩, dl_small (by decide)⟩
theorem cos_0 (k : Int) (w : World) (h : k = 0 ∨ (12 < k ∧ 24 - k = 0)) : Calls Tryz.prog 135 #[.int .i64 k] w fun e w' => (∃ v', e = .returned v' ∧ RdS w' v' (cos6 0) (3)) ∧ Below w.heap.size w w' := by
 rcases h with rfl | ⟨h12, h24⟩
 case' inr => have hw : IntKind.i64.wrap (24 - k) = 0 := by rw [h24]; exact IntWalk.i64_in _ (by omega)
 all_goals
  go_enter Tryz.func135, Tryz.ntmps135
  obtain ⟨W1, HW1, HB2, s1w, j1⟩ := st_al0 w #[.bool false, .slice none 0 0, .bool false, .slice none 0 0, .bool false, .slice none 0 0, .bool false, .slice none 0 0, .slice none 0 0] 30
  have l2b : Hid (w.heap.size ≤ w.heap.size) := by show _ ≤ _; omega
  have HBw := h0d j1
  go_wp2_with fail
  rw [← HW1.out]
  refine mZ (of_any 1 _ (by omega) (by omega)) fun w1 g1a A1a k1a c1a HR1 j1c => ?_
  replace HB2 := kB HB2 j1c
  have t3h := kth 0 9 HB2
  obtain ⟨W4, HW4⟩ : ∃ W, Hid (W = w1.setCells (w.heap.size) 0 [.bool g1a, .slice A1a k1a c1a, .bool false, .slice none 0 0, .bool false, .slice none 0 0, .bool false, .slice none 0 0, .slice none 0 0]) := ⟨_, rfl⟩
  have TW4 := kN (kM HW4) HB2 rfl rfl
  replace HB2 := kP (ds := [.bool g1a, .slice A1a k1a c1a, .bool false, .slice none 0 0, .bool false, .slice none 0 0, .bool false, .slice none 0 0, .slice none 0 0]) (kM HW4) HB2 rfl rfl
  have s4w := kZ (kM HW4)
  go_wp2_with (refine smd 30 (w.heap.size) 0 (ht := by exact t3h) (h := ?_))
  rw [← HW4.out]
  clear t3h
  replace HR1 := kW TW4 HR1
  replace HBw := kS (kM HW4) l2b (kU HBw j1c)
  exact bodyPost_ret (results_cell rfl (by rfl) (blk_all HB2.out) Tryz.underlying30 rfl (by kernel_rfl)) rfl ⟨⟨_, rfl, (show RdS _ _ (cos6 0) 3 from RdS.mono ⟨_, _, _, _, _, RdSn.mk HR1.out (RdZ.nil0 _) (RdZ.nil0 _) (RdZ.nil0 _) (RdN.nil0 _), sx_one⟩ (by omega))⟩, HBw.out⟩
theorem cos_1 (k : Int) (w : World) (h : k = 1 ∨ (12 < k ∧ 24 - k = 1)) : Calls Tryz.prog 135 #[.int .i64 k] w fun e w' => (∃ v', e = .returned v' ∧ RdS w' v' (cos6 1) (3)) ∧ Below w.heap.size w w' := by
 rcases h with rfl | ⟨h12, h24⟩
 case' inr => have hw : IntKind.i64.wrap (24 - k) = 1 := by rw [h24]; exact IntWalk.i64_in _ (by omega)
 all_goals
  go_enter Tryz.func135, Tryz.ntmps135
  obtain ⟨W1, HW1, HB2, s1w, j1⟩ := st_al0 w #[.bool false, .slice none 0 0, .bool false, .slice none 0 0, .bool false, .slice none 0 0, .bool false, .slice none 0 0, .slice none 0 0] 30
  have l2b : Hid (w.heap.size ≤ w.heap.size) := by show _ ≤ _; omega
  have HBw := h0d j1
  go_wp2_with fail
  rw [← HW1.out]
  refine mS (part_14 _) fun w1 g1a A1a k1a c1a g1b A1b k1b c1b g1c A1c k1c c1c g1d A1d k1d c1d A1e k1e c1e HR1 j1c => ?_
  go_wp2_with fail
  refine mS (part_34 _) fun w2 g2a A2a k2a c2a g2b A2b k2b c2b g2c A2c k2c c2c g2d A2d k2d c2d A2e k2e c2e HR2 j2c => ?_
  go_wp2_with fail
  replace HR1 := kV j2c HR1
  refine mS (saddS_any _ _ _ _ 1 1 _ HR1.out HR2.out (by omega) (by omega)) fun w3 g3a A3a k3a c3a g3b A3b k3b c3b g3c A3c k3c c3c g3d A3d k3d c3d A3e k3e c3e HR3 j3c => ?_
  have jm1 := tt (tt j1c j2c) j3c
  replace HB2 := kB HB2 jm1
  have t3h := kth 0 9 HB2
  obtain ⟨W4, HW4⟩ : ∃ W, Hid (W = w3.setCells (w.heap.size) 0 [.bool g3a, .slice A3a k3a c3a, .bool g3b, .slice A3b k3b c3b, .bool g3c, .slice A3c k3c c3c, .bool g3d, .slice A3d k3d c3d, .slice A3e k3e c3e]) := ⟨_, rfl⟩
  have TW4 := kN (kM HW4) HB2 rfl rfl
  replace HB2 := kP (ds := [.bool g3a, .slice A3a k3a c3a, .bool g3b, .slice A3b k3b c3b, .bool g3c, .slice A3c k3c c3c, .bool g3d, .slice A3d k3d c3d, .slice A3e k3e c3e]) (kM HW4) HB2 rfl rfl
  have s4w := kZ (kM HW4)
  go_wp2_with (refine smd 30 (w.heap.size) 0 (ht := by exact t3h) (h := ?_))
  rw [← HW4.out]
  clear t3h
  replace HR3 := kW TW4 HR3
  replace HBw := kS (kM HW4) l2b (kU HBw jm1)
  exact bodyPost_ret (results_cell rfl (by rfl) (blk_all HB2.out) Tryz.underlying30 rfl (by kernel_rfl)) rfl ⟨⟨_, rfl, (show RdS _ _ (cos6 1) 3 from (show cos6 1 = S4.add ⟨0, 1/4, 0, 0⟩ ⟨0, 0, 0, 1/4⟩ by decide +kernel) ▸ HR3.out)⟩, HBw.out⟩
theorem cos_2 (k : Int) (w : World) (h : k = 2 ∨ (12 < k ∧ 24 - k = 2)) : Calls Tryz.prog 135 #[.int .i64 k] w fun e w' => (∃ v', e = .returned v' ∧ RdS w' v' (cos6 2) (3)) ∧ Below w.heap.size w w' := by
 rcases h with rfl | ⟨h12, h24⟩
 case' inr => have hw : IntKind.i64.wrap (24 - k) = 2 := by rw [h24]; exact IntWalk.i64_in _ (by omega)
 all_goals
  go_enter Tryz.func135, Tryz.ntmps135
  obtain ⟨W1, HW1, HB2, s1w, j1⟩ := st_al0 w #[.bool false, .slice none 0 0, .bool false, .slice none 0 0, .bool false, .slice none 0 0, .bool false, .slice none 0 0, .slice none 0 0] 30
  have l2b : Hid (w.heap.size ≤ w.heap.size) := by show _ ≤ _; omega
  have HBw := h0d j1
  go_wp2_with fail
  rw [← HW1.out]
  refine mS (part_22 _) fun w1 g1a A1a k1a c1a g1b A1b k1b c1b g1c A1c k1c c1c g1d A1d k1d c1d A1e k1e c1e HR1 j1c => ?_
  replace HB2 := kB HB2 j1c
  have t3h := kth 0 9 HB2
  obtain ⟨W4, HW4⟩ : ∃ W, Hid (W = w1.setCells (w.heap.size) 0 [.bool g1a, .slice A1a k1a c1a, .bool g1b, .slice A1b k1b c1b, .bool g1c, .slice A1c k1c c1c, .bool g1d, .slice A1d k1d c1d, .slice A1e k1e c1e]) := ⟨_, rfl⟩
  have TW4 := kN (kM HW4) HB2 rfl rfl
  replace HB2 := kP (ds := [.bool g1a, .slice A1a k1a c1a, .bool g1b, .slice A1b k1b c1b, .bool g1c, .slice A1c k1c c1c, .bool g1d, .slice A1d k1d c1d, .slice A1e k1e c1e]) (kM HW4) HB2 rfl rfl
  have s4w := kZ (kM HW4)
  go_wp2_with (refine smd 30 (w.heap.size) 0 (ht := by exact t3h) (h := ?_))
  rw [← HW4.out]
  clear t3h
  replace HR1 := kW TW4 HR1
  replace HBw := kS (kM HW4) l2b (kU HBw j1c)
  exact bodyPost_ret (results_cell rfl (by rfl) (blk_all HB2.out) Tryz.underlying30 rfl (by kernel_rfl)) rfl ⟨⟨_, rfl, (show RdS _ _ (cos6 2) 3 from HR1.out.mono (by omega))⟩, HBw.out⟩
theorem cos_3 (k : Int) (w : World) (h : k = 3 ∨ (12 < k ∧ 24 - k = 3)) : Calls Tryz.prog 135 #[.int .i64 k] w fun e w' => (∃ v', e = .returned v' ∧ RdS w' v' (cos6 3) (3)) ∧ Below w.heap.size w w' := by
 rcases h with rfl | ⟨h12, h24⟩
 case' inr => have hw : IntKind.i64.wrap (24 - k) = 3 := by rw [h24]; exact IntWalk.i64_in _ (by omega)
 all_goals
  go_enter Tryz.func135, Tryz.ntmps135
  obtain ⟨W1, HW1, HB2, s1w, j1⟩ := st_al0 w #[.bool false, .slice none 0 0, .bool false, .slice none 0 0, .bool false, .slice none 0 0, .bool false, .slice none 0 0, .slice none 0 0] 30
  have l2b : Hid (w.heap.size ≤ w.heap.size) := by show _ ≤ _; omega
  have HBw := h0d j1
  go_wp2_with fail
  rw [← HW1.out]
  refine mS (part_12 _) fun w1 g1a A1a k1a c1a g1b A1b k1b c1b g1c A1c k1c c1c g1d A1d k1d c1d A1e k1e c1e HR1 j1c => ?_
  replace HB2 := kB HB2 j1c
  have t3h := kth 0 9 HB2
  obtain ⟨W4, HW4⟩ : ∃ W, Hid (W = w1.setCells (w.heap.size) 0 [.bool g1a, .slice A1a k1a c1a, .bool g1b, .slice A1b k1b c1b, .bool g1c, .slice A1c k1c c1c, .bool g1d, .slice A1d k1d c1d, .slice A1e k1e c1e]) := ⟨_, rfl⟩
  have TW4 := kN (kM HW4) HB2 rfl rfl
  replace HB2 := kP (ds := [.bool g1a, .slice A1a k1a c1a, .bool g1b, .slice A1b k1b c1b, .bool g1c, .slice A1c k1c c1c, .bool g1d, .slice A1d k1d c1d, .slice A1e k1e c1e]) (kM HW4) HB2 rfl rfl
  have s4w := kZ (kM HW4)
  go_wp2_with (refine smd 30 (w.heap.size) 0 (ht := by exact t3h) (h := ?_))
  rw [← HW4.out]
  clear t3h
  replace HR1 := kW TW4 HR1
  replace HBw := kS (kM HW4) l2b (kU HBw j1c)
  exact bodyPost_ret (results_cell rfl (by rfl) (blk_all HB2.out) Tryz.underlying30 rfl (by kernel_rfl)) rfl ⟨⟨_, rfl, (show RdS _ _ (cos6 3) 3 from HR1.out.mono (by omega))⟩, HBw.out⟩
theorem cos_4 (k : Int) (w : World) (h : k = 4 ∨ (12 < k ∧ 24 - k = 4)) : Calls Tryz.prog 135 #[.int .i64 k] w fun e w' => (∃ v', e = .returned v' ∧ RdS w' v' (cos6 4) (3)) ∧ Below w.heap.size w w' := by
 rcases h with rfl | ⟨h12, h24⟩
 case' inr => have hw : IntKind.i64.wrap (24 - k) = 4 := by rw [h24]; exact IntWalk.i64_in _ (by omega)
 all_goals
  go_enter Tryz.func135, Tryz.ntmps135
  obtain ⟨W1, HW1, HB2, s1w, j1⟩ := st_al0 w #[.bool false, .slice none 0 0, .bool false, .slice none 0 0, .bool false, .slice none 0 0, .bool false, .slice none 0 0, .slice none 0 0] 30
  have l2b : Hid (w.heap.size ≤ w.heap.size) := by show _ ≤ _; omega
  have HBw := h0d j1
  go_wp2_with fail
  rw [← HW1.out]
  refine mS (part_02 _) fun w1 g1a A1a k1a c1a g1b A1b k1b c1b g1c A1c k1c c1c g1d A1d k1d c1d A1e k1e c1e HR1 j1c => ?_
  replace HB2 := kB HB2 j1c
  have t3h := kth 0 9 HB2
  obtain ⟨W4, HW4⟩ : ∃ W, Hid (W = w1.setCells (w.heap.size) 0 [.bool g1a, .slice A1a k1a c1a, .bool g1b, .slice A1b k1b c1b, .bool g1c, .slice A1c k1c c1c, .bool g1d, .slice A1d k1d c1d, .slice A1e k1e c1e]) := ⟨_, rfl⟩
  have TW4 := kN (kM HW4) HB2 rfl rfl
  replace HB2 := kP (ds := [.bool g1a, .slice A1a k1a c1a, .bool g1b, .slice A1b k1b c1b, .bool g1c, .slice A1c k1c c1c, .bool g1d, .slice A1d k1d c1d, .slice A1e k1e c1e]) (kM HW4) HB2 rfl rfl
  have s4w := kZ (kM HW4)
  go_wp2_with (refine smd 30 (w.heap.size) 0 (ht := by exact t3h) (h := ?_))
  rw [← HW4.out]
  clear t3h
  replace HR1 := kW TW4 HR1
  replace HBw := kS (kM HW4) l2b (kU HBw j1c)
  exact bodyPost_ret (results_cell rfl (by rfl) (blk_all HB2.out) Tryz.underlying30 rfl (by kernel_rfl)) rfl ⟨⟨_, rfl, (show RdS _ _ (cos6 4) 3 from HR1.out.mono (by omega))⟩, HBw.out⟩
theorem cos_5 (k : Int) (w : World) (h : k = 5 ∨ (12 < k ∧ 24 - k = 5)) : Calls Tryz.prog 135 #[.int .i64 k] w fun e w' => (∃ v', e = .returned v' ∧ RdS w' v' (cos6 5) (3)) ∧ Below w.heap.size w w' := by
 rcases h with rfl | ⟨h12, h24⟩
 case' inr => have hw : IntKind.i64.wrap (24 - k) = 5 := by rw [h24]; exact IntWalk.i64_in _ (by omega)
 all_goals
  go_enter Tryz.func135, Tryz.ntmps135
  obtain ⟨W1, HW1, HB2, s1w, j1⟩ := st_al0 w #[.bool false, .slice none 0 0, .bool false, .slice none 0 0, .bool false, .slice none 0 0, .bool false, .slice none 0 0, .slice none 0 0] 30
  have l2b : Hid (w.heap.size ≤ w.heap.size) := by show _ ≤ _; omega
  have HBw := h0d j1
  go_wp2_with fail
  rw [← HW1.out]
  refine mS (part_34 _) fun w1 g1a A1a k1a c1a g1b A1b k1b c1b g1c A1c k1c c1c g1d A1d k1d c1d A1e k1e c1e HR1 j1c => ?_
  go_wp2_with fail
  refine mS (part_14 _) fun w2 g2a A2a k2a c2a g2b A2b k2b c2b g2c A2c k2c c2c g2d A2d k2d c2d A2e k2e c2e HR2 j2c => ?_
  go_wp2_with fail
  replace HR1 := kV j2c HR1
  refine mS (ssubS_any _ _ _ _ 1 1 _ HR1.out HR2.out (by omega) (by omega)) fun w3 g3a A3a k3a c3a g3b A3b k3b c3b g3c A3c k3c c3c g3d A3d k3d c3d A3e k3e c3e HR3 j3c => ?_
  have jm1 := tt (tt j1c j2c) j3c
  replace HB2 := kB HB2 jm1
  have t3h := kth 0 9 HB2
  obtain ⟨W4, HW4⟩ : ∃ W, Hid (W = w3.setCells (w.heap.size) 0 [.bool g3a, .slice A3a k3a c3a, .bool g3b, .slice A3b k3b c3b, .bool g3c, .slice A3c k3c c3c, .bool g3d, .slice A3d k3d c3d, .slice A3e k3e c3e]) := ⟨_, rfl⟩
  have TW4 := kN (kM HW4) HB2 rfl rfl
  replace HB2 := kP (ds := [.bool g3a, .slice A3a k3a c3a, .bool g3b, .slice A3b k3b c3b, .bool g3c, .slice A3c k3c c3c, .bool g3d, .slice A3d k3d c3d, .slice A3e k3e c3e]) (kM HW4) HB2 rfl rfl
  have s4w := kZ (kM HW4)
  go_wp2_with (refine smd 30 (w.heap.size) 0 (ht := by exact t3h) (h := ?_))
  rw [← HW4.out]
  clear t3h
  replace HR3 := kW TW4 HR3
  replace HBw := kS (kM HW4) l2b (kU HBw jm1)
  exact bodyPost_ret (results_cell rfl (by rfl) (blk_all HB2.out) Tryz.underlying30 rfl (by kernel_rfl)) rfl ⟨⟨_, rfl, (show RdS _ _ (cos6 5) 3 from (show cos6 5 = S4.sub ⟨0, 0, 0, 1/4⟩ ⟨0, 1/4, 0, 0⟩ by decide +kernel) ▸ HR3.out)⟩, HBw.out⟩
theorem cos_6 (k : Int) (w : World) (h : k = 6 ∨ (12 < k ∧ 24 - k = 6)) : Calls Tryz.prog 135 #[.int .i64 k] w fun e w' => (∃ v', e = .returned v' ∧ RdS w' v' (cos6 6) (3)) ∧ Below w.heap.size w w' := by
 rcases h with rfl | ⟨h12, h24⟩
 case' inr => have hw : IntKind.i64.wrap (24 - k) = 6 := by rw [h24]; exact IntWalk.i64_in _ (by omega)
 all_goals
  go_enter Tryz.func135, Tryz.ntmps135
  obtain ⟨W1, HW1, HB2, s1w, j1⟩ := st_al0 w #[.bool false, .slice none 0 0, .bool false, .slice none 0 0, .bool false, .slice none 0 0, .bool false, .slice none 0 0, .slice none 0 0] 30
  have l2b : Hid (w.heap.size ≤ w.heap.size) := by show _ ≤ _; omega
  have HBw := h0d j1
  go_wp2_with fail
  rw [← HW1.out]
  exact bodyPost_ret (results_cell rfl (by rfl) (blk_all HB2.out) Tryz.underlying30 rfl (by kernel_rfl)) rfl ⟨⟨_, rfl, (show RdS _ _ (cos6 6) 3 from RdS.mono ⟨_, _, _, _, _, RdSn.mk (RdZ.nil0 _) (RdZ.nil0 _) (RdZ.nil0 _) (RdZ.nil0 _) (RdN.nil0 _), sx_nil⟩ (by omega))⟩, HBw.out⟩
theorem cosb_any (k : Int) (j : Nat) (w : World) (hj : j ≤ 6) (h : k = j ∨ (12 < k ∧ 24 - k = j)) : Calls Tryz.prog 135 #[.int .i64 k] w fun e w' => (∃ v', e = .returned v' ∧ RdS w' v' (cos6 j) (3)) ∧ Below w.heap.size w w' := by
 match j, hj, h with
 | 0, _, h => exact cos_0 k w h
 | 1, _, h => exact cos_1 k w h
 | 2, _, h => exact cos_2 k w h
 | 3, _, h => exact cos_3 k w h
 | 4, _, h => exact cos_4 k w h
 | 5, _, h => exact cos_5 k w h
 | 6, _, h => exact cos_6 k w h
 | j + 7, h, _ => exact absurd h (by omega)
theorem cosm_any (k : Int) (j : Nat) (w : World) (hj : 6 < j ∧ j ≤ 12) (h : k = j ∨ (12 < k ∧ 24 - k = j)) : Calls Tryz.prog 135 #[.int .i64 k] w fun e w' => (∃ v', e = .returned v' ∧ RdS w' v' ((cos6 (12 - j)).neg) (3)) ∧ Below w.heap.size w w' := by
 have h6 : 6 < (j : Int) := by omega
 have hw : IntKind.i64.wrap (24 - k) = 24 - k := IntWalk.i64_in _ (by omega)
 have hw2 : IntKind.i64.wrap (12 - (j : Int)) = ((12 - j : Nat) : Int) := by rw [IntWalk.i64_in _ (by omega)]; omega
 rcases h with rfl | ⟨h12, h24⟩
 case' inl => have h12 : ¬ 12 < (j : Int) := by omega
 case' inr => rw [h24] at hw
 all_goals
  go_enter Tryz.func135, Tryz.ntmps135
  obtain ⟨W1, HW1, HB2, s1w, j1⟩ := st_al0 w #[.bool false, .slice none 0 0, .bool false, .slice none 0 0, .bool false, .slice none 0 0, .bool false, .slice none 0 0, .slice none 0 0] 30
  have l2b : Hid (w.heap.size ≤ w.heap.size) := by show _ ≤ _; omega
  have HBw := h0d j1
  go_wp2_with fail
  rw [← HW1.out]
  refine mS (cosb_any ((12 - j : Nat) : Int) (12 - j) _ (by omega) (.inl rfl)) fun w1 g1a A1a k1a c1a g1b A1b k1b c1b g1c A1c k1c c1c g1d A1d k1d c1d A1e k1e c1e HR1 j1c => ?_
  go_wp2_with fail
  refine mS (snegS_any _ (cos6 (12 - j)) 3 _ HR1.out) fun w2 g2a A2a k2a c2a g2b A2b k2b c2b g2c A2c k2c c2c g2d A2d k2d c2d A2e k2e c2e HR2 j2c => ?_
  have jm1 := tt j1c j2c
  replace HB2 := kB HB2 jm1
  have t3h := kth 0 9 HB2
  obtain ⟨W4, HW4⟩ : ∃ W, Hid (W = w2.setCells (w.heap.size) 0 [.bool g2a, .slice A2a k2a c2a, .bool g2b, .slice A2b k2b c2b, .bool g2c, .slice A2c k2c c2c, .bool g2d, .slice A2d k2d c2d, .slice A2e k2e c2e]) := ⟨_, rfl⟩
  have TW4 := kN (kM HW4) HB2 rfl rfl
  replace HB2 := kP (ds := [.bool g2a, .slice A2a k2a c2a, .bool g2b, .slice A2b k2b c2b, .bool g2c, .slice A2c k2c c2c, .bool g2d, .slice A2d k2d c2d, .slice A2e k2e c2e]) (kM HW4) HB2 rfl rfl
  have s4w := kZ (kM HW4)
  go_wp2_with (refine smd 30 (w.heap.size) 0 (ht := by exact t3h) (h := ?_))
  rw [← HW4.out]
  clear t3h
  replace HR2 := kW TW4 HR2
  replace HBw := kS (kM HW4) l2b (kU HBw jm1)
  exact bodyPost_ret (results_cell rfl (by rfl) (blk_all HB2.out) Tryz.underlying30 rfl (by kernel_rfl)) rfl ⟨⟨_, rfl, HR2.out⟩, HBw.out⟩
theorem cosine_any (k : Nat) (w : World) (hk : k < 24) : Calls Tryz.prog 135 #[.int .i64 (k : Int)] w fun e w' => (∃ v', e = .returned v' ∧ RdS w' v' (cosN k) (3)) ∧ Below w.heap.size w w' := by
 unfold cosN
 by_cases h : 12 < k
 ·simp only [if_pos h]
  by_cases h6 : 6 < 24 - k
  ·rw [if_pos h6]; exact cosm_any _ (24 - k) w (by omega) (.inr ⟨by omega, by omega⟩)
  ·rw [if_neg h6]; exact cosb_any _ (24 - k) w (by omega) (.inr ⟨by omega, by omega⟩)
 ·simp only [if_neg h]
  by_cases h6 : 6 < k
  ·rw [if_pos h6]; exact cosm_any _ k w (by omega) (.inl rfl)
  ·rw [if_neg h6]; exact cosb_any _ k w (by omega) (.inl rfl)
theorem place_any (k : Int) (w : World) (h1 : -1000000 ≤ k) (h2 : k ≤ 1000000) : Calls Tryz.prog 134 #[.int .i64 k] w fun e w' => e = .returned (.int .i64 (k % 24)) ∧ w' = w := by
 obtain ⟨a, ha⟩ : ∃ a, a = k.tmod 24 := ⟨_, rfl⟩
 have ha2 : a = if 0 ≤ k then k % 24 else -((-k) % 24) := by
  rw [ha]; split
  ·exact Int.tmod_eq_emod_of_nonneg (by omega)
  ·rw [show k = -(-k) by omega, Int.neg_tmod, Int.tmod_eq_emod_of_nonneg (by omega)]; simp
 have hb : (a + 24).tmod 24 = k % 24 := by
  rw [Int.tmod_eq_emod_of_nonneg (by split at ha2 <;> omega)]; split at ha2 <;> omega
 have hw1 : IntKind.i64.wrap a = a := IntWalk.i64_in _ (by split at ha2 <;> omega)
 have hw2 : IntKind.i64.wrap (a + 24) = a + 24 := IntWalk.i64_in _ (by split at ha2 <;> omega)
 obtain ⟨b, hbb⟩ : ∃ b, b = k % 24 := ⟨_, rfl⟩
 rw [← hbb] at hb ⊢
 have hw3 : IntKind.i64.wrap b = b := IntWalk.i64_in _ (by omega)
 have ha' := ha.symm
 clear ha ha2 hbb h1 h2
 go_enter Tryz.func134, Tryz.ntmps134
 go_wp2_with fail
 go_ret
 exact ⟨rfl, rfl⟩
def RdWv (w : World) (v : Value) (x : W4) (K : Nat) : Prop := ∃ (g0 g1 g2 g3 h0 h1 h2 h3 : Bool) (s0 s1 s2 s3 t r0 r1 r2 r3 u : Value),
 v = .agg #[.bool g0, s0, .bool g1, s1, .bool g2, s2, .bool g3, s3, t, .bool h0, r0, .bool h1, r1, .bool h2, r2, .bool h3, r3, u] ∧
 RdS w (.agg #[.bool g0, s0, .bool g1, s1, .bool g2, s2, .bool g3, s3, t]) x.re K ∧ RdS w (.agg #[.bool h0, r0, .bool h1, r1, .bool h2, r2, .bool h3, r3, u]) x.im K
theorem RdWv.wd {w w' : World} {v : Value} {x : W4} {K : Nat} (h : RdWv w v x K) (hw : Wd w w') : RdWv w' v x K := by
 obtain ⟨g0, g1, g2, g3, h0, h1, h2, h3, s0, s1, s2, s3, t, r0, r1, r2, r3, u, rfl, a, b⟩ := h
 exact ⟨_, _, _, _, _, _, _, _, _, _, _, _, _, _, _, _, _, _, rfl, a.wd hw, b.wd hw⟩
instance wdRdWv (w w' : World) (v : Value) (x : W4) (K : Nat) : WdSt (RdWv w v x K) w w' (RdWv w' v x K) := ⟨fun hT h => h.wd hT⟩
theorem RdWv.mk {w : World} {x : W4} {K : Nat} {g0 g1 g2 g3 h0 h1 h2 h3 : Bool} {s0 s1 s2 s3 t r0 r1 r2 r3 u : Value} (h : RdS w (.agg #[.bool g0, s0, .bool g1, s1, .bool g2, s2, .bool g3, s3, t]) x.re K) (k : RdS w (.agg #[.bool h0, r0, .bool h1, r1, .bool h2, r2, .bool h3, r3, u]) x.im K) :
  RdWv w (.agg #[.bool g0, s0, .bool g1, s1, .bool g2, s2, .bool g3, s3, t, .bool h0, r0, .bool h1, r1, .bool h2, r2, .bool h3, r3, u]) x K := ⟨_, _, _, _, _, _, _, _, _, _, _, _, _, _, _, _, _, _, rfl, h, k⟩
theorem RdWv.mono {w : World} {v : Value} {x : W4} {K L : Nat} (h : RdWv w v x K) (hl : K ≤ L) : RdWv w v x L := by
 obtain ⟨g0, g1, g2, g3, h0, h1, h2, h3, s0, s1, s2, s3, t, r0, r1, r2, r3, u, rfl, a, b⟩ := h
 exact .mk (a.mono hl) (b.mono hl)
theorem RdWv.open {w : World} {v : Value} {x : W4} {K : Nat} (h : RdWv w v x K) : ∃ g0 A0 k0 c0 g1 A1 k1 c1 g2 A2 k2 c2 g3 A3 k3 c3 B m e h0 C0 l0 d0 h1 C1 l1 d1 h2 C2 l2 d2 h3 C3 l3 d3 E i f,
  v = .agg #[.bool g0, .slice A0 k0 c0, .bool g1, .slice A1 k1 c1, .bool g2, .slice A2 k2 c2, .bool g3, .slice A3 k3 c3, .slice B m e, .bool h0, .slice C0 l0 d0, .bool h1, .slice C1 l1 d1, .bool h2, .slice C2 l2 d2, .bool h3, .slice C3 l3 d3, .slice E i f] ∧
  RdWv w (.agg #[.bool g0, .slice A0 k0 c0, .bool g1, .slice A1 k1 c1, .bool g2, .slice A2 k2 c2, .bool g3, .slice A3 k3 c3, .slice B m e, .bool h0, .slice C0 l0 d0, .bool h1, .slice C1 l1 d1, .bool h2, .slice C2 l2 d2, .bool h3, .slice C3 l3 d3, .slice E i f]) x K := by
 obtain ⟨a0, a1, a2, a3, b0, b1, b2, b3, s0, s1, s2, s3, t, r0, r1, r2, r3, u, rfl, h, k⟩ := h
 obtain ⟨_, _, _, _, _, _, _, _, _, _, _, _, _, _, _, _, _, _, _, e, h⟩ := h.open
 obtain ⟨_, _, _, _, _, _, _, _, _, _, _, _, _, _, _, _, _, _, _, e2, k⟩ := k.open
 injection e with e; injection e with e; simp at e
 injection e2 with e2; injection e2 with e2; simp at e2
 obtain ⟨rfl, rfl, rfl, rfl, rfl, rfl, rfl, rfl, rfl⟩ := e
 obtain ⟨rfl, rfl, rfl, rfl, rfl, rfl, rfl, rfl, rfl⟩ := e2
 exact ⟨_, _, _, _, _, _, _, _, _, _, _, _, _, _, _, _, _, _, _, _, _, _, _, _, _, _, _, _, _, _, _, _, _, _, _, _, _, _, rfl, .mk h k⟩
theorem RdWv.parts {w : World} {x : W4} {K : Nat} {g0 g1 g2 g3 h0 h1 h2 h3 : Bool} {s0 s1 s2 s3 t r0 r1 r2 r3 u : Value} (h : RdWv w (.agg #[.bool g0, s0, .bool g1, s1, .bool g2, s2, .bool g3, s3, t, .bool h0, r0, .bool h1, r1, .bool h2, r2, .bool h3, r3, u]) x K) :
  RdS w (.agg #[.bool g0, s0, .bool g1, s1, .bool g2, s2, .bool g3, s3, t]) x.re K ∧ RdS w (.agg #[.bool h0, r0, .bool h1, r1, .bool h2, r2, .bool h3, r3, u]) x.im K := by
 obtain ⟨a0, a1, a2, a3, b0, b1, b2, b3, p0, p1, p2, p3, t', q0, q1, q2, q3, u', e, h, k⟩ := h
 injection e with e; injection e with e; simp at e
 obtain ⟨rfl, rfl, rfl, rfl, rfl, rfl, rfl, rfl, rfl, rfl, rfl, rfl, rfl, rfl, rfl, rfl, rfl, rfl⟩ := e
 exact ⟨h, k⟩
theorem turn_any (k : Int) (w : World) (h1 : -1000000 ≤ k) (h2 : k ≤ 1000000) :
  Calls Tryz.prog 46 #[.int .i64 k] w fun e w' => (∃ v', e = .returned v' ∧ RdWv w' v' (turn k) (3)) ∧ Below w.heap.size w w' := by
 obtain ⟨j, hj⟩ : ∃ j : Nat, (j : Int) = k % 24 := ⟨(k % 24).toNat, by omega⟩
 obtain ⟨i, hi⟩ : ∃ i : Nat, (i : Int) = ((j : Int) - 6) % 24 := ⟨(((j : Int) - 6) % 24).toNat, by omega⟩
 have HP1 : Hid (∀ w, Calls Tryz.prog 134 #[.int .i64 (k)] w fun e w' => e = .returned (.int .i64 (j : Int)) ∧ w' = w) := fun w => by rw [hj]; exact place_any k w h1 h2
 have HP2 : Hid (∀ w, Calls Tryz.prog 134 #[.int .i64 ((j : Int) - 6)] w fun e w' => e = .returned (.int .i64 (i : Int)) ∧ w' = w) := fun w => by rw [hi]; exact place_any _ w (by omega) (by omega)
 have hw : IntKind.i64.wrap ((j : Int) - 6) = (j : Int) - 6 := IntWalk.i64_in _ (by omega)
 have HJ : Hid (j < 24) := by show j < 24; omega
 have HI : Hid (i < 24) := by show i < 24; omega
 have HT1 : Hid (cosN j = (turn k).re) := by show _ = cosN (k % 24).toNat; congr 1; omega
 have HT2 : Hid (cosN i = (turn k).im) := by show _ = cosN (((k % 24).toNat + 18) % 24); congr 1; omega
 clear hj hi h1 h2
 go_enter Tryz.func46, Tryz.ntmps46
 obtain ⟨W1, HW1, HB2, s1w, j1⟩ := st_al0 w #[.bool false, .slice none 0 0, .bool false, .slice none 0 0, .bool false, .slice none 0 0, .bool false, .slice none 0 0, .slice none 0 0, .bool false, .slice none 0 0, .bool false, .slice none 0 0, .bool false, .slice none 0 0, .bool false, .slice none 0 0, .slice none 0 0] 88
 have l2b : Hid (w.heap.size ≤ w.heap.size) := by show _ ≤ _; omega
 have HBw := h0d j1
 go_wp2_with fail
 rw [← HW1.out]
 refine (HP1.out _).mono ?_
 rintro e w1 ⟨rfl, hwx⟩
 obtain rfl := hwx.symm
 go_wp2_with fail
 refine mS (cosine_any j _ HJ.out) fun w2 g2a A2a k2a c2a g2b A2b k2b c2b g2c A2c k2c c2c g2d A2d k2d c2d A2e k2e c2e HR2 j2c => ?_
 go_wp2_with fail
 refine (HP2.out _).mono ?_
 rintro e w3 ⟨rfl, hwx⟩
 obtain rfl := hwx.symm
 go_wp2_with fail
 refine mS (cosine_any i _ HI.out) fun w4 g4a A4a k4a c4a g4b A4b k4b c4b g4c A4c k4c c4c g4d A4d k4d c4d A4e k4e c4e HR4 j4c => ?_
 have jm1 := tt j2c j4c
 replace HB2 := kB HB2 jm1
 have t3h := kth 0 18 HB2
 obtain ⟨W4, HW4⟩ : ∃ W, Hid (W = w4.setCells (w.heap.size) 0 [.bool g2a, .slice A2a k2a c2a, .bool g2b, .slice A2b k2b c2b, .bool g2c, .slice A2c k2c c2c, .bool g2d, .slice A2d k2d c2d, .slice A2e k2e c2e, .bool g4a, .slice A4a k4a c4a, .bool g4b, .slice A4b k4b c4b, .bool g4c, .slice A4c k4c c4c, .bool g4d, .slice A4d k4d c4d, .slice A4e k4e c4e]) := ⟨_, rfl⟩
 have TW4 := kN (kM HW4) HB2 rfl rfl
 replace HB2 := kP (ds := [.bool g2a, .slice A2a k2a c2a, .bool g2b, .slice A2b k2b c2b, .bool g2c, .slice A2c k2c c2c, .bool g2d, .slice A2d k2d c2d, .slice A2e k2e c2e, .bool g4a, .slice A4a k4a c4a, .bool g4b, .slice A4b k4b c4b, .bool g4c, .slice A4c k4c c4c, .bool g4d, .slice A4d k4d c4d, .slice A4e k4e c4e]) (kM HW4) HB2 rfl rfl
 go_wp2_with (refine smd 88 (w.heap.size) 0 (ht := by exact t3h) (h := ?_))
 rw [← HW4.out]
 clear t3h
 replace HR2 := kW TW4 (kV j4c HR2)
 replace HR4 := kW TW4 HR4
 replace HBw := kS (kM HW4) l2b (kU HBw jm1)
 exact bodyPost_ret (results_cell rfl (by rfl) (blk_all HB2.out) Tryz.underlying88 rfl (by kernel_rfl)) rfl ⟨⟨_, rfl, (show RdWv _ _ (turn k) 3 from RdWv.mk (x := turn k) (by rw [← HT1.out]; exact HR2.out) (by rw [← HT2.out]; exact HR4.out))⟩, HBw.out⟩
theorem re_any (v : Value) (x : W4) (Ks : Nat) (w : World) (hv : RdWv w v x Ks) :
  Calls Tryz.prog 144 #[v] w fun e w' => (∃ v', e = .returned v' ∧ RdS w' v' (x.re) (Ks)) ∧ Below w.heap.size w w' := by
 obtain ⟨gp0a, Ap0a, kp0a, cp0a, gp0b, Ap0b, kp0b, cp0b, gp0c, Ap0c, kp0c, cp0c, gp0d, Ap0d, kp0d, cp0d, Ap0e, kp0e, cp0e, gp0f, Ap0f, kp0f, cp0f, gp0g, Ap0g, kp0g, cp0g, gp0h, Ap0h, kp0h, cp0h, gp0i, Ap0i, kp0i, cp0i, Ap0j, kp0j, cp0j, rfl, hv⟩ := hv.open
 have HX0 := h0d hv
 clear hv
 go_enter Tryz.func144, Tryz.ntmps144
 obtain ⟨W1, HW1, HB2, s1w, j1⟩ := st_al0 w #[.bool gp0a, .slice Ap0a kp0a cp0a, .bool gp0b, .slice Ap0b kp0b cp0b, .bool gp0c, .slice Ap0c kp0c cp0c, .bool gp0d, .slice Ap0d kp0d cp0d, .slice Ap0e kp0e cp0e, .bool gp0f, .slice Ap0f kp0f cp0f, .bool gp0g, .slice Ap0g kp0g cp0g, .bool gp0h, .slice Ap0h kp0h cp0h, .bool gp0i, .slice Ap0i kp0i cp0i, .slice Ap0j kp0j cp0j] 88
 have HBw := h0d j1
 obtain ⟨W3, HW3, HB4, s3w, j2⟩ := st_alk 1 2 #[.bool gp0a, .slice Ap0a kp0a cp0a, .bool gp0b, .slice Ap0b kp0b cp0b, .bool gp0c, .slice Ap0c kp0c cp0c, .bool gp0d, .slice Ap0d kp0d cp0d, .slice Ap0e kp0e cp0e] 30 s1w rfl
 go_wp2_with fail
 rw [← HW1.out, ← HW3.out]
 replace HBw := kU HBw j2
 replace HX0 := kV HBw.out HX0
 exact bodyPost_ret (results_cell rfl (by rfl) (blk_all HB4.out) Tryz.underlying30 rfl (by kernel_rfl)) rfl ⟨⟨_, rfl, HX0.out.parts.1⟩, HBw.out⟩
end Go.Proofs.YtodckaioeomccaaGreat
namespace Go.Proofs.YtodckaioeomccaaGreat
open Go.RowKit Go.Proofs.S4P
set_option linter.unusedVariables false
set_option linter.unusedSimpArgs false
set_option maxRecDepth 100000
set_option maxHeartbeats 4000000
end Go.Proofs.YtodckaioeomccaaGreat
namespace Go.Proofs.YtodckaioeomccaaGreat
open Go.RowKit
set_option linter.unusedVariables false
theorem box_new (w1 : World) (t : TypeId) {z cs : List Value} {n : Nat} (hz : z.length = n) (hl : cs.length = n) :
  (w1.alloc (.cells z.toArray t)).there w1.heap.size 0 n ∧
  ∃ W, Hid (W = (w1.alloc (.cells z.toArray t)).setCells w1.heap.size 0 cs) ∧ Hid (W.heap[w1.heap.size]? = some (.cells cs.toArray t (0, 0))) ∧ Below w1.heap.size w1 W := by
 obtain ⟨W0, h0, hb, hs, j⟩ := st_al0 w1 z.toArray t
 rw [← h0.out]
 obtain ⟨W, hW⟩ : ∃ W, Hid (W = W0.setCells w1.heap.size 0 cs) := ⟨_, rfl⟩
 refine ⟨blk_there hb.out (by simp [hz]), W, hW, ?_, ?_⟩
 ·refine kP (kM hW) (cs := z) hb (Nat.ble_eq_true_of_le (by omega)) ?_
  unfold putL
  rw [List.take_zero, List.nil_append, Nat.zero_add, hl, ← hz, List.drop_length, List.append_nil]
 ·exact (kS (a := w1) (kM hW) (Nat.le_refl _) (kU (h0d (Below.refl _ w1)) j)).out
theorem wpList_load_midG {P : Program} {ops : Array Oper} {rest : List Oper} {op : Oper} {a : Act} {w : World} {Q : Exit → Act → World → Prop} (hw : Region.wanted op (yielded ops a.tmps) = true) (ty : TypeId) (x : Operand) (ho : op.op = .load ty x)
  (b o : Nat) (hx : a.eval x = .pointer (some ⟨b, o, none⟩)) (cs : List Value) (d : TypeDesc) (hc : w.rangeAt b o cs) (hu : P.underlying ty = some d) (hd : d.isRow = true) (hi : (P.info? ty).map (·.size) = some cs.length)
  (h : wpList P ops Q rest (a.put op.dst (.agg cs.toArray)) w) : wpList P ops Q (op :: rest) a w :=
 wpList_step fun K hK => by simp only [hw, if_true]; exact wp_load_mid ty x ho b o hx cs d hc hu hd hi (hK _ _ h)
end Go.Proofs.YtodckaioeomccaaGreat
