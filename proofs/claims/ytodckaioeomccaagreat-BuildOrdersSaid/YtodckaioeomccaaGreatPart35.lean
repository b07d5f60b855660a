/- Walks of numbers with roots: Neg, Add, Sub, product, Mul, Zero, Same, Of. Stores of many cells at once: by the kit's law, without unrolling. -/
import Derived.Test.YtodckaioeomccaaGreatPart34
import Derived.Deep.MidRow
namespace Go.Proofs.YtodckaioeomccaaGreat
open Go.RowKit Go.Proofs.S4P
set_option linter.unusedVariables false
set_option linter.unusedSimpArgs false
theorem dl_add2 {a b : Int} {K : Nat} (ha : dl a.natAbs ≤ K) (hb : dl b.natAbs ≤ K) : dl (a + b).natAbs ≤ K + 1 := by have := dl_two a b; omega
theorem dl_muln {a : Int} {b K L : Nat} (ha : dl a.natAbs ≤ K) (hb : dl b ≤ L) : dl (a * b).natAbs ≤ K + L := by have := dl_imul a b; omega
theorem Sx.neg {x : S4} {n0 n1 n2 n3 : Int} {d K : Nat} (h : Sx x n0 n1 n2 n3 d K) : Sx x.neg (-n0) (-n1) (-n2) (-n3) d K := by
  obtain ⟨k0, ⟨a, b, c, e⟩, ⟨p, q, r, s⟩, t⟩ := h
  refine ⟨k0, ⟨?_, ?_, ?_, ?_⟩, ⟨by rw [Int.natAbs_neg]; exact p, by rw [Int.natAbs_neg]; exact q, by rw [Int.natAbs_neg]; exact r, by rw [Int.natAbs_neg]; exact s⟩, t⟩
  all_goals (simp only [S4.neg, Rat.intCast_neg]; grind)
theorem Sx.add {x y : S4} {n0 n1 n2 n3 m0 m1 m2 m3 : Int} {d e K L : Nat} (h : Sx x n0 n1 n2 n3 d K) (k : Sx y m0 m1 m2 m3 e L) : Sx (x.add y) (n0 * e + m0 * d) (n1 * e + m1 * d) (n2 * e + m2 * d) (n3 * e + m3 * d) (d * e) (K + L + 1) := by
  obtain ⟨k0, ⟨a, b, c, e0⟩, ⟨p, q, r, s⟩, t⟩ := h
  obtain ⟨k0', ⟨a', b', c', e0'⟩, ⟨p', q', r', s'⟩, t'⟩ := k
  refine ⟨Nat.mul_ne_zero k0 k0', ⟨?_, ?_, ?_, ?_⟩, ⟨?_, ?_, ?_, ?_⟩, ?_⟩
  · simp only [S4.add, Rat.natCast_mul, Rat.intCast_add, Rat.intCast_mul, Rat.intCast_natCast, ← a, ← a']; grind
  · simp only [S4.add, Rat.natCast_mul, Rat.intCast_add, Rat.intCast_mul, Rat.intCast_natCast, ← b, ← b']; grind
  · simp only [S4.add, Rat.natCast_mul, Rat.intCast_add, Rat.intCast_mul, Rat.intCast_natCast, ← c, ← c']; grind
  · simp only [S4.add, Rat.natCast_mul, Rat.intCast_add, Rat.intCast_mul, Rat.intCast_natCast, ← e0, ← e0']; grind
  · exact dl_add2 (dl_muln p t') (by have := dl_muln p' t; omega)
  · exact dl_add2 (dl_muln q t') (by have := dl_muln q' t; omega)
  · exact dl_add2 (dl_muln r t') (by have := dl_muln r' t; omega)
  · exact dl_add2 (dl_muln s t') (by have := dl_muln s' t; omega)
  · have := dl_mul d e; omega
set_option maxRecDepth 100000 in
set_option maxHeartbeats 4000000 in
theorem snegS_any (v : Value) (x : S4) (K : Nat) (w : World) (hv : RdS w v x K) :
    Calls Tryz.prog 207 #[v] w fun e w' => (∃ v', e = .returned v' ∧ RdS w' v' (x.neg) (K)) ∧ Below w.heap.size w w' := by
  obtain ⟨n0, n1, n2, n3, d, hv, hxx⟩ := hv
  have HSx := Lib.hid hxx
  clear hxx
  obtain ⟨gp0a, Ap0a, kp0a, cp0a, gp0b, Ap0b, kp0b, cp0b, gp0c, Ap0c, kp0c, cp0c, gp0d, Ap0d, kp0d, cp0d, Ap0e, kp0e, cp0e, rfl, hv⟩ := hv.open
  have HX0 := Lib.hid hv
  clear hv
  go_enter Tryz.func207, Tryz.ntmps207
  obtain ⟨W1, HW1, HB2, HSZ_W1, hbx⟩ := st_al0 w #[Value.bool gp0a, Value.slice Ap0a kp0a cp0a, Value.bool gp0b, Value.slice Ap0b kp0b cp0b, Value.bool gp0c, Value.slice Ap0c kp0c cp0c, Value.bool gp0d, Value.slice Ap0d kp0d cp0d, Value.slice Ap0e kp0e cp0e] 30
  have HLE_B2 : Hid (w.heap.size ≤ w.heap.size) := by show _ ≤ _; omega
  have hT := Wd.of_below hbx
  replace HX0 := kW hT HX0
  clear hT
  have HBw := Lib.hid hbx
  clear hbx
  obtain ⟨W3, HW3, HB4, HSZ_W3, hbx⟩ := st_alk 1 2 #[Value.bool false, Value.slice none 0 0, Value.bool false, Value.slice none 0 0, Value.bool false, Value.slice none 0 0, Value.bool false, Value.slice none 0 0, Value.slice none 0 0] 30 HSZ_W1 rfl
  have HNE_B2_B4 : Hid (w.heap.size ≠ w.heap.size + 1) := by show _ ≠ _; have hlt := blk_lt HB2.out; omega
  replace HB2 := kB HB2 hbx
  have HLE_B4 : Hid (w.heap.size ≤ w.heap.size + 1) := by show _ ≤ _; have hlt := HBw.out.size; omega
  have hT := Wd.of_below hbx
  replace HX0 := kW hT HX0
  clear hT
  replace HBw := kU HBw hbx
  clear hbx
  go_wp2_with fail
  rw [← HW1.out, ← HW3.out]
  refine wp_loop_rounds 5 ?_
  rw [rounds_succ]
  have c5 := kC HB2 0 rfl
  have c6 := kC HB2 1 rfl
  go_wp2_with fail
  clear c5 c6
  refine (iminus_any _ n0 _ HX0.out.z0).mono ?_
  rintro e w1 ⟨⟨vx, rfl, hr⟩, hbx⟩
  obtain ⟨g1a, A1a, k1a, c1a, rfl, hr⟩ := hr.open
  replace HB2 := kB HB2 hbx
  replace HB4 := kB HB4 hbx
  have hT := Wd.of_below hbx
  replace HX0 := kW hT HX0
  clear hT
  replace HBw := kU HBw hbx
  have HR1 := Lib.hid hr
  clear hr
  clear hbx
  have c7 := kC HB2 0 rfl
  have c8 := kF HB2 0
  have c9 := kC HB2 1 rfl
  have c10 := kF HB2 1
  obtain ⟨W11, HW11⟩ : ∃ W, Hid (W = ((w1.setCell ⟨w.heap.size, 0, none⟩ (Value.bool g1a)).setCell ⟨w.heap.size, 1, none⟩ (Value.slice A1a k1a c1a))) := ⟨_, rfl⟩
  have hS : W11 = setsW w1 (w.heap.size) 0 [Value.bool g1a, Value.slice A1a k1a c1a] := HW11.out
  have hT := kN hS HB2 rfl rfl
  replace HX0 := kW hT HX0
  replace HR1 := kW hT HR1
  clear hT
  replace HB2 := kP (ds := [Value.bool g1a, Value.slice A1a k1a c1a, Value.bool gp0b, Value.slice Ap0b kp0b cp0b, Value.bool gp0c, Value.slice Ap0c kp0c cp0c, Value.bool gp0d, Value.slice Ap0d kp0d cp0d, Value.slice Ap0e kp0e cp0e]) hS HB2 rfl rfl
  replace HB4 := kO hS HB4 HNE_B2_B4.out.symm
  replace HBw := kS hS HLE_B2 HBw
  clear hS
  go_wp2_with fail
  rw [← HW11.out]
  clear c7 c8 c9 c10
  rw [rounds_succ]
  have c12 := kC HB2 2 rfl
  have c13 := kC HB2 3 rfl
  go_wp2_with fail
  clear c12 c13
  refine (iminus_any _ n1 _ HX0.out.z1).mono ?_
  rintro e w2 ⟨⟨vx, rfl, hr⟩, hbx⟩
  obtain ⟨g2a, A2a, k2a, c2a, rfl, hr⟩ := hr.open
  replace HB2 := kB HB2 hbx
  replace HB4 := kB HB4 hbx
  have hT := Wd.of_below hbx
  replace HX0 := kW hT HX0
  replace HR1 := kW hT HR1
  clear hT
  replace HBw := kU HBw hbx
  have HR2 := Lib.hid hr
  clear hr
  clear hbx
  have c14 := kC HB2 2 rfl
  have c15 := kF HB2 2
  have c16 := kC HB2 3 rfl
  have c17 := kF HB2 3
  obtain ⟨W18, HW18⟩ : ∃ W, Hid (W = ((w2.setCell ⟨w.heap.size, 2, none⟩ (Value.bool g2a)).setCell ⟨w.heap.size, 3, none⟩ (Value.slice A2a k2a c2a))) := ⟨_, rfl⟩
  have hS : W18 = setsW w2 (w.heap.size) 2 [Value.bool g2a, Value.slice A2a k2a c2a] := HW18.out
  have hT := kN hS HB2 rfl rfl
  replace HX0 := kW hT HX0
  replace HR1 := kW hT HR1
  replace HR2 := kW hT HR2
  clear hT
  replace HB2 := kP (ds := [Value.bool g1a, Value.slice A1a k1a c1a, Value.bool g2a, Value.slice A2a k2a c2a, Value.bool gp0c, Value.slice Ap0c kp0c cp0c, Value.bool gp0d, Value.slice Ap0d kp0d cp0d, Value.slice Ap0e kp0e cp0e]) hS HB2 rfl rfl
  replace HB4 := kO hS HB4 HNE_B2_B4.out.symm
  replace HBw := kS hS HLE_B2 HBw
  clear hS
  go_wp2_with fail
  rw [← HW18.out]
  clear c14 c15 c16 c17
  rw [rounds_succ]
  have c19 := kC HB2 4 rfl
  have c20 := kC HB2 5 rfl
  go_wp2_with fail
  clear c19 c20
  refine (iminus_any _ n2 _ HX0.out.z2).mono ?_
  rintro e w3 ⟨⟨vx, rfl, hr⟩, hbx⟩
  obtain ⟨g3a, A3a, k3a, c3a, rfl, hr⟩ := hr.open
  replace HB2 := kB HB2 hbx
  replace HB4 := kB HB4 hbx
  have hT := Wd.of_below hbx
  replace HX0 := kW hT HX0
  replace HR1 := kW hT HR1
  replace HR2 := kW hT HR2
  clear hT
  replace HBw := kU HBw hbx
  have HR3 := Lib.hid hr
  clear hr
  clear hbx
  have c21 := kC HB2 4 rfl
  have c22 := kF HB2 4
  have c23 := kC HB2 5 rfl
  have c24 := kF HB2 5
  obtain ⟨W25, HW25⟩ : ∃ W, Hid (W = ((w3.setCell ⟨w.heap.size, 4, none⟩ (Value.bool g3a)).setCell ⟨w.heap.size, 5, none⟩ (Value.slice A3a k3a c3a))) := ⟨_, rfl⟩
  have hS : W25 = setsW w3 (w.heap.size) 4 [Value.bool g3a, Value.slice A3a k3a c3a] := HW25.out
  have hT := kN hS HB2 rfl rfl
  replace HX0 := kW hT HX0
  replace HR1 := kW hT HR1
  replace HR2 := kW hT HR2
  replace HR3 := kW hT HR3
  clear hT
  replace HB2 := kP (ds := [Value.bool g1a, Value.slice A1a k1a c1a, Value.bool g2a, Value.slice A2a k2a c2a, Value.bool g3a, Value.slice A3a k3a c3a, Value.bool gp0d, Value.slice Ap0d kp0d cp0d, Value.slice Ap0e kp0e cp0e]) hS HB2 rfl rfl
  replace HB4 := kO hS HB4 HNE_B2_B4.out.symm
  replace HBw := kS hS HLE_B2 HBw
  clear hS
  go_wp2_with fail
  rw [← HW25.out]
  clear c21 c22 c23 c24
  rw [rounds_succ]
  have c26 := kC HB2 6 rfl
  have c27 := kC HB2 7 rfl
  go_wp2_with fail
  clear c26 c27
  refine (iminus_any _ n3 _ HX0.out.z3).mono ?_
  rintro e w4 ⟨⟨vx, rfl, hr⟩, hbx⟩
  obtain ⟨g4a, A4a, k4a, c4a, rfl, hr⟩ := hr.open
  replace HB2 := kB HB2 hbx
  replace HB4 := kB HB4 hbx
  have hT := Wd.of_below hbx
  replace HX0 := kW hT HX0
  replace HR1 := kW hT HR1
  replace HR2 := kW hT HR2
  replace HR3 := kW hT HR3
  clear hT
  replace HBw := kU HBw hbx
  have HR4 := Lib.hid hr
  clear hr
  clear hbx
  have c28 := kC HB2 6 rfl
  have c29 := kF HB2 6
  have c30 := kC HB2 7 rfl
  have c31 := kF HB2 7
  obtain ⟨W32, HW32⟩ : ∃ W, Hid (W = ((w4.setCell ⟨w.heap.size, 6, none⟩ (Value.bool g4a)).setCell ⟨w.heap.size, 7, none⟩ (Value.slice A4a k4a c4a))) := ⟨_, rfl⟩
  have hS : W32 = setsW w4 (w.heap.size) 6 [Value.bool g4a, Value.slice A4a k4a c4a] := HW32.out
  have hT := kN hS HB2 rfl rfl
  replace HX0 := kW hT HX0
  replace HR1 := kW hT HR1
  replace HR2 := kW hT HR2
  replace HR3 := kW hT HR3
  replace HR4 := kW hT HR4
  clear hT
  replace HB2 := kP (ds := [Value.bool g1a, Value.slice A1a k1a c1a, Value.bool g2a, Value.slice A2a k2a c2a, Value.bool g3a, Value.slice A3a k3a c3a, Value.bool g4a, Value.slice A4a k4a c4a, Value.slice Ap0e kp0e cp0e]) hS HB2 rfl rfl
  replace HB4 := kO hS HB4 HNE_B2_B4.out.symm
  replace HBw := kS hS HLE_B2 HBw
  clear hS
  go_wp2_with fail
  rw [← HW32.out]
  clear c28 c29 c30 c31
  rw [rounds_succ]
  have c33 := kC HB2 0 rfl
  have c34 := kC HB2 1 rfl
  have c35 := kC HB2 2 rfl
  have c36 := kC HB2 3 rfl
  have c37 := kC HB2 4 rfl
  have c38 := kC HB2 5 rfl
  have c39 := kC HB2 6 rfl
  have c40 := kC HB2 7 rfl
  have c41 := kC HB2 8 rfl
  have c42 := kC HB4 0 rfl
  have c43 := kF HB4 0
  have c44 := kC HB4 1 rfl
  have c45 := kF HB4 1
  have c46 := kC HB4 2 rfl
  have c47 := kF HB4 2
  have c48 := kC HB4 3 rfl
  have c49 := kF HB4 3
  have c50 := kC HB4 4 rfl
  have c51 := kF HB4 4
  have c52 := kC HB4 5 rfl
  have c53 := kF HB4 5
  have c54 := kC HB4 6 rfl
  have c55 := kF HB4 6
  have c56 := kC HB4 7 rfl
  have c57 := kF HB4 7
  have c58 := kC HB4 8 rfl
  have c59 := kF HB4 8
  obtain ⟨W60, HW60⟩ : ∃ W, Hid (W = (((((((((W32.setCell ⟨w.heap.size + 1, 0, none⟩ (Value.bool g1a)).setCell ⟨w.heap.size + 1, 1, none⟩ (Value.slice A1a k1a c1a)).setCell ⟨w.heap.size + 1, 2, none⟩ (Value.bool g2a)).setCell ⟨w.heap.size + 1, 3, none⟩ (Value.slice A2a k2a c2a)).setCell ⟨w.heap.size + 1, 4, none⟩ (Value.bool g3a)).setCell ⟨w.heap.size + 1, 5, none⟩ (Value.slice A3a k3a c3a)).setCell ⟨w.heap.size + 1, 6, none⟩ (Value.bool g4a)).setCell ⟨w.heap.size + 1, 7, none⟩ (Value.slice A4a k4a c4a)).setCell ⟨w.heap.size + 1, 8, none⟩ (Value.slice Ap0e kp0e cp0e))) := ⟨_, rfl⟩
  have hS : W60 = setsW W32 (w.heap.size + 1) 0 [Value.bool g1a, Value.slice A1a k1a c1a, Value.bool g2a, Value.slice A2a k2a c2a, Value.bool g3a, Value.slice A3a k3a c3a, Value.bool g4a, Value.slice A4a k4a c4a, Value.slice Ap0e kp0e cp0e] := HW60.out
  have hT := kN hS HB4 rfl rfl
  replace HX0 := kW hT HX0
  replace HR1 := kW hT HR1
  replace HR2 := kW hT HR2
  replace HR3 := kW hT HR3
  replace HR4 := kW hT HR4
  clear hT
  replace HB2 := kO hS HB2 HNE_B2_B4.out
  replace HB4 := kP (ds := [Value.bool g1a, Value.slice A1a k1a c1a, Value.bool g2a, Value.slice A2a k2a c2a, Value.bool g3a, Value.slice A3a k3a c3a, Value.bool g4a, Value.slice A4a k4a c4a, Value.slice Ap0e kp0e cp0e]) hS HB4 rfl rfl
  replace HBw := kS hS HLE_B4 HBw
  clear hS
  go_wp2_with fail
  rw [← HW60.out]
  clear c33 c34 c35 c36 c37 c38 c39 c40 c41 c42 c43 c44 c45 c46 c47 c48 c49 c50 c51 c52 c53 c54 c55 c56 c57 c58 c59
  have c61 := kC HB4 0 rfl
  have c62 := kC HB4 1 rfl
  have c63 := kC HB4 2 rfl
  have c64 := kC HB4 3 rfl
  have c65 := kC HB4 4 rfl
  have c66 := kC HB4 5 rfl
  have c67 := kC HB4 6 rfl
  have c68 := kC HB4 7 rfl
  have c69 := kC HB4 8 rfl
  exact bodyPost_ret (v := .agg #[Value.bool g1a, Value.slice A1a k1a c1a, Value.bool g2a, Value.slice A2a k2a c2a, Value.bool g3a, Value.slice A3a k3a c3a, Value.bool g4a, Value.slice A4a k4a c4a, Value.slice Ap0e kp0e cp0e]) (by simp [results, Tryz.results207, go_sem, c61, c62, c63, c64, c65, c66, c67, c68, c69]) rfl ⟨⟨_, rfl, (show RdS _ _ x.neg K from ⟨_, _, _, _, _, RdSn.mk HR1.out HR2.out HR3.out HR4.out HX0.out.den, HSx.out.neg⟩)⟩, HBw.out⟩
set_option maxRecDepth 100000 in
set_option maxHeartbeats 4000000 in
theorem saddS_any (v u : Value) (x y : S4) (K L : Nat) (w : World) (hv : RdS w v x K) (hu : RdS w u y L) (hK : K ≤ 100000) (hL : L ≤ 100000) :
    Calls Tryz.prog 133 #[v, u] w fun e w' => (∃ v', e = .returned v' ∧ RdS w' v' (x.add y) (K + L + 1)) ∧ Below w.heap.size w w' := by
  obtain ⟨n0, n1, n2, n3, d, hv, hxx⟩ := hv
  have HSx := Lib.hid hxx
  clear hxx
  obtain ⟨m0, m1, m2, m3, e, hu, hxy⟩ := hu
  have HSy := Lib.hid hxy
  clear hxy
  obtain ⟨gp0a, Ap0a, kp0a, cp0a, gp0b, Ap0b, kp0b, cp0b, gp0c, Ap0c, kp0c, cp0c, gp0d, Ap0d, kp0d, cp0d, Ap0e, kp0e, cp0e, rfl, hv⟩ := hv.open
  have HX0 := Lib.hid hv
  clear hv
  obtain ⟨gp1a, Ap1a, kp1a, cp1a, gp1b, Ap1b, kp1b, cp1b, gp1c, Ap1c, kp1c, cp1c, gp1d, Ap1d, kp1d, cp1d, Ap1e, kp1e, cp1e, rfl, hu⟩ := hu.open
  have HX1 := Lib.hid hu
  clear hu
  go_enter Tryz.func133, Tryz.ntmps133
  obtain ⟨W1, HW1, HB2, HSZ_W1, hbx⟩ := st_al0 w #[Value.bool gp0a, Value.slice Ap0a kp0a cp0a, Value.bool gp0b, Value.slice Ap0b kp0b cp0b, Value.bool gp0c, Value.slice Ap0c kp0c cp0c, Value.bool gp0d, Value.slice Ap0d kp0d cp0d, Value.slice Ap0e kp0e cp0e] 30
  have hT := Wd.of_below hbx
  replace HX0 := kW hT HX0
  replace HX1 := kW hT HX1
  clear hT
  have HBw := Lib.hid hbx
  clear hbx
  obtain ⟨W3, HW3, HB4, HSZ_W3, hbx⟩ := st_alk 1 2 #[Value.bool gp1a, Value.slice Ap1a kp1a cp1a, Value.bool gp1b, Value.slice Ap1b kp1b cp1b, Value.bool gp1c, Value.slice Ap1c kp1c cp1c, Value.bool gp1d, Value.slice Ap1d kp1d cp1d, Value.slice Ap1e kp1e cp1e] 30 HSZ_W1 rfl
  replace HB2 := kB HB2 hbx
  have hT := Wd.of_below hbx
  replace HX0 := kW hT HX0
  replace HX1 := kW hT HX1
  clear hT
  replace HBw := kU HBw hbx
  clear hbx
  obtain ⟨W5, HW5, HB6, HSZ_W5, hbx⟩ := st_alk 2 3 #[Value.bool false, Value.slice none 0 0, Value.bool false, Value.slice none 0 0, Value.bool false, Value.slice none 0 0, Value.bool false, Value.slice none 0 0, Value.slice none 0 0] 30 HSZ_W3 rfl
  have HNE_B2_B6 : Hid (w.heap.size ≠ w.heap.size + 2) := by show _ ≠ _; have hlt := blk_lt HB2.out; omega
  replace HB2 := kB HB2 hbx
  have HNE_B4_B6 : Hid (w.heap.size + 1 ≠ w.heap.size + 2) := by show _ ≠ _; have hlt := blk_lt HB4.out; omega
  replace HB4 := kB HB4 hbx
  have HLE_B6 : Hid (w.heap.size ≤ w.heap.size + 2) := by show _ ≤ _; have hlt := HBw.out.size; omega
  have hT := Wd.of_below hbx
  replace HX0 := kW hT HX0
  replace HX1 := kW hT HX1
  clear hT
  replace HBw := kU HBw hbx
  clear hbx
  go_wp2_with fail
  rw [← HW1.out, ← HW3.out, ← HW5.out]
  obtain ⟨W7, hW7⟩ : ∃ W, W = W5.drew := ⟨_, rfl⟩
  have hbx : Below W5.heap.size W5 W7 := by rw [hW7]; exact (Below.refl _ _).drew
  replace HB2 := kB HB2 hbx
  replace HB4 := kB HB4 hbx
  replace HB6 := kB HB6 hbx
  have hT := Wd.of_below hbx
  replace HX0 := kW hT HX0
  replace HX1 := kW hT HX1
  clear hT
  replace HBw := kU HBw hbx
  clear hbx
  refine seq_start (S := fun w' => w'.cell? ⟨w.heap.size, 8, none⟩ = some (Value.slice Ap0e kp0e cp0e) ∧ w'.cell? ⟨w.heap.size + 1, 8, none⟩ = some (Value.slice Ap1e kp1e cp1e)) (by kernel_rfl) (by kernel_rfl) (by rw [← hW7]; exact ⟨kD HB2 8, kD HB4 8⟩) ?_
  rw [← hW7]
  clear hW7
  iterate 2 (refine seq_take0 (v := ?_) ?_ (fun _ _ _ h => h) (by kernel_rfl) ?_ ?_; rotate_left; (focus rfl); (focus (intro w' hSw; (try dsimp only at hSw); go_simp; (try with_reducible rfl); done)); (try simp only [Act.put, List.setIfInBounds_toArray, List.set_cons_zero, List.set_cons_succ]))
  iterate 2 (refine seq_pull 1 ?_; simp only [places, pull]; (refine seq_take0 (v := ?_) ?_ (fun _ _ _ h => h) (by kernel_rfl) ?_ ?_; rotate_left; (focus rfl); (focus (intro w' hSw; (try dsimp only at hSw); go_simp; (try with_reducible rfl); done)); (try simp only [Act.put, List.setIfInBounds_toArray, List.set_cons_zero, List.set_cons_succ])))
  refine seq_op (by kernel_rfl) (by rfl) (fun K9 hK9 => ?_)
  go_simp
  refine (under_any _ d _ HSx.out.1 HX0.out.den).mono ?_
  rintro e w1 ⟨⟨vx, rfl, hr⟩, hbx⟩
  obtain ⟨A1, k1, c1, rfl, hr⟩ := hr.open
  replace HB2 := kB HB2 hbx
  replace HB4 := kB HB4 hbx
  replace HB6 := kB HB6 hbx
  have hT := Wd.of_below hbx
  replace HX0 := kW hT HX0
  replace HX1 := kW hT HX1
  clear hT
  replace HBw := kU HBw hbx
  have HR1 := Lib.hid hr
  clear hr
  clear hbx
  refine hK9.out _ _ (by exact ⟨kD HB2 8, kD HB4 8⟩) ?_
  clear hK9 K9
  (try simp only [Act.put, List.setIfInBounds_toArray, List.set_cons_zero, List.set_cons_succ])
  refine seq_op (by kernel_rfl) (by rfl) (fun K9 hK9 => ?_)
  go_simp
  refine (under_any _ e _ HSy.out.1 HX1.out.den).mono ?_
  rintro e w2 ⟨⟨vx, rfl, hr⟩, hbx⟩
  obtain ⟨A2, k2, c2, rfl, hr⟩ := hr.open
  replace HB2 := kB HB2 hbx
  replace HB4 := kB HB4 hbx
  replace HB6 := kB HB6 hbx
  have hT := Wd.of_below hbx
  replace HX0 := kW hT HX0
  replace HX1 := kW hT HX1
  replace HR1 := kW hT HR1
  clear hT
  replace HBw := kU HBw hbx
  have HR2 := Lib.hid hr
  clear hr
  clear hbx
  refine hK9.out _ _ (by exact ⟨kD HB2 8, kD HB4 8⟩) ?_
  clear hK9 K9
  (try simp only [Act.put, List.setIfInBounds_toArray, List.set_cons_zero, List.set_cons_succ])
  iterate 2 (refine seq_take0 (v := ?_) ?_ (fun _ _ _ h => h) (by kernel_rfl) ?_ ?_; rotate_left; (focus rfl); (focus (intro w' hSw; (try dsimp only at hSw); go_simp; (try with_reducible rfl); done)); (try simp only [Act.put, List.setIfInBounds_toArray, List.set_cons_zero, List.set_cons_succ]))
  refine seq_done (by kernel_rfl) ?_
  obtain ⟨W8, HW8, HB9, HSZ_W8, hbx⟩ := st_al0 w2 #[Value.bool false, Value.slice none 0 0, Value.bool false, Value.slice none 0 0, Value.bool false, Value.slice none 0 0, Value.bool false, Value.slice none 0 0] 28
  have HNE_B2_B9 : Hid (w.heap.size ≠ w2.heap.size) := by show _ ≠ _; have hlt := blk_lt HB2.out; omega
  replace HB2 := kB HB2 hbx
  have HNE_B4_B9 : Hid (w.heap.size + 1 ≠ w2.heap.size) := by show _ ≠ _; have hlt := blk_lt HB4.out; omega
  replace HB4 := kB HB4 hbx
  have HNE_B6_B9 : Hid (w.heap.size + 2 ≠ w2.heap.size) := by show _ ≠ _; have hlt := blk_lt HB6.out; omega
  replace HB6 := kB HB6 hbx
  have HLE_B9 : Hid (w.heap.size ≤ w2.heap.size) := by show _ ≤ _; have hlt := HBw.out.size; omega
  have hT := Wd.of_below hbx
  replace HX0 := kW hT HX0
  replace HX1 := kW hT HX1
  replace HR1 := kW hT HR1
  replace HR2 := kW hT HR2
  clear hT
  replace HBw := kU HBw hbx
  clear hbx
  go_wp2_with fail
  rw [← HW8.out]
  refine wp_loop_rounds 5 ?_
  rw [rounds_succ]
  go_wp2_with fail
  obtain ⟨W10, hW10⟩ : ∃ W, W = W8.drew := ⟨_, rfl⟩
  have hbx : Below W8.heap.size W8 W10 := by rw [hW10]; exact (Below.refl _ _).drew
  replace HB2 := kB HB2 hbx
  replace HB4 := kB HB4 hbx
  replace HB6 := kB HB6 hbx
  replace HB9 := kB HB9 hbx
  have hT := Wd.of_below hbx
  replace HX0 := kW hT HX0
  replace HX1 := kW hT HX1
  replace HR1 := kW hT HR1
  replace HR2 := kW hT HR2
  clear hT
  replace HBw := kU HBw hbx
  clear hbx
  refine seq_start (S := fun w' => w'.cell? ⟨w.heap.size, 0, none⟩ = some (Value.bool gp0a) ∧ w'.cell? ⟨w.heap.size, 1, none⟩ = some (Value.slice Ap0a kp0a cp0a) ∧ w'.cell? ⟨w.heap.size + 1, 0, none⟩ = some (Value.bool gp1a) ∧ w'.cell? ⟨w.heap.size + 1, 1, none⟩ = some (Value.slice Ap1a kp1a cp1a)) (by kernel_rfl) (by kernel_rfl) (by rw [← hW10]; exact ⟨kD HB2 0, kD HB2 1, kD HB4 0, kD HB4 1⟩) ?_
  rw [← hW10]
  clear hW10
  iterate 6 (refine seq_take0 (v := ?_) ?_ (fun _ _ _ h => h) (by kernel_rfl) ?_ ?_; rotate_left; (focus rfl); (focus (intro w' hSw; (try dsimp only at hSw); go_simp; (try with_reducible rfl); done)); (try simp only [Act.put, List.setIfInBounds_toArray, List.set_cons_zero, List.set_cons_succ]))
  iterate 5 (refine seq_pull 1 ?_; simp only [places, pull]; (refine seq_take0 (v := ?_) ?_ (fun _ _ _ h => h) (by kernel_rfl) ?_ ?_; rotate_left; (focus rfl); (focus (intro w' hSw; (try dsimp only at hSw); go_simp; (try with_reducible rfl); done)); (try simp only [Act.put, List.setIfInBounds_toArray, List.set_cons_zero, List.set_cons_succ])))
  refine seq_op (by kernel_rfl) (by rfl) (fun K9 hK9 => ?_)
  go_simp
  refine (scaled_any _ _ n0 e _ HX0.out.z0 HR2.out (by have := HSx.out.2.2.1.1; omega) (by have := HSy.out.2.2.2; omega)).mono ?_
  rintro e w3 ⟨⟨vx, rfl, hr⟩, hbx⟩
  obtain ⟨g3a, A3a, k3a, c3a, rfl, hr⟩ := hr.open
  replace HB2 := kB HB2 hbx
  replace HB4 := kB HB4 hbx
  replace HB6 := kB HB6 hbx
  replace HB9 := kB HB9 hbx
  have hT := Wd.of_below hbx
  replace HX0 := kW hT HX0
  replace HX1 := kW hT HX1
  replace HR1 := kW hT HR1
  replace HR2 := kW hT HR2
  clear hT
  replace HBw := kU HBw hbx
  have HR3 := Lib.hid hr
  clear hr
  clear hbx
  refine hK9.out _ _ (by exact ⟨kD HB2 0, kD HB2 1, kD HB4 0, kD HB4 1⟩) ?_
  clear hK9 K9
  (try simp only [Act.put, List.setIfInBounds_toArray, List.set_cons_zero, List.set_cons_succ])
  refine seq_op (by kernel_rfl) (by rfl) (fun K9 hK9 => ?_)
  go_simp
  refine (scaled_any _ _ m0 d _ HX1.out.z0 HR1.out (by have := HSy.out.2.2.1.1; omega) (by have := HSx.out.2.2.2; omega)).mono ?_
  rintro e w4 ⟨⟨vx, rfl, hr⟩, hbx⟩
  obtain ⟨g4a, A4a, k4a, c4a, rfl, hr⟩ := hr.open
  replace HB2 := kB HB2 hbx
  replace HB4 := kB HB4 hbx
  replace HB6 := kB HB6 hbx
  replace HB9 := kB HB9 hbx
  have hT := Wd.of_below hbx
  replace HX0 := kW hT HX0
  replace HX1 := kW hT HX1
  replace HR1 := kW hT HR1
  replace HR2 := kW hT HR2
  replace HR3 := kW hT HR3
  clear hT
  replace HBw := kU HBw hbx
  have HR4 := Lib.hid hr
  clear hr
  clear hbx
  refine hK9.out _ _ (by exact ⟨kD HB2 0, kD HB2 1, kD HB4 0, kD HB4 1⟩) ?_
  clear hK9 K9
  (try simp only [Act.put, List.setIfInBounds_toArray, List.set_cons_zero, List.set_cons_succ])
  refine seq_op (by kernel_rfl) (by rfl) (fun K9 hK9 => ?_)
  go_simp
  refine (iplus_any _ _ (n0 * e) (m0 * d) _ HR3.out HR4.out (by have := dl_muln HSx.out.2.2.1.1 HSy.out.2.2.2; omega) (by have := dl_muln HSy.out.2.2.1.1 HSx.out.2.2.2; omega)).mono ?_
  rintro e w5 ⟨⟨vx, rfl, hr⟩, hbx⟩
  obtain ⟨g5a, A5a, k5a, c5a, rfl, hr⟩ := hr.open
  replace HB2 := kB HB2 hbx
  replace HB4 := kB HB4 hbx
  replace HB6 := kB HB6 hbx
  replace HB9 := kB HB9 hbx
  have hT := Wd.of_below hbx
  replace HX0 := kW hT HX0
  replace HX1 := kW hT HX1
  replace HR1 := kW hT HR1
  replace HR2 := kW hT HR2
  replace HR3 := kW hT HR3
  replace HR4 := kW hT HR4
  clear hT
  replace HBw := kU HBw hbx
  have HR5 := Lib.hid hr
  clear hr
  clear HR3
  clear HR4
  clear hbx
  refine hK9.out _ _ (by exact ⟨kD HB2 0, kD HB2 1, kD HB4 0, kD HB4 1⟩) ?_
  clear hK9 K9
  (try simp only [Act.put, List.setIfInBounds_toArray, List.set_cons_zero, List.set_cons_succ])
  (refine seq_take0 (v := ?_) ?_ (fun _ _ _ h => h) (by kernel_rfl) ?_ ?_; rotate_left; (focus rfl); (focus (intro w' hSw; (try dsimp only at hSw); go_simp; (try with_reducible rfl); done)); (try simp only [Act.put, List.setIfInBounds_toArray, List.set_cons_zero, List.set_cons_succ]))
  refine seq_op (by kernel_rfl) (by rfl) (fun K9 hK9 => ?_)
  have c11 := kC HB9 0 rfl
  have c12 := kF HB9 0
  have c13 := kC HB9 1 rfl
  have c14 := kF HB9 1
  go_simp
  obtain ⟨W15, HW15⟩ : ∃ W, Hid (W = ((w5.setCell ⟨w2.heap.size, 0, none⟩ (Value.bool g5a)).setCell ⟨w2.heap.size, 1, none⟩ (Value.slice A5a k5a c5a))) := ⟨_, rfl⟩
  have hS : W15 = setsW w5 (w2.heap.size) 0 [Value.bool g5a, Value.slice A5a k5a c5a] := HW15.out
  have hT := kN hS HB9 rfl rfl
  replace HX0 := kW hT HX0
  replace HX1 := kW hT HX1
  replace HR1 := kW hT HR1
  replace HR2 := kW hT HR2
  replace HR5 := kW hT HR5
  clear hT
  replace HB2 := kO hS HB2 HNE_B2_B9.out
  replace HB4 := kO hS HB4 HNE_B4_B9.out
  replace HB6 := kO hS HB6 HNE_B6_B9.out
  replace HB9 := kP (ds := [Value.bool g5a, Value.slice A5a k5a c5a, Value.bool false, Value.slice none 0 0, Value.bool false, Value.slice none 0 0, Value.bool false, Value.slice none 0 0]) hS HB9 rfl rfl
  replace HBw := kS hS HLE_B9 HBw
  clear hS
  rw [← HW15.out]
  refine hK9.out _ _ (by exact ⟨kD HB2 0, kD HB2 1, kD HB4 0, kD HB4 1⟩) ?_
  clear hK9 K9 c11 c12 c13 c14
  (try simp only [Act.put, List.setIfInBounds_toArray, List.set_cons_zero, List.set_cons_succ])
  refine seq_done (by kernel_rfl) ?_
  go_wp2_with fail
  rw [rounds_succ]
  go_wp2_with fail
  obtain ⟨W16, hW16⟩ : ∃ W, W = W15.drew := ⟨_, rfl⟩
  have hbx : Below W15.heap.size W15 W16 := by rw [hW16]; exact (Below.refl _ _).drew
  replace HB2 := kB HB2 hbx
  replace HB4 := kB HB4 hbx
  replace HB6 := kB HB6 hbx
  replace HB9 := kB HB9 hbx
  have hT := Wd.of_below hbx
  replace HX0 := kW hT HX0
  replace HX1 := kW hT HX1
  replace HR1 := kW hT HR1
  replace HR2 := kW hT HR2
  replace HR5 := kW hT HR5
  clear hT
  replace HBw := kU HBw hbx
  clear hbx
  refine seq_start (S := fun w' => w'.cell? ⟨w.heap.size, 2, none⟩ = some (Value.bool gp0b) ∧ w'.cell? ⟨w.heap.size, 3, none⟩ = some (Value.slice Ap0b kp0b cp0b) ∧ w'.cell? ⟨w.heap.size + 1, 2, none⟩ = some (Value.bool gp1b) ∧ w'.cell? ⟨w.heap.size + 1, 3, none⟩ = some (Value.slice Ap1b kp1b cp1b)) (by kernel_rfl) (by kernel_rfl) (by rw [← hW16]; exact ⟨kD HB2 2, kD HB2 3, kD HB4 2, kD HB4 3⟩) ?_
  rw [← hW16]
  clear hW16
  iterate 6 (refine seq_take0 (v := ?_) ?_ (fun _ _ _ h => h) (by kernel_rfl) ?_ ?_; rotate_left; (focus rfl); (focus (intro w' hSw; (try dsimp only at hSw); go_simp; (try with_reducible rfl); done)); (try simp only [Act.put, List.setIfInBounds_toArray, List.set_cons_zero, List.set_cons_succ]))
  iterate 5 (refine seq_pull 1 ?_; simp only [places, pull]; (refine seq_take0 (v := ?_) ?_ (fun _ _ _ h => h) (by kernel_rfl) ?_ ?_; rotate_left; (focus rfl); (focus (intro w' hSw; (try dsimp only at hSw); go_simp; (try with_reducible rfl); done)); (try simp only [Act.put, List.setIfInBounds_toArray, List.set_cons_zero, List.set_cons_succ])))
  refine seq_op (by kernel_rfl) (by rfl) (fun K9 hK9 => ?_)
  go_simp
  refine (scaled_any _ _ n1 e _ HX0.out.z1 HR2.out (by have := HSx.out.2.2.1.2.1; omega) (by have := HSy.out.2.2.2; omega)).mono ?_
  rintro e w6 ⟨⟨vx, rfl, hr⟩, hbx⟩
  obtain ⟨g6a, A6a, k6a, c6a, rfl, hr⟩ := hr.open
  replace HB2 := kB HB2 hbx
  replace HB4 := kB HB4 hbx
  replace HB6 := kB HB6 hbx
  replace HB9 := kB HB9 hbx
  have hT := Wd.of_below hbx
  replace HX0 := kW hT HX0
  replace HX1 := kW hT HX1
  replace HR1 := kW hT HR1
  replace HR2 := kW hT HR2
  replace HR5 := kW hT HR5
  clear hT
  replace HBw := kU HBw hbx
  have HR6 := Lib.hid hr
  clear hr
  clear hbx
  refine hK9.out _ _ (by exact ⟨kD HB2 2, kD HB2 3, kD HB4 2, kD HB4 3⟩) ?_
  clear hK9 K9
  (try simp only [Act.put, List.setIfInBounds_toArray, List.set_cons_zero, List.set_cons_succ])
  refine seq_op (by kernel_rfl) (by rfl) (fun K9 hK9 => ?_)
  go_simp
  refine (scaled_any _ _ m1 d _ HX1.out.z1 HR1.out (by have := HSy.out.2.2.1.2.1; omega) (by have := HSx.out.2.2.2; omega)).mono ?_
  rintro e w7 ⟨⟨vx, rfl, hr⟩, hbx⟩
  obtain ⟨g7a, A7a, k7a, c7a, rfl, hr⟩ := hr.open
  replace HB2 := kB HB2 hbx
  replace HB4 := kB HB4 hbx
  replace HB6 := kB HB6 hbx
  replace HB9 := kB HB9 hbx
  have hT := Wd.of_below hbx
  replace HX0 := kW hT HX0
  replace HX1 := kW hT HX1
  replace HR1 := kW hT HR1
  replace HR2 := kW hT HR2
  replace HR5 := kW hT HR5
  replace HR6 := kW hT HR6
  clear hT
  replace HBw := kU HBw hbx
  have HR7 := Lib.hid hr
  clear hr
  clear hbx
  refine hK9.out _ _ (by exact ⟨kD HB2 2, kD HB2 3, kD HB4 2, kD HB4 3⟩) ?_
  clear hK9 K9
  (try simp only [Act.put, List.setIfInBounds_toArray, List.set_cons_zero, List.set_cons_succ])
  refine seq_op (by kernel_rfl) (by rfl) (fun K9 hK9 => ?_)
  go_simp
  refine (iplus_any _ _ (n1 * e) (m1 * d) _ HR6.out HR7.out (by have := dl_muln HSx.out.2.2.1.2.1 HSy.out.2.2.2; omega) (by have := dl_muln HSy.out.2.2.1.2.1 HSx.out.2.2.2; omega)).mono ?_
  rintro e w8 ⟨⟨vx, rfl, hr⟩, hbx⟩
  obtain ⟨g8a, A8a, k8a, c8a, rfl, hr⟩ := hr.open
  replace HB2 := kB HB2 hbx
  replace HB4 := kB HB4 hbx
  replace HB6 := kB HB6 hbx
  replace HB9 := kB HB9 hbx
  have hT := Wd.of_below hbx
  replace HX0 := kW hT HX0
  replace HX1 := kW hT HX1
  replace HR1 := kW hT HR1
  replace HR2 := kW hT HR2
  replace HR5 := kW hT HR5
  replace HR6 := kW hT HR6
  replace HR7 := kW hT HR7
  clear hT
  replace HBw := kU HBw hbx
  have HR8 := Lib.hid hr
  clear hr
  clear HR6
  clear HR7
  clear hbx
  refine hK9.out _ _ (by exact ⟨kD HB2 2, kD HB2 3, kD HB4 2, kD HB4 3⟩) ?_
  clear hK9 K9
  (try simp only [Act.put, List.setIfInBounds_toArray, List.set_cons_zero, List.set_cons_succ])
  (refine seq_take0 (v := ?_) ?_ (fun _ _ _ h => h) (by kernel_rfl) ?_ ?_; rotate_left; (focus rfl); (focus (intro w' hSw; (try dsimp only at hSw); go_simp; (try with_reducible rfl); done)); (try simp only [Act.put, List.setIfInBounds_toArray, List.set_cons_zero, List.set_cons_succ]))
  refine seq_op (by kernel_rfl) (by rfl) (fun K9 hK9 => ?_)
  have c17 := kC HB9 2 rfl
  have c18 := kF HB9 2
  have c19 := kC HB9 3 rfl
  have c20 := kF HB9 3
  go_simp
  obtain ⟨W21, HW21⟩ : ∃ W, Hid (W = ((w8.setCell ⟨w2.heap.size, 2, none⟩ (Value.bool g8a)).setCell ⟨w2.heap.size, 3, none⟩ (Value.slice A8a k8a c8a))) := ⟨_, rfl⟩
  have hS : W21 = setsW w8 (w2.heap.size) 2 [Value.bool g8a, Value.slice A8a k8a c8a] := HW21.out
  have hT := kN hS HB9 rfl rfl
  replace HX0 := kW hT HX0
  replace HX1 := kW hT HX1
  replace HR1 := kW hT HR1
  replace HR2 := kW hT HR2
  replace HR5 := kW hT HR5
  replace HR8 := kW hT HR8
  clear hT
  replace HB2 := kO hS HB2 HNE_B2_B9.out
  replace HB4 := kO hS HB4 HNE_B4_B9.out
  replace HB6 := kO hS HB6 HNE_B6_B9.out
  replace HB9 := kP (ds := [Value.bool g5a, Value.slice A5a k5a c5a, Value.bool g8a, Value.slice A8a k8a c8a, Value.bool false, Value.slice none 0 0, Value.bool false, Value.slice none 0 0]) hS HB9 rfl rfl
  replace HBw := kS hS HLE_B9 HBw
  clear hS
  rw [← HW21.out]
  refine hK9.out _ _ (by exact ⟨kD HB2 2, kD HB2 3, kD HB4 2, kD HB4 3⟩) ?_
  clear hK9 K9 c17 c18 c19 c20
  (try simp only [Act.put, List.setIfInBounds_toArray, List.set_cons_zero, List.set_cons_succ])
  refine seq_done (by kernel_rfl) ?_
  go_wp2_with fail
  rw [rounds_succ]
  go_wp2_with fail
  obtain ⟨W22, hW22⟩ : ∃ W, W = W21.drew := ⟨_, rfl⟩
  have hbx : Below W21.heap.size W21 W22 := by rw [hW22]; exact (Below.refl _ _).drew
  replace HB2 := kB HB2 hbx
  replace HB4 := kB HB4 hbx
  replace HB6 := kB HB6 hbx
  replace HB9 := kB HB9 hbx
  have hT := Wd.of_below hbx
  replace HX0 := kW hT HX0
  replace HX1 := kW hT HX1
  replace HR1 := kW hT HR1
  replace HR2 := kW hT HR2
  replace HR5 := kW hT HR5
  replace HR8 := kW hT HR8
  clear hT
  replace HBw := kU HBw hbx
  clear hbx
  refine seq_start (S := fun w' => w'.cell? ⟨w.heap.size, 4, none⟩ = some (Value.bool gp0c) ∧ w'.cell? ⟨w.heap.size, 5, none⟩ = some (Value.slice Ap0c kp0c cp0c) ∧ w'.cell? ⟨w.heap.size + 1, 4, none⟩ = some (Value.bool gp1c) ∧ w'.cell? ⟨w.heap.size + 1, 5, none⟩ = some (Value.slice Ap1c kp1c cp1c)) (by kernel_rfl) (by kernel_rfl) (by rw [← hW22]; exact ⟨kD HB2 4, kD HB2 5, kD HB4 4, kD HB4 5⟩) ?_
  rw [← hW22]
  clear hW22
  iterate 6 (refine seq_take0 (v := ?_) ?_ (fun _ _ _ h => h) (by kernel_rfl) ?_ ?_; rotate_left; (focus rfl); (focus (intro w' hSw; (try dsimp only at hSw); go_simp; (try with_reducible rfl); done)); (try simp only [Act.put, List.setIfInBounds_toArray, List.set_cons_zero, List.set_cons_succ]))
  iterate 5 (refine seq_pull 1 ?_; simp only [places, pull]; (refine seq_take0 (v := ?_) ?_ (fun _ _ _ h => h) (by kernel_rfl) ?_ ?_; rotate_left; (focus rfl); (focus (intro w' hSw; (try dsimp only at hSw); go_simp; (try with_reducible rfl); done)); (try simp only [Act.put, List.setIfInBounds_toArray, List.set_cons_zero, List.set_cons_succ])))
  refine seq_op (by kernel_rfl) (by rfl) (fun K9 hK9 => ?_)
  go_simp
  refine (scaled_any _ _ n2 e _ HX0.out.z2 HR2.out (by have := HSx.out.2.2.1.2.2.1; omega) (by have := HSy.out.2.2.2; omega)).mono ?_
  rintro e w9 ⟨⟨vx, rfl, hr⟩, hbx⟩
  obtain ⟨g9a, A9a, k9a, c9a, rfl, hr⟩ := hr.open
  replace HB2 := kB HB2 hbx
  replace HB4 := kB HB4 hbx
  replace HB6 := kB HB6 hbx
  replace HB9 := kB HB9 hbx
  have hT := Wd.of_below hbx
  replace HX0 := kW hT HX0
  replace HX1 := kW hT HX1
  replace HR1 := kW hT HR1
  replace HR2 := kW hT HR2
  replace HR5 := kW hT HR5
  replace HR8 := kW hT HR8
  clear hT
  replace HBw := kU HBw hbx
  have HR9 := Lib.hid hr
  clear hr
  clear hbx
  refine hK9.out _ _ (by exact ⟨kD HB2 4, kD HB2 5, kD HB4 4, kD HB4 5⟩) ?_
  clear hK9 K9
  (try simp only [Act.put, List.setIfInBounds_toArray, List.set_cons_zero, List.set_cons_succ])
  refine seq_op (by kernel_rfl) (by rfl) (fun K9 hK9 => ?_)
  go_simp
  refine (scaled_any _ _ m2 d _ HX1.out.z2 HR1.out (by have := HSy.out.2.2.1.2.2.1; omega) (by have := HSx.out.2.2.2; omega)).mono ?_
  rintro e w10 ⟨⟨vx, rfl, hr⟩, hbx⟩
  obtain ⟨g10a, A10a, k10a, c10a, rfl, hr⟩ := hr.open
  replace HB2 := kB HB2 hbx
  replace HB4 := kB HB4 hbx
  replace HB6 := kB HB6 hbx
  replace HB9 := kB HB9 hbx
  have hT := Wd.of_below hbx
  replace HX0 := kW hT HX0
  replace HX1 := kW hT HX1
  replace HR1 := kW hT HR1
  replace HR2 := kW hT HR2
  replace HR5 := kW hT HR5
  replace HR8 := kW hT HR8
  replace HR9 := kW hT HR9
  clear hT
  replace HBw := kU HBw hbx
  have HR10 := Lib.hid hr
  clear hr
  clear hbx
  refine hK9.out _ _ (by exact ⟨kD HB2 4, kD HB2 5, kD HB4 4, kD HB4 5⟩) ?_
  clear hK9 K9
  (try simp only [Act.put, List.setIfInBounds_toArray, List.set_cons_zero, List.set_cons_succ])
  refine seq_op (by kernel_rfl) (by rfl) (fun K9 hK9 => ?_)
  go_simp
  refine (iplus_any _ _ (n2 * e) (m2 * d) _ HR9.out HR10.out (by have := dl_muln HSx.out.2.2.1.2.2.1 HSy.out.2.2.2; omega) (by have := dl_muln HSy.out.2.2.1.2.2.1 HSx.out.2.2.2; omega)).mono ?_
  rintro e w11 ⟨⟨vx, rfl, hr⟩, hbx⟩
  obtain ⟨g11a, A11a, k11a, c11a, rfl, hr⟩ := hr.open
  replace HB2 := kB HB2 hbx
  replace HB4 := kB HB4 hbx
  replace HB6 := kB HB6 hbx
  replace HB9 := kB HB9 hbx
  have hT := Wd.of_below hbx
  replace HX0 := kW hT HX0
  replace HX1 := kW hT HX1
  replace HR1 := kW hT HR1
  replace HR2 := kW hT HR2
  replace HR5 := kW hT HR5
  replace HR8 := kW hT HR8
  replace HR9 := kW hT HR9
  replace HR10 := kW hT HR10
  clear hT
  replace HBw := kU HBw hbx
  have HR11 := Lib.hid hr
  clear hr
  clear HR9
  clear HR10
  clear hbx
  refine hK9.out _ _ (by exact ⟨kD HB2 4, kD HB2 5, kD HB4 4, kD HB4 5⟩) ?_
  clear hK9 K9
  (try simp only [Act.put, List.setIfInBounds_toArray, List.set_cons_zero, List.set_cons_succ])
  (refine seq_take0 (v := ?_) ?_ (fun _ _ _ h => h) (by kernel_rfl) ?_ ?_; rotate_left; (focus rfl); (focus (intro w' hSw; (try dsimp only at hSw); go_simp; (try with_reducible rfl); done)); (try simp only [Act.put, List.setIfInBounds_toArray, List.set_cons_zero, List.set_cons_succ]))
  refine seq_op (by kernel_rfl) (by rfl) (fun K9 hK9 => ?_)
  have c23 := kC HB9 4 rfl
  have c24 := kF HB9 4
  have c25 := kC HB9 5 rfl
  have c26 := kF HB9 5
  go_simp
  obtain ⟨W27, HW27⟩ : ∃ W, Hid (W = ((w11.setCell ⟨w2.heap.size, 4, none⟩ (Value.bool g11a)).setCell ⟨w2.heap.size, 5, none⟩ (Value.slice A11a k11a c11a))) := ⟨_, rfl⟩
  have hS : W27 = setsW w11 (w2.heap.size) 4 [Value.bool g11a, Value.slice A11a k11a c11a] := HW27.out
  have hT := kN hS HB9 rfl rfl
  replace HX0 := kW hT HX0
  replace HX1 := kW hT HX1
  replace HR1 := kW hT HR1
  replace HR2 := kW hT HR2
  replace HR5 := kW hT HR5
  replace HR8 := kW hT HR8
  replace HR11 := kW hT HR11
  clear hT
  replace HB2 := kO hS HB2 HNE_B2_B9.out
  replace HB4 := kO hS HB4 HNE_B4_B9.out
  replace HB6 := kO hS HB6 HNE_B6_B9.out
  replace HB9 := kP (ds := [Value.bool g5a, Value.slice A5a k5a c5a, Value.bool g8a, Value.slice A8a k8a c8a, Value.bool g11a, Value.slice A11a k11a c11a, Value.bool false, Value.slice none 0 0]) hS HB9 rfl rfl
  replace HBw := kS hS HLE_B9 HBw
  clear hS
  rw [← HW27.out]
  refine hK9.out _ _ (by exact ⟨kD HB2 4, kD HB2 5, kD HB4 4, kD HB4 5⟩) ?_
  clear hK9 K9 c23 c24 c25 c26
  (try simp only [Act.put, List.setIfInBounds_toArray, List.set_cons_zero, List.set_cons_succ])
  refine seq_done (by kernel_rfl) ?_
  go_wp2_with fail
  rw [rounds_succ]
  go_wp2_with fail
  obtain ⟨W28, hW28⟩ : ∃ W, W = W27.drew := ⟨_, rfl⟩
  have hbx : Below W27.heap.size W27 W28 := by rw [hW28]; exact (Below.refl _ _).drew
  replace HB2 := kB HB2 hbx
  replace HB4 := kB HB4 hbx
  replace HB6 := kB HB6 hbx
  replace HB9 := kB HB9 hbx
  have hT := Wd.of_below hbx
  replace HX0 := kW hT HX0
  replace HX1 := kW hT HX1
  replace HR1 := kW hT HR1
  replace HR2 := kW hT HR2
  replace HR5 := kW hT HR5
  replace HR8 := kW hT HR8
  replace HR11 := kW hT HR11
  clear hT
  replace HBw := kU HBw hbx
  clear hbx
  refine seq_start (S := fun w' => w'.cell? ⟨w.heap.size, 6, none⟩ = some (Value.bool gp0d) ∧ w'.cell? ⟨w.heap.size, 7, none⟩ = some (Value.slice Ap0d kp0d cp0d) ∧ w'.cell? ⟨w.heap.size + 1, 6, none⟩ = some (Value.bool gp1d) ∧ w'.cell? ⟨w.heap.size + 1, 7, none⟩ = some (Value.slice Ap1d kp1d cp1d)) (by kernel_rfl) (by kernel_rfl) (by rw [← hW28]; exact ⟨kD HB2 6, kD HB2 7, kD HB4 6, kD HB4 7⟩) ?_
  rw [← hW28]
  clear hW28
  iterate 6 (refine seq_take0 (v := ?_) ?_ (fun _ _ _ h => h) (by kernel_rfl) ?_ ?_; rotate_left; (focus rfl); (focus (intro w' hSw; (try dsimp only at hSw); go_simp; (try with_reducible rfl); done)); (try simp only [Act.put, List.setIfInBounds_toArray, List.set_cons_zero, List.set_cons_succ]))
  iterate 5 (refine seq_pull 1 ?_; simp only [places, pull]; (refine seq_take0 (v := ?_) ?_ (fun _ _ _ h => h) (by kernel_rfl) ?_ ?_; rotate_left; (focus rfl); (focus (intro w' hSw; (try dsimp only at hSw); go_simp; (try with_reducible rfl); done)); (try simp only [Act.put, List.setIfInBounds_toArray, List.set_cons_zero, List.set_cons_succ])))
  refine seq_op (by kernel_rfl) (by rfl) (fun K9 hK9 => ?_)
  go_simp
  refine (scaled_any _ _ n3 e _ HX0.out.z3 HR2.out (by have := HSx.out.2.2.1.2.2.2; omega) (by have := HSy.out.2.2.2; omega)).mono ?_
  rintro e w12 ⟨⟨vx, rfl, hr⟩, hbx⟩
  obtain ⟨g12a, A12a, k12a, c12a, rfl, hr⟩ := hr.open
  replace HB2 := kB HB2 hbx
  replace HB4 := kB HB4 hbx
  replace HB6 := kB HB6 hbx
  replace HB9 := kB HB9 hbx
  have hT := Wd.of_below hbx
  replace HX0 := kW hT HX0
  replace HX1 := kW hT HX1
  replace HR1 := kW hT HR1
  replace HR2 := kW hT HR2
  replace HR5 := kW hT HR5
  replace HR8 := kW hT HR8
  replace HR11 := kW hT HR11
  clear hT
  replace HBw := kU HBw hbx
  have HR12 := Lib.hid hr
  clear hr
  clear hbx
  refine hK9.out _ _ (by exact ⟨kD HB2 6, kD HB2 7, kD HB4 6, kD HB4 7⟩) ?_
  clear hK9 K9
  (try simp only [Act.put, List.setIfInBounds_toArray, List.set_cons_zero, List.set_cons_succ])
  refine seq_op (by kernel_rfl) (by rfl) (fun K9 hK9 => ?_)
  go_simp
  refine (scaled_any _ _ m3 d _ HX1.out.z3 HR1.out (by have := HSy.out.2.2.1.2.2.2; omega) (by have := HSx.out.2.2.2; omega)).mono ?_
  rintro e w13 ⟨⟨vx, rfl, hr⟩, hbx⟩
  obtain ⟨g13a, A13a, k13a, c13a, rfl, hr⟩ := hr.open
  replace HB2 := kB HB2 hbx
  replace HB4 := kB HB4 hbx
  replace HB6 := kB HB6 hbx
  replace HB9 := kB HB9 hbx
  have hT := Wd.of_below hbx
  replace HX0 := kW hT HX0
  replace HX1 := kW hT HX1
  replace HR1 := kW hT HR1
  replace HR2 := kW hT HR2
  replace HR5 := kW hT HR5
  replace HR8 := kW hT HR8
  replace HR11 := kW hT HR11
  replace HR12 := kW hT HR12
  clear hT
  replace HBw := kU HBw hbx
  have HR13 := Lib.hid hr
  clear hr
  clear hbx
  refine hK9.out _ _ (by exact ⟨kD HB2 6, kD HB2 7, kD HB4 6, kD HB4 7⟩) ?_
  clear hK9 K9
  (try simp only [Act.put, List.setIfInBounds_toArray, List.set_cons_zero, List.set_cons_succ])
  refine seq_op (by kernel_rfl) (by rfl) (fun K9 hK9 => ?_)
  go_simp
  refine (iplus_any _ _ (n3 * e) (m3 * d) _ HR12.out HR13.out (by have := dl_muln HSx.out.2.2.1.2.2.2 HSy.out.2.2.2; omega) (by have := dl_muln HSy.out.2.2.1.2.2.2 HSx.out.2.2.2; omega)).mono ?_
  rintro e w14 ⟨⟨vx, rfl, hr⟩, hbx⟩
  obtain ⟨g14a, A14a, k14a, c14a, rfl, hr⟩ := hr.open
  replace HB2 := kB HB2 hbx
  replace HB4 := kB HB4 hbx
  replace HB6 := kB HB6 hbx
  replace HB9 := kB HB9 hbx
  have hT := Wd.of_below hbx
  replace HX0 := kW hT HX0
  replace HX1 := kW hT HX1
  replace HR1 := kW hT HR1
  replace HR2 := kW hT HR2
  replace HR5 := kW hT HR5
  replace HR8 := kW hT HR8
  replace HR11 := kW hT HR11
  replace HR12 := kW hT HR12
  replace HR13 := kW hT HR13
  clear hT
  replace HBw := kU HBw hbx
  have HR14 := Lib.hid hr
  clear hr
  clear HR12
  clear HR13
  clear hbx
  refine hK9.out _ _ (by exact ⟨kD HB2 6, kD HB2 7, kD HB4 6, kD HB4 7⟩) ?_
  clear hK9 K9
  (try simp only [Act.put, List.setIfInBounds_toArray, List.set_cons_zero, List.set_cons_succ])
  (refine seq_take0 (v := ?_) ?_ (fun _ _ _ h => h) (by kernel_rfl) ?_ ?_; rotate_left; (focus rfl); (focus (intro w' hSw; (try dsimp only at hSw); go_simp; (try with_reducible rfl); done)); (try simp only [Act.put, List.setIfInBounds_toArray, List.set_cons_zero, List.set_cons_succ]))
  refine seq_op (by kernel_rfl) (by rfl) (fun K9 hK9 => ?_)
  have c29 := kC HB9 6 rfl
  have c30 := kF HB9 6
  have c31 := kC HB9 7 rfl
  have c32 := kF HB9 7
  go_simp
  obtain ⟨W33, HW33⟩ : ∃ W, Hid (W = ((w14.setCell ⟨w2.heap.size, 6, none⟩ (Value.bool g14a)).setCell ⟨w2.heap.size, 7, none⟩ (Value.slice A14a k14a c14a))) := ⟨_, rfl⟩
  have hS : W33 = setsW w14 (w2.heap.size) 6 [Value.bool g14a, Value.slice A14a k14a c14a] := HW33.out
  have hT := kN hS HB9 rfl rfl
  replace HX0 := kW hT HX0
  replace HX1 := kW hT HX1
  replace HR1 := kW hT HR1
  replace HR2 := kW hT HR2
  replace HR5 := kW hT HR5
  replace HR8 := kW hT HR8
  replace HR11 := kW hT HR11
  replace HR14 := kW hT HR14
  clear hT
  replace HB2 := kO hS HB2 HNE_B2_B9.out
  replace HB4 := kO hS HB4 HNE_B4_B9.out
  replace HB6 := kO hS HB6 HNE_B6_B9.out
  replace HB9 := kP (ds := [Value.bool g5a, Value.slice A5a k5a c5a, Value.bool g8a, Value.slice A8a k8a c8a, Value.bool g11a, Value.slice A11a k11a c11a, Value.bool g14a, Value.slice A14a k14a c14a]) hS HB9 rfl rfl
  replace HBw := kS hS HLE_B9 HBw
  clear hS
  rw [← HW33.out]
  refine hK9.out _ _ (by exact ⟨kD HB2 6, kD HB2 7, kD HB4 6, kD HB4 7⟩) ?_
  clear hK9 K9 c29 c30 c31 c32
  (try simp only [Act.put, List.setIfInBounds_toArray, List.set_cons_zero, List.set_cons_succ])
  refine seq_done (by kernel_rfl) ?_
  go_wp2_with fail
  rw [rounds_succ]
  go_wp2_with fail
  obtain ⟨W34, hW34⟩ : ∃ W, W = W33.drew := ⟨_, rfl⟩
  have hbx : Below W33.heap.size W33 W34 := by rw [hW34]; exact (Below.refl _ _).drew
  replace HB2 := kB HB2 hbx
  replace HB4 := kB HB4 hbx
  replace HB6 := kB HB6 hbx
  replace HB9 := kB HB9 hbx
  have hT := Wd.of_below hbx
  replace HX0 := kW hT HX0
  replace HX1 := kW hT HX1
  replace HR1 := kW hT HR1
  replace HR2 := kW hT HR2
  replace HR5 := kW hT HR5
  replace HR8 := kW hT HR8
  replace HR11 := kW hT HR11
  replace HR14 := kW hT HR14
  clear hT
  replace HBw := kU HBw hbx
  clear hbx
  refine seq_start (S := fun w' => w'.cell? ⟨w2.heap.size, 0, none⟩ = some (Value.bool g5a) ∧ w'.cell? ⟨w2.heap.size, 1, none⟩ = some (Value.slice A5a k5a c5a) ∧ w'.cell? ⟨w2.heap.size, 2, none⟩ = some (Value.bool g8a) ∧ w'.cell? ⟨w2.heap.size, 3, none⟩ = some (Value.slice A8a k8a c8a) ∧ w'.cell? ⟨w2.heap.size, 4, none⟩ = some (Value.bool g11a) ∧ w'.cell? ⟨w2.heap.size, 5, none⟩ = some (Value.slice A11a k11a c11a) ∧ w'.cell? ⟨w2.heap.size, 6, none⟩ = some (Value.bool g14a) ∧ w'.cell? ⟨w2.heap.size, 7, none⟩ = some (Value.slice A14a k14a c14a)) (by kernel_rfl) (by kernel_rfl) (by rw [← hW34]; exact ⟨kD HB9 0, kD HB9 1, kD HB9 2, kD HB9 3, kD HB9 4, kD HB9 5, kD HB9 6, kD HB9 7⟩) ?_
  rw [← hW34]
  clear hW34
  iterate 3 (refine seq_take0 (v := ?_) ?_ (fun _ _ _ h => h) (by kernel_rfl) ?_ ?_; rotate_left; (focus rfl); (focus (intro w' hSw; (try dsimp only at hSw); go_simp; (try with_reducible rfl); done)); (try simp only [Act.put, List.setIfInBounds_toArray, List.set_cons_zero, List.set_cons_succ]))
  refine seq_op (by kernel_rfl) (by rfl) (fun K9 hK9 => ?_)
  go_simp
  refine (times_any _ _ d e _ HR1.out HR2.out (by have := HSx.out.2.2.2; omega) (by have := HSy.out.2.2.2; omega)).mono ?_
  rintro e w15 ⟨⟨vx, rfl, hr⟩, hbx⟩
  obtain ⟨A15, k15, c15, rfl, hr⟩ := hr.open
  replace HB2 := kB HB2 hbx
  replace HB4 := kB HB4 hbx
  replace HB6 := kB HB6 hbx
  replace HB9 := kB HB9 hbx
  have hT := Wd.of_below hbx
  replace HX0 := kW hT HX0
  replace HX1 := kW hT HX1
  replace HR1 := kW hT HR1
  replace HR2 := kW hT HR2
  replace HR5 := kW hT HR5
  replace HR8 := kW hT HR8
  replace HR11 := kW hT HR11
  replace HR14 := kW hT HR14
  clear hT
  replace HBw := kU HBw hbx
  have HR15 := Lib.hid hr
  clear hr
  clear HR1
  clear HR2
  clear hbx
  refine hK9.out _ _ (by exact ⟨kD HB9 0, kD HB9 1, kD HB9 2, kD HB9 3, kD HB9 4, kD HB9 5, kD HB9 6, kD HB9 7⟩) ?_
  clear hK9 K9
  (try simp only [Act.put, List.setIfInBounds_toArray, List.set_cons_zero, List.set_cons_succ])
  refine seq_op (by kernel_rfl) (by rfl) (fun K9 hK9 => ?_)
  go_simp
  refine (surd_any _ _ (x.add y) _ _ _ _ _ (K + L + 1) _ (RdA.mk HR5.out HR8.out HR11.out HR14.out) HR15.out (HSx.out.add HSy.out) (by omega)).mono ?_
  rintro e w16 ⟨⟨vx, rfl, hr⟩, hbx⟩
  obtain ⟨g16a, A16a, k16a, c16a, g16b, A16b, k16b, c16b, g16c, A16c, k16c, c16c, g16d, A16d, k16d, c16d, A16e, k16e, c16e, rfl, hr⟩ := hr.open
  replace HB2 := kB HB2 hbx
  replace HB4 := kB HB4 hbx
  replace HB6 := kB HB6 hbx
  replace HB9 := kB HB9 hbx
  have hT := Wd.of_below hbx
  replace HX0 := kW hT HX0
  replace HX1 := kW hT HX1
  replace HR5 := kW hT HR5
  replace HR8 := kW hT HR8
  replace HR11 := kW hT HR11
  replace HR14 := kW hT HR14
  replace HR15 := kW hT HR15
  clear hT
  replace HBw := kU HBw hbx
  have HR16 := Lib.hid hr
  clear hr
  clear HR5
  clear HR8
  clear HR11
  clear HR14
  clear HR15
  clear hbx
  refine hK9.out _ _ (by exact ⟨kD HB9 0, kD HB9 1, kD HB9 2, kD HB9 3, kD HB9 4, kD HB9 5, kD HB9 6, kD HB9 7⟩) ?_
  clear hK9 K9
  (try simp only [Act.put, List.setIfInBounds_toArray, List.set_cons_zero, List.set_cons_succ])
  refine seq_op (by kernel_rfl) (by rfl) (fun K9 hK9 => ?_)
  have c35 := kC HB6 0 rfl
  have c36 := kF HB6 0
  have c37 := kC HB6 1 rfl
  have c38 := kF HB6 1
  have c39 := kC HB6 2 rfl
  have c40 := kF HB6 2
  have c41 := kC HB6 3 rfl
  have c42 := kF HB6 3
  have c43 := kC HB6 4 rfl
  have c44 := kF HB6 4
  have c45 := kC HB6 5 rfl
  have c46 := kF HB6 5
  have c47 := kC HB6 6 rfl
  have c48 := kF HB6 6
  have c49 := kC HB6 7 rfl
  have c50 := kF HB6 7
  have c51 := kC HB6 8 rfl
  have c52 := kF HB6 8
  go_simp
  obtain ⟨W53, HW53⟩ : ∃ W, Hid (W = (((((((((w16.setCell ⟨w.heap.size + 2, 0, none⟩ (Value.bool g16a)).setCell ⟨w.heap.size + 2, 1, none⟩ (Value.slice A16a k16a c16a)).setCell ⟨w.heap.size + 2, 2, none⟩ (Value.bool g16b)).setCell ⟨w.heap.size + 2, 3, none⟩ (Value.slice A16b k16b c16b)).setCell ⟨w.heap.size + 2, 4, none⟩ (Value.bool g16c)).setCell ⟨w.heap.size + 2, 5, none⟩ (Value.slice A16c k16c c16c)).setCell ⟨w.heap.size + 2, 6, none⟩ (Value.bool g16d)).setCell ⟨w.heap.size + 2, 7, none⟩ (Value.slice A16d k16d c16d)).setCell ⟨w.heap.size + 2, 8, none⟩ (Value.slice A16e k16e c16e))) := ⟨_, rfl⟩
  have hS : W53 = setsW w16 (w.heap.size + 2) 0 [Value.bool g16a, Value.slice A16a k16a c16a, Value.bool g16b, Value.slice A16b k16b c16b, Value.bool g16c, Value.slice A16c k16c c16c, Value.bool g16d, Value.slice A16d k16d c16d, Value.slice A16e k16e c16e] := HW53.out
  have hT := kN hS HB6 rfl rfl
  replace HX0 := kW hT HX0
  replace HX1 := kW hT HX1
  replace HR16 := kW hT HR16
  clear hT
  replace HB2 := kO hS HB2 HNE_B2_B6.out
  replace HB4 := kO hS HB4 HNE_B4_B6.out
  replace HB6 := kP (ds := [Value.bool g16a, Value.slice A16a k16a c16a, Value.bool g16b, Value.slice A16b k16b c16b, Value.bool g16c, Value.slice A16c k16c c16c, Value.bool g16d, Value.slice A16d k16d c16d, Value.slice A16e k16e c16e]) hS HB6 rfl rfl
  replace HB9 := kO hS HB9 HNE_B6_B9.out.symm
  replace HBw := kS hS HLE_B6 HBw
  clear hS
  rw [← HW53.out]
  refine hK9.out _ _ (by exact ⟨kD HB9 0, kD HB9 1, kD HB9 2, kD HB9 3, kD HB9 4, kD HB9 5, kD HB9 6, kD HB9 7⟩) ?_
  clear hK9 K9 c35 c36 c37 c38 c39 c40 c41 c42 c43 c44 c45 c46 c47 c48 c49 c50 c51 c52
  (try simp only [Act.put, List.setIfInBounds_toArray, List.set_cons_zero, List.set_cons_succ])
  refine seq_done (by kernel_rfl) ?_
  go_wp2_with fail
  have c54 := kC HB6 0 rfl
  have c55 := kC HB6 1 rfl
  have c56 := kC HB6 2 rfl
  have c57 := kC HB6 3 rfl
  have c58 := kC HB6 4 rfl
  have c59 := kC HB6 5 rfl
  have c60 := kC HB6 6 rfl
  have c61 := kC HB6 7 rfl
  have c62 := kC HB6 8 rfl
  exact bodyPost_ret (v := .agg #[Value.bool g16a, Value.slice A16a k16a c16a, Value.bool g16b, Value.slice A16b k16b c16b, Value.bool g16c, Value.slice A16c k16c c16c, Value.bool g16d, Value.slice A16d k16d c16d, Value.slice A16e k16e c16e]) (by simp [results, Tryz.results133, go_sem, c54, c55, c56, c57, c58, c59, c60, c61, c62]) rfl ⟨⟨_, rfl, HR16.out⟩, HBw.out⟩
set_option maxRecDepth 100000 in
set_option maxHeartbeats 4000000 in
theorem ssubS_any (v u : Value) (x y : S4) (K L : Nat) (w : World) (hv : RdS w v x K) (hu : RdS w u y L) (hK : K ≤ 100000) (hL : L ≤ 100000) :
    Calls Tryz.prog 132 #[v, u] w fun e w' => (∃ v', e = .returned v' ∧ RdS w' v' (x.sub y) (K + L + 1)) ∧ Below w.heap.size w w' := by
  obtain ⟨gp0a, Ap0a, kp0a, cp0a, gp0b, Ap0b, kp0b, cp0b, gp0c, Ap0c, kp0c, cp0c, gp0d, Ap0d, kp0d, cp0d, Ap0e, kp0e, cp0e, rfl, hv⟩ := hv.open
  have HX0 := Lib.hid hv
  clear hv
  obtain ⟨gp1a, Ap1a, kp1a, cp1a, gp1b, Ap1b, kp1b, cp1b, gp1c, Ap1c, kp1c, cp1c, gp1d, Ap1d, kp1d, cp1d, Ap1e, kp1e, cp1e, rfl, hu⟩ := hu.open
  have HX1 := Lib.hid hu
  clear hu
  go_enter Tryz.func132, Tryz.ntmps132
  obtain ⟨W1, HW1, HB2, HSZ_W1, hbx⟩ := st_al0 w #[Value.bool gp0a, Value.slice Ap0a kp0a cp0a, Value.bool gp0b, Value.slice Ap0b kp0b cp0b, Value.bool gp0c, Value.slice Ap0c kp0c cp0c, Value.bool gp0d, Value.slice Ap0d kp0d cp0d, Value.slice Ap0e kp0e cp0e] 30
  have hT := Wd.of_below hbx
  replace HX0 := kW hT HX0
  replace HX1 := kW hT HX1
  clear hT
  have HBw := Lib.hid hbx
  clear hbx
  obtain ⟨W3, HW3, HB4, HSZ_W3, hbx⟩ := st_alk 1 2 #[Value.bool gp1a, Value.slice Ap1a kp1a cp1a, Value.bool gp1b, Value.slice Ap1b kp1b cp1b, Value.bool gp1c, Value.slice Ap1c kp1c cp1c, Value.bool gp1d, Value.slice Ap1d kp1d cp1d, Value.slice Ap1e kp1e cp1e] 30 HSZ_W1 rfl
  replace HB2 := kB HB2 hbx
  have hT := Wd.of_below hbx
  replace HX0 := kW hT HX0
  replace HX1 := kW hT HX1
  clear hT
  replace HBw := kU HBw hbx
  clear hbx
  obtain ⟨W5, HW5, HB6, HSZ_W5, hbx⟩ := st_alk 2 3 #[Value.bool false, Value.slice none 0 0, Value.bool false, Value.slice none 0 0, Value.bool false, Value.slice none 0 0, Value.bool false, Value.slice none 0 0, Value.slice none 0 0] 30 HSZ_W3 rfl
  have HNE_B2_B6 : Hid (w.heap.size ≠ w.heap.size + 2) := by show _ ≠ _; have hlt := blk_lt HB2.out; omega
  replace HB2 := kB HB2 hbx
  have HNE_B4_B6 : Hid (w.heap.size + 1 ≠ w.heap.size + 2) := by show _ ≠ _; have hlt := blk_lt HB4.out; omega
  replace HB4 := kB HB4 hbx
  have HLE_B6 : Hid (w.heap.size ≤ w.heap.size + 2) := by show _ ≤ _; have hlt := HBw.out.size; omega
  have hT := Wd.of_below hbx
  replace HX0 := kW hT HX0
  replace HX1 := kW hT HX1
  clear hT
  replace HBw := kU HBw hbx
  clear hbx
  go_wp2_with fail
  rw [← HW1.out, ← HW3.out, ← HW5.out]
  obtain ⟨W7, hW7⟩ : ∃ W, W = W5.drew := ⟨_, rfl⟩
  have hbx : Below W5.heap.size W5 W7 := by rw [hW7]; exact (Below.refl _ _).drew
  replace HB2 := kB HB2 hbx
  replace HB4 := kB HB4 hbx
  replace HB6 := kB HB6 hbx
  have hT := Wd.of_below hbx
  replace HX0 := kW hT HX0
  replace HX1 := kW hT HX1
  clear hT
  replace HBw := kU HBw hbx
  clear hbx
  refine seq_start (S := fun w' => w'.cell? ⟨w.heap.size, 0, none⟩ = some (Value.bool gp0a) ∧ w'.cell? ⟨w.heap.size, 1, none⟩ = some (Value.slice Ap0a kp0a cp0a) ∧ w'.cell? ⟨w.heap.size, 2, none⟩ = some (Value.bool gp0b) ∧ w'.cell? ⟨w.heap.size, 3, none⟩ = some (Value.slice Ap0b kp0b cp0b) ∧ w'.cell? ⟨w.heap.size, 4, none⟩ = some (Value.bool gp0c) ∧ w'.cell? ⟨w.heap.size, 5, none⟩ = some (Value.slice Ap0c kp0c cp0c) ∧ w'.cell? ⟨w.heap.size, 6, none⟩ = some (Value.bool gp0d) ∧ w'.cell? ⟨w.heap.size, 7, none⟩ = some (Value.slice Ap0d kp0d cp0d) ∧ w'.cell? ⟨w.heap.size, 8, none⟩ = some (Value.slice Ap0e kp0e cp0e) ∧ w'.cell? ⟨w.heap.size + 1, 0, none⟩ = some (Value.bool gp1a) ∧ w'.cell? ⟨w.heap.size + 1, 1, none⟩ = some (Value.slice Ap1a kp1a cp1a) ∧ w'.cell? ⟨w.heap.size + 1, 2, none⟩ = some (Value.bool gp1b) ∧ w'.cell? ⟨w.heap.size + 1, 3, none⟩ = some (Value.slice Ap1b kp1b cp1b) ∧ w'.cell? ⟨w.heap.size + 1, 4, none⟩ = some (Value.bool gp1c) ∧ w'.cell? ⟨w.heap.size + 1, 5, none⟩ = some (Value.slice Ap1c kp1c cp1c) ∧ w'.cell? ⟨w.heap.size + 1, 6, none⟩ = some (Value.bool gp1d) ∧ w'.cell? ⟨w.heap.size + 1, 7, none⟩ = some (Value.slice Ap1d kp1d cp1d) ∧ w'.cell? ⟨w.heap.size + 1, 8, none⟩ = some (Value.slice Ap1e kp1e cp1e)) (by kernel_rfl) (by kernel_rfl) (by rw [← hW7]; exact ⟨kD HB2 0, kD HB2 1, kD HB2 2, kD HB2 3, kD HB2 4, kD HB2 5, kD HB2 6, kD HB2 7, kD HB2 8, kD HB4 0, kD HB4 1, kD HB4 2, kD HB4 3, kD HB4 4, kD HB4 5, kD HB4 6, kD HB4 7, kD HB4 8⟩) ?_
  rw [← hW7]
  clear hW7
  iterate 2 (refine seq_take0 (v := ?_) ?_ (fun _ _ _ h => h) (by kernel_rfl) ?_ ?_; rotate_left; (focus rfl); (focus (intro w' hSw; (try dsimp only at hSw); go_simp; (try with_reducible rfl); done)); (try simp only [Act.put, List.setIfInBounds_toArray, List.set_cons_zero, List.set_cons_succ]))
  refine seq_op (by kernel_rfl) (by rfl) (fun K9 hK9 => ?_)
  go_simp
  refine (snegS_any _ y L _ HX1.out).mono ?_
  rintro e w1 ⟨⟨vx, rfl, hr⟩, hbx⟩
  obtain ⟨g1a, A1a, k1a, c1a, g1b, A1b, k1b, c1b, g1c, A1c, k1c, c1c, g1d, A1d, k1d, c1d, A1e, k1e, c1e, rfl, hr⟩ := hr.open
  replace HB2 := kB HB2 hbx
  replace HB4 := kB HB4 hbx
  replace HB6 := kB HB6 hbx
  have hT := Wd.of_below hbx
  replace HX0 := kW hT HX0
  replace HX1 := kW hT HX1
  clear hT
  replace HBw := kU HBw hbx
  have HR1 := Lib.hid hr
  clear hr
  clear hbx
  refine hK9.out _ _ (by exact ⟨kD HB2 0, kD HB2 1, kD HB2 2, kD HB2 3, kD HB2 4, kD HB2 5, kD HB2 6, kD HB2 7, kD HB2 8, kD HB4 0, kD HB4 1, kD HB4 2, kD HB4 3, kD HB4 4, kD HB4 5, kD HB4 6, kD HB4 7, kD HB4 8⟩) ?_
  clear hK9 K9
  (try simp only [Act.put, List.setIfInBounds_toArray, List.set_cons_zero, List.set_cons_succ])
  refine seq_op (by kernel_rfl) (by rfl) (fun K9 hK9 => ?_)
  go_simp
  refine (saddS_any _ _ x y.neg K L _ HX0.out HR1.out hK hL).mono ?_
  rintro e w2 ⟨⟨vx, rfl, hr⟩, hbx⟩
  obtain ⟨g2a, A2a, k2a, c2a, g2b, A2b, k2b, c2b, g2c, A2c, k2c, c2c, g2d, A2d, k2d, c2d, A2e, k2e, c2e, rfl, hr⟩ := hr.open
  replace HB2 := kB HB2 hbx
  replace HB4 := kB HB4 hbx
  replace HB6 := kB HB6 hbx
  have hT := Wd.of_below hbx
  replace HX0 := kW hT HX0
  replace HX1 := kW hT HX1
  replace HR1 := kW hT HR1
  clear hT
  replace HBw := kU HBw hbx
  have HR2 := Lib.hid hr
  clear hr
  clear HR1
  clear hbx
  refine hK9.out _ _ (by exact ⟨kD HB2 0, kD HB2 1, kD HB2 2, kD HB2 3, kD HB2 4, kD HB2 5, kD HB2 6, kD HB2 7, kD HB2 8, kD HB4 0, kD HB4 1, kD HB4 2, kD HB4 3, kD HB4 4, kD HB4 5, kD HB4 6, kD HB4 7, kD HB4 8⟩) ?_
  clear hK9 K9
  (try simp only [Act.put, List.setIfInBounds_toArray, List.set_cons_zero, List.set_cons_succ])
  refine seq_op (by kernel_rfl) (by rfl) (fun K9 hK9 => ?_)
  have c8 := kC HB6 0 rfl
  have c9 := kF HB6 0
  have c10 := kC HB6 1 rfl
  have c11 := kF HB6 1
  have c12 := kC HB6 2 rfl
  have c13 := kF HB6 2
  have c14 := kC HB6 3 rfl
  have c15 := kF HB6 3
  have c16 := kC HB6 4 rfl
  have c17 := kF HB6 4
  have c18 := kC HB6 5 rfl
  have c19 := kF HB6 5
  have c20 := kC HB6 6 rfl
  have c21 := kF HB6 6
  have c22 := kC HB6 7 rfl
  have c23 := kF HB6 7
  have c24 := kC HB6 8 rfl
  have c25 := kF HB6 8
  go_simp
  obtain ⟨W26, HW26⟩ : ∃ W, Hid (W = (((((((((w2.setCell ⟨w.heap.size + 2, 0, none⟩ (Value.bool g2a)).setCell ⟨w.heap.size + 2, 1, none⟩ (Value.slice A2a k2a c2a)).setCell ⟨w.heap.size + 2, 2, none⟩ (Value.bool g2b)).setCell ⟨w.heap.size + 2, 3, none⟩ (Value.slice A2b k2b c2b)).setCell ⟨w.heap.size + 2, 4, none⟩ (Value.bool g2c)).setCell ⟨w.heap.size + 2, 5, none⟩ (Value.slice A2c k2c c2c)).setCell ⟨w.heap.size + 2, 6, none⟩ (Value.bool g2d)).setCell ⟨w.heap.size + 2, 7, none⟩ (Value.slice A2d k2d c2d)).setCell ⟨w.heap.size + 2, 8, none⟩ (Value.slice A2e k2e c2e))) := ⟨_, rfl⟩
  have hS : W26 = setsW w2 (w.heap.size + 2) 0 [Value.bool g2a, Value.slice A2a k2a c2a, Value.bool g2b, Value.slice A2b k2b c2b, Value.bool g2c, Value.slice A2c k2c c2c, Value.bool g2d, Value.slice A2d k2d c2d, Value.slice A2e k2e c2e] := HW26.out
  have hT := kN hS HB6 rfl rfl
  replace HX0 := kW hT HX0
  replace HX1 := kW hT HX1
  replace HR2 := kW hT HR2
  clear hT
  replace HB2 := kO hS HB2 HNE_B2_B6.out
  replace HB4 := kO hS HB4 HNE_B4_B6.out
  replace HB6 := kP (ds := [Value.bool g2a, Value.slice A2a k2a c2a, Value.bool g2b, Value.slice A2b k2b c2b, Value.bool g2c, Value.slice A2c k2c c2c, Value.bool g2d, Value.slice A2d k2d c2d, Value.slice A2e k2e c2e]) hS HB6 rfl rfl
  replace HBw := kS hS HLE_B6 HBw
  clear hS
  rw [← HW26.out]
  refine hK9.out _ _ (by exact ⟨kD HB2 0, kD HB2 1, kD HB2 2, kD HB2 3, kD HB2 4, kD HB2 5, kD HB2 6, kD HB2 7, kD HB2 8, kD HB4 0, kD HB4 1, kD HB4 2, kD HB4 3, kD HB4 4, kD HB4 5, kD HB4 6, kD HB4 7, kD HB4 8⟩) ?_
  clear hK9 K9 c8 c9 c10 c11 c12 c13 c14 c15 c16 c17 c18 c19 c20 c21 c22 c23 c24 c25
  (try simp only [Act.put, List.setIfInBounds_toArray, List.set_cons_zero, List.set_cons_succ])
  refine seq_done (by kernel_rfl) ?_
  go_wp2_with fail
  have c27 := kC HB6 0 rfl
  have c28 := kC HB6 1 rfl
  have c29 := kC HB6 2 rfl
  have c30 := kC HB6 3 rfl
  have c31 := kC HB6 4 rfl
  have c32 := kC HB6 5 rfl
  have c33 := kC HB6 6 rfl
  have c34 := kC HB6 7 rfl
  have c35 := kC HB6 8 rfl
  exact bodyPost_ret (v := .agg #[Value.bool g2a, Value.slice A2a k2a c2a, Value.bool g2b, Value.slice A2b k2b c2b, Value.bool g2c, Value.slice A2c k2c c2c, Value.bool g2d, Value.slice A2d k2d c2d, Value.slice A2e k2e c2e]) (by simp [results, Tryz.results132, go_sem, c27, c28, c29, c30, c31, c32, c33, c34, c35]) rfl ⟨⟨_, rfl, HR2.out⟩, HBw.out⟩
theorem q_den (q : Rat) : q * (q.den : Rat) = (q.num : Rat) := by
  have h := num_div q
  rw [Rat.intCast_natCast] at h
  have h0 : (q.den : Rat) ≠ 0 := fun e => q.den_nz (by exact_mod_cast e)
  generalize (q.num : Rat) = a at h ⊢
  generalize (q.den : Rat) = b at h h0 ⊢
  rw [h]; grind
end Go.Proofs.YtodckaioeomccaaGreat
namespace Go.Proofs.YtodckaioeomccaaGreat
open Go.RowKit
set_option linter.unusedVariables false
theorem blk_there {w : World} {b t off n : Nat} {cs : Array Value} (h : w.heap[b]? = some (.cells cs t (0, 0))) (hn : off + n ≤ cs.size) : w.there b off n := fun j hj =>
  ⟨by rw [blk_cell h, Array.getElem?_eq_getElem (by omega)]; rfl, blk_free h _⟩
theorem blk_range {w : World} {b t : Nat} {p q r : List Value} (h : w.heap[b]? = some (.cells (p ++ q ++ r).toArray t (0, 0))) : w.rangeAt b p.length q := fun j v hj => by
  have hl := (List.getElem?_eq_some_iff.1 hj).1
  rw [blk_cell h]
  simp only [List.getElem?_toArray]
  rw [List.append_assoc, List.getElem?_append_right (by omega), Nat.add_sub_cancel_left, List.getElem?_append_left hl]
  exact hj
theorem setCells_sets (b : Nat) : ∀ (vs : List Value) (o : Nat) (w : World), w.setCells b o vs = setsW w b o vs
  | [], _, _ => rfl
  | v :: vs, o, w => setCells_sets b vs (o + 1) _
/-- One result, read out of its cells. -/
theorem results_cell {P : Program} {fn : Func} {t b : Nat} {ty : TypeId} {tmps : Array Value} {w : World} {d : TypeDesc} {cs : List Value} (h : fn.results = #[.cell t ty]) (hp : tmps.getD t undef = .pointer (some ⟨b, 0, none⟩)) (hc : w.rangeAt b 0 cs)
    (hu : P.underlying ty = some d) (hd : d.isRow = true) (hi : (P.info? ty).map (·.size) = some cs.length) : (results fn tmps).run P w = .ok (.agg cs.toArray) w := by
  have hl := run_loadVar_mid w b 0 ty cs d hc hu hd hi
  rw [Array.getD_eq_getD_getElem?] at hp
  simp [results, h, hp, asAddr, hl]
/-- A result and an error. -/
theorem results_cell_tmp {P : Program} {fn : Func} {t u b : Nat} {ty : TypeId} {tmps : Array Value} {w : World} {d : TypeDesc} {cs : List Value} (h : fn.results = #[.cell t ty, .tmp u]) (hp : tmps.getD t undef = .pointer (some ⟨b, 0, none⟩)) (hc : w.rangeAt b 0 cs)
    (hu : P.underlying ty = some d) (hd : d.isRow = true) (hi : (P.info? ty).map (·.size) = some cs.length) : (results fn tmps).run P w = .ok (.tuple #[.agg cs.toArray, tmps.getD u undef]) w := by
  have hl := run_loadVar_mid w b 0 ty cs d hc hu hd hi
  rw [Array.getD_eq_getD_getElem?] at hp
  simp [results, h, hp, asAddr, hl]
theorem blk_all {w : World} {b t : Nat} {cs : List Value} (h : w.heap[b]? = some (.cells cs.toArray t (0, 0))) : w.rangeAt b 0 cs := blk_range (p := []) (q := cs) (r := []) (by simpa using h)
theorem kM {w W : World} {b o : Nat} {vs : List Value} (h : Hid (W = w.setCells b o vs)) : W = setsW w b o vs := h.out.trans (setCells_sets _ _ _ _)
end Go.Proofs.YtodckaioeomccaaGreat
