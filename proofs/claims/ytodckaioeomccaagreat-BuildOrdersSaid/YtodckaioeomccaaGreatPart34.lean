/- Walks of numbers with roots: surd. -/
import Derived.Test.YtodckaioeomccaaGreatPart33
namespace Go.Proofs.YtodckaioeomccaaGreat
open Go.RowKit Go.Proofs.S4P
set_option linter.unusedVariables false
set_option linter.unusedSimpArgs false
/-- The greatest number by which all parts can be divided. -/
def gAll (z0 z1 z2 z3 : Int) (d : Nat) : Nat := Nat.gcd (Nat.gcd (Nat.gcd (Nat.gcd d z0.natAbs) z1.natAbs) z2.natAbs) z3.natAbs
theorem gAll_dvd (z0 z1 z2 z3 : Int) (d : Nat) : gAll z0 z1 z2 z3 d ∣ d ∧ ((gAll z0 z1 z2 z3 d : Nat) : Int) ∣ z0 ∧ ((gAll z0 z1 z2 z3 d : Nat) : Int) ∣ z1 ∧ ((gAll z0 z1 z2 z3 d : Nat) : Int) ∣ z2 ∧ ((gAll z0 z1 z2 z3 d : Nat) : Int) ∣ z3 := by
  unfold gAll
  have a3 := Nat.gcd_dvd_left (Nat.gcd (Nat.gcd (Nat.gcd d z0.natAbs) z1.natAbs) z2.natAbs) z3.natAbs
  have b3 := Nat.gcd_dvd_right (Nat.gcd (Nat.gcd (Nat.gcd d z0.natAbs) z1.natAbs) z2.natAbs) z3.natAbs
  have a2 := Nat.gcd_dvd_left (Nat.gcd (Nat.gcd d z0.natAbs) z1.natAbs) z2.natAbs
  have b2 := Nat.gcd_dvd_right (Nat.gcd (Nat.gcd d z0.natAbs) z1.natAbs) z2.natAbs
  have a1 := Nat.gcd_dvd_left (Nat.gcd d z0.natAbs) z1.natAbs
  have b1 := Nat.gcd_dvd_right (Nat.gcd d z0.natAbs) z1.natAbs
  have a0 := Nat.gcd_dvd_left d z0.natAbs
  have b0 := Nat.gcd_dvd_right d z0.natAbs
  exact ⟨Nat.dvd_trans (Nat.dvd_trans (Nat.dvd_trans a3 a2) a1) a0, Int.ofNat_dvd_left.2 (Nat.dvd_trans (Nat.dvd_trans (Nat.dvd_trans a3 a2) a1) b0), Int.ofNat_dvd_left.2 (Nat.dvd_trans (Nat.dvd_trans a3 a2) b1), Int.ofNat_dvd_left.2 (Nat.dvd_trans a3 b2), Int.ofNat_dvd_left.2 b3⟩
theorem gcd_dl {m n K : Nat} (hm : m ≠ 0) (h : dl m ≤ K) : dl (Nat.gcd m n) ≤ K ∧ Nat.gcd m n ≠ 0 := ⟨Nat.le_trans (dl_mono (Nat.le_of_dvd (Nat.pos_of_ne_zero hm) (Nat.gcd_dvd_left _ _))) h, fun e => hm (Nat.eq_zero_of_gcd_eq_zero_left e)⟩
set_option maxRecDepth 100000 in
set_option maxHeartbeats 4000000 in
theorem surd_gd (v vd : Value) (x : S4) (z0 z1 z2 z3 : Int) (d K : Nat) (w : World) (hv : RdA w v z0 z1 z2 z3) (hd : RdN w vd d) (hx : Sx x z0 z1 z2 z3 d K) (hK : K ≤ 800000) (hg : gAll z0 z1 z2 z3 d = 1) (h1 : d = 1) :
    Calls Tryz.prog 205 #[v, vd] w fun e w' => (∃ v', e = .returned v' ∧ RdS w' v' x K) ∧ Below w.heap.size w w' := by
  have HSX := Lib.hid hx
  have HK := Lib.hid hK
  have HG : Hid ((dl (Nat.gcd d z0.natAbs) ≤ K ∧ Nat.gcd d z0.natAbs ≠ 0) ∧ (dl (Nat.gcd (Nat.gcd d z0.natAbs) z1.natAbs) ≤ K ∧ Nat.gcd (Nat.gcd d z0.natAbs) z1.natAbs ≠ 0) ∧ (dl (Nat.gcd (Nat.gcd (Nat.gcd d z0.natAbs) z1.natAbs) z2.natAbs) ≤ K ∧ Nat.gcd (Nat.gcd (Nat.gcd d z0.natAbs) z1.natAbs) z2.natAbs ≠ 0) ∧ dl (gAll z0 z1 z2 z3 d) ≤ K ∧ gAll z0 z1 z2 z3 d ≠ 0) := by
    have e0 := gcd_dl (n := z0.natAbs) hx.1 hx.2.2.2
    have e1 := gcd_dl (n := z1.natAbs) e0.2 e0.1
    have e2 := gcd_dl (n := z2.natAbs) e1.2 e1.1
    have e3 := gcd_dl (n := z3.natAbs) e2.2 e2.1
    exact ⟨e0, e1, e2, e3.1, e3.2⟩
  have HDV := Lib.hid (gAll_dvd z0 z1 z2 z3 d)
  have HG1 := Lib.hid hg
  have HD1 := Lib.hid h1
  clear hx hg h1
  obtain ⟨gp0a, Ap0a, kp0a, cp0a, gp0b, Ap0b, kp0b, cp0b, gp0c, Ap0c, kp0c, cp0c, gp0d, Ap0d, kp0d, cp0d, rfl, hv⟩ := hv.open
  have HX0 := Lib.hid hv
  clear hv
  obtain ⟨Ap1, kp1, cp1, rfl, hd⟩ := hd.open
  have HX1 := Lib.hid hd
  clear hd
  go_enter Tryz.func205, Tryz.ntmps205
  obtain ⟨W1, HW1, HB2, HSZ_W1, hbx⟩ := st_al0 w #[Value.bool gp0a, Value.slice Ap0a kp0a cp0a, Value.bool gp0b, Value.slice Ap0b kp0b cp0b, Value.bool gp0c, Value.slice Ap0c kp0c cp0c, Value.bool gp0d, Value.slice Ap0d kp0d cp0d] 28
  have hT := Wd.of_below hbx
  replace HX0 := kW hT HX0
  replace HX1 := kW hT HX1
  clear hT
  have HBw := Lib.hid hbx
  clear hbx
  obtain ⟨W3, HW3, HB4, HSZ_W3, hbx⟩ := st_alk 1 2 #[Value.bool false, Value.slice none 0 0, Value.bool false, Value.slice none 0 0, Value.bool false, Value.slice none 0 0, Value.bool false, Value.slice none 0 0, Value.slice none 0 0] 30 HSZ_W1 rfl
  have HNE_B2_B4 : Hid (w.heap.size ≠ w.heap.size + 1) := by show _ ≠ _; have hlt := blk_lt HB2.out; omega
  replace HB2 := kB HB2 hbx
  have HLE_B4 : Hid (w.heap.size ≤ w.heap.size + 1) := by show _ ≤ _; have hlt := HBw.out.size; omega
  have hT := Wd.of_below hbx
  replace HX0 := kW hT HX0
  replace HX1 := kW hT HX1
  clear hT
  replace HBw := kU HBw hbx
  clear hbx
  go_wp2_with fail
  rw [← HW1.out, ← HW3.out]
  refine wp_loop_rounds 5 ?_
  rw [rounds_succ]
  have ix5 : ∀ w, (Instr.index 28 (.agg #[Value.bool gp0a, Value.slice Ap0a kp0a cp0a, Value.bool gp0b, Value.slice Ap0b kp0b cp0b, Value.bool gp0c, Value.slice Ap0c kp0c cp0c, Value.bool gp0d, Value.slice Ap0d kp0d cp0d]) (.int .i64 0)).run Tryz.prog w = .ok (.agg #[Value.bool gp0a, Value.slice Ap0a kp0a cp0a]) w := fun _ => by kernel_rfl
  obtain ⟨W6, HW6, HB7, HSZ_W6, hbx⟩ := st_al0 W3 #[Value.bool gp0a, Value.slice Ap0a kp0a cp0a] 27
  replace HB2 := kB HB2 hbx
  have HNE_B4_B7 : Hid (w.heap.size + 1 ≠ W3.heap.size) := by show _ ≠ _; have hlt := blk_lt HB4.out; omega
  replace HB4 := kB HB4 hbx
  have hT := Wd.of_below hbx
  replace HX0 := kW hT HX0
  replace HX1 := kW hT HX1
  clear hT
  replace HBw := kU HBw hbx
  clear hbx
  go_wp2_with fail
  rw [← HW6.out]
  clear ix5
  refine (gcd_any _ _ d z0.natAbs _ HX1.out HX0.out.z0.abs (by have := HSX.out.2.2.2; omega) (by have := HSX.out.2.2.1.1; omega)).mono ?_
  rintro e w1 ⟨⟨vx, rfl, hr⟩, hbx⟩
  obtain ⟨A1, k1, c1, rfl, hr⟩ := hr.open
  replace HB2 := kB HB2 hbx
  replace HB4 := kB HB4 hbx
  replace HB7 := kB HB7 hbx
  have hT := Wd.of_below hbx
  replace HX0 := kW hT HX0
  replace HX1 := kW hT HX1
  clear hT
  replace HBw := kU HBw hbx
  have HR1 := Lib.hid hr
  clear hr
  clear hbx
  go_wp2_with fail
  rw [rounds_succ]
  have ix8 : ∀ w, (Instr.index 28 (.agg #[Value.bool gp0a, Value.slice Ap0a kp0a cp0a, Value.bool gp0b, Value.slice Ap0b kp0b cp0b, Value.bool gp0c, Value.slice Ap0c kp0c cp0c, Value.bool gp0d, Value.slice Ap0d kp0d cp0d]) (.int .i64 1)).run Tryz.prog w = .ok (.agg #[Value.bool gp0b, Value.slice Ap0b kp0b cp0b]) w := fun _ => by kernel_rfl
  obtain ⟨W9, HW9, HB10, HSZ_W9, hbx⟩ := st_al0 w1 #[Value.bool gp0b, Value.slice Ap0b kp0b cp0b] 27
  replace HB2 := kB HB2 hbx
  have HNE_B4_B10 : Hid (w.heap.size + 1 ≠ w1.heap.size) := by show _ ≠ _; have hlt := blk_lt HB4.out; omega
  replace HB4 := kB HB4 hbx
  replace HB7 := kB HB7 hbx
  have hT := Wd.of_below hbx
  replace HX0 := kW hT HX0
  replace HX1 := kW hT HX1
  replace HR1 := kW hT HR1
  clear hT
  replace HBw := kU HBw hbx
  clear hbx
  go_wp2_with fail
  rw [← HW9.out]
  clear ix8
  refine (gcd_any _ _ _ z1.natAbs _ HR1.out HX0.out.z1.abs (by have := HG.out.1.1; omega) (by have := HSX.out.2.2.1.2.1; omega)).mono ?_
  rintro e w2 ⟨⟨vx, rfl, hr⟩, hbx⟩
  obtain ⟨A2, k2, c2, rfl, hr⟩ := hr.open
  replace HB2 := kB HB2 hbx
  replace HB4 := kB HB4 hbx
  replace HB7 := kB HB7 hbx
  replace HB10 := kB HB10 hbx
  have hT := Wd.of_below hbx
  replace HX0 := kW hT HX0
  replace HX1 := kW hT HX1
  replace HR1 := kW hT HR1
  clear hT
  replace HBw := kU HBw hbx
  have HR2 := Lib.hid hr
  clear hr
  clear HR1
  clear hbx
  go_wp2_with fail
  rw [rounds_succ]
  have ix11 : ∀ w, (Instr.index 28 (.agg #[Value.bool gp0a, Value.slice Ap0a kp0a cp0a, Value.bool gp0b, Value.slice Ap0b kp0b cp0b, Value.bool gp0c, Value.slice Ap0c kp0c cp0c, Value.bool gp0d, Value.slice Ap0d kp0d cp0d]) (.int .i64 2)).run Tryz.prog w = .ok (.agg #[Value.bool gp0c, Value.slice Ap0c kp0c cp0c]) w := fun _ => by kernel_rfl
  obtain ⟨W12, HW12, HB13, HSZ_W12, hbx⟩ := st_al0 w2 #[Value.bool gp0c, Value.slice Ap0c kp0c cp0c] 27
  replace HB2 := kB HB2 hbx
  have HNE_B4_B13 : Hid (w.heap.size + 1 ≠ w2.heap.size) := by show _ ≠ _; have hlt := blk_lt HB4.out; omega
  replace HB4 := kB HB4 hbx
  replace HB7 := kB HB7 hbx
  replace HB10 := kB HB10 hbx
  have hT := Wd.of_below hbx
  replace HX0 := kW hT HX0
  replace HX1 := kW hT HX1
  replace HR2 := kW hT HR2
  clear hT
  replace HBw := kU HBw hbx
  clear hbx
  go_wp2_with fail
  rw [← HW12.out]
  clear ix11
  refine (gcd_any _ _ _ z2.natAbs _ HR2.out HX0.out.z2.abs (by have := HG.out.2.1.1; omega) (by have := HSX.out.2.2.1.2.2.1; omega)).mono ?_
  rintro e w3 ⟨⟨vx, rfl, hr⟩, hbx⟩
  obtain ⟨A3, k3, c3, rfl, hr⟩ := hr.open
  replace HB2 := kB HB2 hbx
  replace HB4 := kB HB4 hbx
  replace HB7 := kB HB7 hbx
  replace HB10 := kB HB10 hbx
  replace HB13 := kB HB13 hbx
  have hT := Wd.of_below hbx
  replace HX0 := kW hT HX0
  replace HX1 := kW hT HX1
  replace HR2 := kW hT HR2
  clear hT
  replace HBw := kU HBw hbx
  have HR3 := Lib.hid hr
  clear hr
  clear HR2
  clear hbx
  go_wp2_with fail
  rw [rounds_succ]
  have ix14 : ∀ w, (Instr.index 28 (.agg #[Value.bool gp0a, Value.slice Ap0a kp0a cp0a, Value.bool gp0b, Value.slice Ap0b kp0b cp0b, Value.bool gp0c, Value.slice Ap0c kp0c cp0c, Value.bool gp0d, Value.slice Ap0d kp0d cp0d]) (.int .i64 3)).run Tryz.prog w = .ok (.agg #[Value.bool gp0d, Value.slice Ap0d kp0d cp0d]) w := fun _ => by kernel_rfl
  obtain ⟨W15, HW15, HB16, HSZ_W15, hbx⟩ := st_al0 w3 #[Value.bool gp0d, Value.slice Ap0d kp0d cp0d] 27
  replace HB2 := kB HB2 hbx
  have HNE_B4_B16 : Hid (w.heap.size + 1 ≠ w3.heap.size) := by show _ ≠ _; have hlt := blk_lt HB4.out; omega
  replace HB4 := kB HB4 hbx
  replace HB7 := kB HB7 hbx
  replace HB10 := kB HB10 hbx
  replace HB13 := kB HB13 hbx
  have hT := Wd.of_below hbx
  replace HX0 := kW hT HX0
  replace HX1 := kW hT HX1
  replace HR3 := kW hT HR3
  clear hT
  replace HBw := kU HBw hbx
  clear hbx
  go_wp2_with fail
  rw [← HW15.out]
  clear ix14
  refine (gcd_any _ _ _ z3.natAbs _ HR3.out HX0.out.z3.abs (by have := HG.out.2.2.1.1; omega) (by have := HSX.out.2.2.1.2.2.2; omega)).mono ?_
  rintro e w4 ⟨⟨vx, rfl, hr⟩, hbx⟩
  obtain ⟨A4, k4, c4, rfl, hr⟩ := hr.open
  replace HB2 := kB HB2 hbx
  replace HB4 := kB HB4 hbx
  replace HB7 := kB HB7 hbx
  replace HB10 := kB HB10 hbx
  replace HB13 := kB HB13 hbx
  replace HB16 := kB HB16 hbx
  have hT := Wd.of_below hbx
  replace HX0 := kW hT HX0
  replace HX1 := kW hT HX1
  replace HR3 := kW hT HR3
  clear hT
  replace HBw := kU HBw hbx
  have HR4 := Lib.hid hr
  clear hr
  clear HR3
  clear hbx
  go_wp2_with fail
  rw [rounds_succ]
  go_wp2_with fail
  refine (isOne_yes _ (gAll z0 z1 z2 z3 d) _ HR4.out HG1.out).mono ?_
  rintro e w5 ⟨rfl, rfl⟩
  go_wp2_with fail
  refine (isOne_yes _ d _ HX1.out HD1.out).mono ?_
  rintro e w6 ⟨rfl, rfl⟩
  have c17 := kC HB2 0 rfl
  have c18 := kC HB2 1 rfl
  have c19 := kC HB2 2 rfl
  have c20 := kC HB2 3 rfl
  have c21 := kC HB2 4 rfl
  have c22 := kC HB2 5 rfl
  have c23 := kC HB2 6 rfl
  have c24 := kC HB2 7 rfl
  have c25 := kC HB4 0 rfl
  have c26 := kF HB4 0
  have c27 := kC HB4 1 rfl
  have c28 := kF HB4 1
  have c29 := kC HB4 2 rfl
  have c30 := kF HB4 2
  have c31 := kC HB4 3 rfl
  have c32 := kF HB4 3
  have c33 := kC HB4 4 rfl
  have c34 := kF HB4 4
  have c35 := kC HB4 5 rfl
  have c36 := kF HB4 5
  have c37 := kC HB4 6 rfl
  have c38 := kF HB4 6
  have c39 := kC HB4 7 rfl
  have c40 := kF HB4 7
  have c41 := kC HB4 8 rfl
  have c42 := kF HB4 8
  obtain ⟨W43, HW43⟩ : ∃ W, Hid (W = (((((((((w4.setCell ⟨w.heap.size + 1, 0, none⟩ (Value.bool gp0a)).setCell ⟨w.heap.size + 1, 1, none⟩ (Value.slice Ap0a kp0a cp0a)).setCell ⟨w.heap.size + 1, 2, none⟩ (Value.bool gp0b)).setCell ⟨w.heap.size + 1, 3, none⟩ (Value.slice Ap0b kp0b cp0b)).setCell ⟨w.heap.size + 1, 4, none⟩ (Value.bool gp0c)).setCell ⟨w.heap.size + 1, 5, none⟩ (Value.slice Ap0c kp0c cp0c)).setCell ⟨w.heap.size + 1, 6, none⟩ (Value.bool gp0d)).setCell ⟨w.heap.size + 1, 7, none⟩ (Value.slice Ap0d kp0d cp0d)).setCell ⟨w.heap.size + 1, 8, none⟩ (Value.slice none 0 0))) := ⟨_, rfl⟩
  have hS : W43 = setsW w4 (w.heap.size + 1) 0 [Value.bool gp0a, Value.slice Ap0a kp0a cp0a, Value.bool gp0b, Value.slice Ap0b kp0b cp0b, Value.bool gp0c, Value.slice Ap0c kp0c cp0c, Value.bool gp0d, Value.slice Ap0d kp0d cp0d, Value.slice none 0 0] := HW43.out
  have hT := kN hS HB4 rfl rfl
  replace HX0 := kW hT HX0
  replace HX1 := kW hT HX1
  replace HR4 := kW hT HR4
  clear hT
  replace HB2 := kO hS HB2 HNE_B2_B4.out
  replace HB4 := kP (ds := [Value.bool gp0a, Value.slice Ap0a kp0a cp0a, Value.bool gp0b, Value.slice Ap0b kp0b cp0b, Value.bool gp0c, Value.slice Ap0c kp0c cp0c, Value.bool gp0d, Value.slice Ap0d kp0d cp0d, Value.slice none 0 0]) hS HB4 rfl rfl
  replace HB7 := kO hS HB7 HNE_B4_B7.out.symm
  replace HB10 := kO hS HB10 HNE_B4_B10.out.symm
  replace HB13 := kO hS HB13 HNE_B4_B13.out.symm
  replace HB16 := kO hS HB16 HNE_B4_B16.out.symm
  replace HBw := kS hS HLE_B4 HBw
  clear hS
  go_wp2_with fail
  rw [← HW43.out]
  clear c17 c18 c19 c20 c21 c22 c23 c24 c25 c26 c27 c28 c29 c30 c31 c32 c33 c34 c35 c36 c37 c38 c39 c40 c41 c42
  have c44 := kC HB4 0 rfl
  have c45 := kC HB4 1 rfl
  have c46 := kC HB4 2 rfl
  have c47 := kC HB4 3 rfl
  have c48 := kC HB4 4 rfl
  have c49 := kC HB4 5 rfl
  have c50 := kC HB4 6 rfl
  have c51 := kC HB4 7 rfl
  have c52 := kC HB4 8 rfl
  exact bodyPost_ret (v := .agg #[Value.bool gp0a, Value.slice Ap0a kp0a cp0a, Value.bool gp0b, Value.slice Ap0b kp0b cp0b, Value.bool gp0c, Value.slice Ap0c kp0c cp0c, Value.bool gp0d, Value.slice Ap0d kp0d cp0d, Value.slice none 0 0]) (by simp [results, Tryz.results205, go_sem, c44, c45, c46, c47, c48, c49, c50, c51, c52]) rfl ⟨⟨_, rfl, (show RdS _ _ x K from ⟨z0, z1, z2, z3, d, RdSn.mk HX0.out.z0 HX0.out.z1 HX0.out.z2 HX0.out.z3 (by rw [HD1.out]; exact RdN.nil0 _), HSX.out⟩)⟩, HBw.out⟩
set_option maxRecDepth 100000 in
set_option maxHeartbeats 4000000 in
theorem surd_gn (v vd : Value) (x : S4) (z0 z1 z2 z3 : Int) (d K : Nat) (w : World) (hv : RdA w v z0 z1 z2 z3) (hd : RdN w vd d) (hx : Sx x z0 z1 z2 z3 d K) (hK : K ≤ 800000) (hg : gAll z0 z1 z2 z3 d = 1) (h1 : d ≠ 1) :
    Calls Tryz.prog 205 #[v, vd] w fun e w' => (∃ v', e = .returned v' ∧ RdS w' v' x K) ∧ Below w.heap.size w w' := by
  have HSX := Lib.hid hx
  have HK := Lib.hid hK
  have HG : Hid ((dl (Nat.gcd d z0.natAbs) ≤ K ∧ Nat.gcd d z0.natAbs ≠ 0) ∧ (dl (Nat.gcd (Nat.gcd d z0.natAbs) z1.natAbs) ≤ K ∧ Nat.gcd (Nat.gcd d z0.natAbs) z1.natAbs ≠ 0) ∧ (dl (Nat.gcd (Nat.gcd (Nat.gcd d z0.natAbs) z1.natAbs) z2.natAbs) ≤ K ∧ Nat.gcd (Nat.gcd (Nat.gcd d z0.natAbs) z1.natAbs) z2.natAbs ≠ 0) ∧ dl (gAll z0 z1 z2 z3 d) ≤ K ∧ gAll z0 z1 z2 z3 d ≠ 0) := by
    have e0 := gcd_dl (n := z0.natAbs) hx.1 hx.2.2.2
    have e1 := gcd_dl (n := z1.natAbs) e0.2 e0.1
    have e2 := gcd_dl (n := z2.natAbs) e1.2 e1.1
    have e3 := gcd_dl (n := z3.natAbs) e2.2 e2.1
    exact ⟨e0, e1, e2, e3.1, e3.2⟩
  have HDV := Lib.hid (gAll_dvd z0 z1 z2 z3 d)
  have HG1 := Lib.hid hg
  have HD1 := Lib.hid h1
  clear hx hg h1
  obtain ⟨gp0a, Ap0a, kp0a, cp0a, gp0b, Ap0b, kp0b, cp0b, gp0c, Ap0c, kp0c, cp0c, gp0d, Ap0d, kp0d, cp0d, rfl, hv⟩ := hv.open
  have HX0 := Lib.hid hv
  clear hv
  obtain ⟨Ap1, kp1, cp1, rfl, hd⟩ := hd.open
  have HX1 := Lib.hid hd
  clear hd
  go_enter Tryz.func205, Tryz.ntmps205
  obtain ⟨W1, HW1, HB2, HSZ_W1, hbx⟩ := st_al0 w #[Value.bool gp0a, Value.slice Ap0a kp0a cp0a, Value.bool gp0b, Value.slice Ap0b kp0b cp0b, Value.bool gp0c, Value.slice Ap0c kp0c cp0c, Value.bool gp0d, Value.slice Ap0d kp0d cp0d] 28
  have hT := Wd.of_below hbx
  replace HX0 := kW hT HX0
  replace HX1 := kW hT HX1
  clear hT
  have HBw := Lib.hid hbx
  clear hbx
  obtain ⟨W3, HW3, HB4, HSZ_W3, hbx⟩ := st_alk 1 2 #[Value.bool false, Value.slice none 0 0, Value.bool false, Value.slice none 0 0, Value.bool false, Value.slice none 0 0, Value.bool false, Value.slice none 0 0, Value.slice none 0 0] 30 HSZ_W1 rfl
  have HNE_B2_B4 : Hid (w.heap.size ≠ w.heap.size + 1) := by show _ ≠ _; have hlt := blk_lt HB2.out; omega
  replace HB2 := kB HB2 hbx
  have HLE_B4 : Hid (w.heap.size ≤ w.heap.size + 1) := by show _ ≤ _; have hlt := HBw.out.size; omega
  have hT := Wd.of_below hbx
  replace HX0 := kW hT HX0
  replace HX1 := kW hT HX1
  clear hT
  replace HBw := kU HBw hbx
  clear hbx
  go_wp2_with fail
  rw [← HW1.out, ← HW3.out]
  refine wp_loop_rounds 5 ?_
  rw [rounds_succ]
  have ix5 : ∀ w, (Instr.index 28 (.agg #[Value.bool gp0a, Value.slice Ap0a kp0a cp0a, Value.bool gp0b, Value.slice Ap0b kp0b cp0b, Value.bool gp0c, Value.slice Ap0c kp0c cp0c, Value.bool gp0d, Value.slice Ap0d kp0d cp0d]) (.int .i64 0)).run Tryz.prog w = .ok (.agg #[Value.bool gp0a, Value.slice Ap0a kp0a cp0a]) w := fun _ => by kernel_rfl
  obtain ⟨W6, HW6, HB7, HSZ_W6, hbx⟩ := st_al0 W3 #[Value.bool gp0a, Value.slice Ap0a kp0a cp0a] 27
  replace HB2 := kB HB2 hbx
  have HNE_B4_B7 : Hid (w.heap.size + 1 ≠ W3.heap.size) := by show _ ≠ _; have hlt := blk_lt HB4.out; omega
  replace HB4 := kB HB4 hbx
  have hT := Wd.of_below hbx
  replace HX0 := kW hT HX0
  replace HX1 := kW hT HX1
  clear hT
  replace HBw := kU HBw hbx
  clear hbx
  go_wp2_with fail
  rw [← HW6.out]
  clear ix5
  refine (gcd_any _ _ d z0.natAbs _ HX1.out HX0.out.z0.abs (by have := HSX.out.2.2.2; omega) (by have := HSX.out.2.2.1.1; omega)).mono ?_
  rintro e w1 ⟨⟨vx, rfl, hr⟩, hbx⟩
  obtain ⟨A1, k1, c1, rfl, hr⟩ := hr.open
  replace HB2 := kB HB2 hbx
  replace HB4 := kB HB4 hbx
  replace HB7 := kB HB7 hbx
  have hT := Wd.of_below hbx
  replace HX0 := kW hT HX0
  replace HX1 := kW hT HX1
  clear hT
  replace HBw := kU HBw hbx
  have HR1 := Lib.hid hr
  clear hr
  clear hbx
  go_wp2_with fail
  rw [rounds_succ]
  have ix8 : ∀ w, (Instr.index 28 (.agg #[Value.bool gp0a, Value.slice Ap0a kp0a cp0a, Value.bool gp0b, Value.slice Ap0b kp0b cp0b, Value.bool gp0c, Value.slice Ap0c kp0c cp0c, Value.bool gp0d, Value.slice Ap0d kp0d cp0d]) (.int .i64 1)).run Tryz.prog w = .ok (.agg #[Value.bool gp0b, Value.slice Ap0b kp0b cp0b]) w := fun _ => by kernel_rfl
  obtain ⟨W9, HW9, HB10, HSZ_W9, hbx⟩ := st_al0 w1 #[Value.bool gp0b, Value.slice Ap0b kp0b cp0b] 27
  replace HB2 := kB HB2 hbx
  have HNE_B4_B10 : Hid (w.heap.size + 1 ≠ w1.heap.size) := by show _ ≠ _; have hlt := blk_lt HB4.out; omega
  replace HB4 := kB HB4 hbx
  replace HB7 := kB HB7 hbx
  have hT := Wd.of_below hbx
  replace HX0 := kW hT HX0
  replace HX1 := kW hT HX1
  replace HR1 := kW hT HR1
  clear hT
  replace HBw := kU HBw hbx
  clear hbx
  go_wp2_with fail
  rw [← HW9.out]
  clear ix8
  refine (gcd_any _ _ _ z1.natAbs _ HR1.out HX0.out.z1.abs (by have := HG.out.1.1; omega) (by have := HSX.out.2.2.1.2.1; omega)).mono ?_
  rintro e w2 ⟨⟨vx, rfl, hr⟩, hbx⟩
  obtain ⟨A2, k2, c2, rfl, hr⟩ := hr.open
  replace HB2 := kB HB2 hbx
  replace HB4 := kB HB4 hbx
  replace HB7 := kB HB7 hbx
  replace HB10 := kB HB10 hbx
  have hT := Wd.of_below hbx
  replace HX0 := kW hT HX0
  replace HX1 := kW hT HX1
  replace HR1 := kW hT HR1
  clear hT
  replace HBw := kU HBw hbx
  have HR2 := Lib.hid hr
  clear hr
  clear HR1
  clear hbx
  go_wp2_with fail
  rw [rounds_succ]
  have ix11 : ∀ w, (Instr.index 28 (.agg #[Value.bool gp0a, Value.slice Ap0a kp0a cp0a, Value.bool gp0b, Value.slice Ap0b kp0b cp0b, Value.bool gp0c, Value.slice Ap0c kp0c cp0c, Value.bool gp0d, Value.slice Ap0d kp0d cp0d]) (.int .i64 2)).run Tryz.prog w = .ok (.agg #[Value.bool gp0c, Value.slice Ap0c kp0c cp0c]) w := fun _ => by kernel_rfl
  obtain ⟨W12, HW12, HB13, HSZ_W12, hbx⟩ := st_al0 w2 #[Value.bool gp0c, Value.slice Ap0c kp0c cp0c] 27
  replace HB2 := kB HB2 hbx
  have HNE_B4_B13 : Hid (w.heap.size + 1 ≠ w2.heap.size) := by show _ ≠ _; have hlt := blk_lt HB4.out; omega
  replace HB4 := kB HB4 hbx
  replace HB7 := kB HB7 hbx
  replace HB10 := kB HB10 hbx
  have hT := Wd.of_below hbx
  replace HX0 := kW hT HX0
  replace HX1 := kW hT HX1
  replace HR2 := kW hT HR2
  clear hT
  replace HBw := kU HBw hbx
  clear hbx
  go_wp2_with fail
  rw [← HW12.out]
  clear ix11
  refine (gcd_any _ _ _ z2.natAbs _ HR2.out HX0.out.z2.abs (by have := HG.out.2.1.1; omega) (by have := HSX.out.2.2.1.2.2.1; omega)).mono ?_
  rintro e w3 ⟨⟨vx, rfl, hr⟩, hbx⟩
  obtain ⟨A3, k3, c3, rfl, hr⟩ := hr.open
  replace HB2 := kB HB2 hbx
  replace HB4 := kB HB4 hbx
  replace HB7 := kB HB7 hbx
  replace HB10 := kB HB10 hbx
  replace HB13 := kB HB13 hbx
  have hT := Wd.of_below hbx
  replace HX0 := kW hT HX0
  replace HX1 := kW hT HX1
  replace HR2 := kW hT HR2
  clear hT
  replace HBw := kU HBw hbx
  have HR3 := Lib.hid hr
  clear hr
  clear HR2
  clear hbx
  go_wp2_with fail
  rw [rounds_succ]
  have ix14 : ∀ w, (Instr.index 28 (.agg #[Value.bool gp0a, Value.slice Ap0a kp0a cp0a, Value.bool gp0b, Value.slice Ap0b kp0b cp0b, Value.bool gp0c, Value.slice Ap0c kp0c cp0c, Value.bool gp0d, Value.slice Ap0d kp0d cp0d]) (.int .i64 3)).run Tryz.prog w = .ok (.agg #[Value.bool gp0d, Value.slice Ap0d kp0d cp0d]) w := fun _ => by kernel_rfl
  obtain ⟨W15, HW15, HB16, HSZ_W15, hbx⟩ := st_al0 w3 #[Value.bool gp0d, Value.slice Ap0d kp0d cp0d] 27
  replace HB2 := kB HB2 hbx
  have HNE_B4_B16 : Hid (w.heap.size + 1 ≠ w3.heap.size) := by show _ ≠ _; have hlt := blk_lt HB4.out; omega
  replace HB4 := kB HB4 hbx
  replace HB7 := kB HB7 hbx
  replace HB10 := kB HB10 hbx
  replace HB13 := kB HB13 hbx
  have hT := Wd.of_below hbx
  replace HX0 := kW hT HX0
  replace HX1 := kW hT HX1
  replace HR3 := kW hT HR3
  clear hT
  replace HBw := kU HBw hbx
  clear hbx
  go_wp2_with fail
  rw [← HW15.out]
  clear ix14
  refine (gcd_any _ _ _ z3.natAbs _ HR3.out HX0.out.z3.abs (by have := HG.out.2.2.1.1; omega) (by have := HSX.out.2.2.1.2.2.2; omega)).mono ?_
  rintro e w4 ⟨⟨vx, rfl, hr⟩, hbx⟩
  obtain ⟨A4, k4, c4, rfl, hr⟩ := hr.open
  replace HB2 := kB HB2 hbx
  replace HB4 := kB HB4 hbx
  replace HB7 := kB HB7 hbx
  replace HB10 := kB HB10 hbx
  replace HB13 := kB HB13 hbx
  replace HB16 := kB HB16 hbx
  have hT := Wd.of_below hbx
  replace HX0 := kW hT HX0
  replace HX1 := kW hT HX1
  replace HR3 := kW hT HR3
  clear hT
  replace HBw := kU HBw hbx
  have HR4 := Lib.hid hr
  clear hr
  clear HR3
  clear hbx
  go_wp2_with fail
  rw [rounds_succ]
  go_wp2_with fail
  refine (isOne_yes _ (gAll z0 z1 z2 z3 d) _ HR4.out HG1.out).mono ?_
  rintro e w5 ⟨rfl, rfl⟩
  go_wp2_with fail
  refine (isOne_no _ d _ HX1.out HD1.out).mono ?_
  rintro e w6 ⟨rfl, rfl⟩
  have c17 := kC HB2 0 rfl
  have c18 := kC HB2 1 rfl
  have c19 := kC HB2 2 rfl
  have c20 := kC HB2 3 rfl
  have c21 := kC HB2 4 rfl
  have c22 := kC HB2 5 rfl
  have c23 := kC HB2 6 rfl
  have c24 := kC HB2 7 rfl
  have c25 := kC HB4 0 rfl
  have c26 := kF HB4 0
  have c27 := kC HB4 1 rfl
  have c28 := kF HB4 1
  have c29 := kC HB4 2 rfl
  have c30 := kF HB4 2
  have c31 := kC HB4 3 rfl
  have c32 := kF HB4 3
  have c33 := kC HB4 4 rfl
  have c34 := kF HB4 4
  have c35 := kC HB4 5 rfl
  have c36 := kF HB4 5
  have c37 := kC HB4 6 rfl
  have c38 := kF HB4 6
  have c39 := kC HB4 7 rfl
  have c40 := kF HB4 7
  have c41 := kC HB4 8 rfl
  have c42 := kF HB4 8
  obtain ⟨W43, HW43⟩ : ∃ W, Hid (W = (((((((((w4.setCell ⟨w.heap.size + 1, 0, none⟩ (Value.bool gp0a)).setCell ⟨w.heap.size + 1, 1, none⟩ (Value.slice Ap0a kp0a cp0a)).setCell ⟨w.heap.size + 1, 2, none⟩ (Value.bool gp0b)).setCell ⟨w.heap.size + 1, 3, none⟩ (Value.slice Ap0b kp0b cp0b)).setCell ⟨w.heap.size + 1, 4, none⟩ (Value.bool gp0c)).setCell ⟨w.heap.size + 1, 5, none⟩ (Value.slice Ap0c kp0c cp0c)).setCell ⟨w.heap.size + 1, 6, none⟩ (Value.bool gp0d)).setCell ⟨w.heap.size + 1, 7, none⟩ (Value.slice Ap0d kp0d cp0d)).setCell ⟨w.heap.size + 1, 8, none⟩ (Value.slice Ap1 kp1 cp1))) := ⟨_, rfl⟩
  have hS : W43 = setsW w4 (w.heap.size + 1) 0 [Value.bool gp0a, Value.slice Ap0a kp0a cp0a, Value.bool gp0b, Value.slice Ap0b kp0b cp0b, Value.bool gp0c, Value.slice Ap0c kp0c cp0c, Value.bool gp0d, Value.slice Ap0d kp0d cp0d, Value.slice Ap1 kp1 cp1] := HW43.out
  have hT := kN hS HB4 rfl rfl
  replace HX0 := kW hT HX0
  replace HX1 := kW hT HX1
  replace HR4 := kW hT HR4
  clear hT
  replace HB2 := kO hS HB2 HNE_B2_B4.out
  replace HB4 := kP (ds := [Value.bool gp0a, Value.slice Ap0a kp0a cp0a, Value.bool gp0b, Value.slice Ap0b kp0b cp0b, Value.bool gp0c, Value.slice Ap0c kp0c cp0c, Value.bool gp0d, Value.slice Ap0d kp0d cp0d, Value.slice Ap1 kp1 cp1]) hS HB4 rfl rfl
  replace HB7 := kO hS HB7 HNE_B4_B7.out.symm
  replace HB10 := kO hS HB10 HNE_B4_B10.out.symm
  replace HB13 := kO hS HB13 HNE_B4_B13.out.symm
  replace HB16 := kO hS HB16 HNE_B4_B16.out.symm
  replace HBw := kS hS HLE_B4 HBw
  clear hS
  go_wp2_with fail
  rw [← HW43.out]
  clear c17 c18 c19 c20 c21 c22 c23 c24 c25 c26 c27 c28 c29 c30 c31 c32 c33 c34 c35 c36 c37 c38 c39 c40 c41 c42
  have c44 := kC HB4 0 rfl
  have c45 := kC HB4 1 rfl
  have c46 := kC HB4 2 rfl
  have c47 := kC HB4 3 rfl
  have c48 := kC HB4 4 rfl
  have c49 := kC HB4 5 rfl
  have c50 := kC HB4 6 rfl
  have c51 := kC HB4 7 rfl
  have c52 := kC HB4 8 rfl
  exact bodyPost_ret (v := .agg #[Value.bool gp0a, Value.slice Ap0a kp0a cp0a, Value.bool gp0b, Value.slice Ap0b kp0b cp0b, Value.bool gp0c, Value.slice Ap0c kp0c cp0c, Value.bool gp0d, Value.slice Ap0d kp0d cp0d, Value.slice Ap1 kp1 cp1]) (by simp [results, Tryz.results205, go_sem, c44, c45, c46, c47, c48, c49, c50, c51, c52]) rfl ⟨⟨_, rfl, (show RdS _ _ x K from ⟨z0, z1, z2, z3, d, RdSn.mk HX0.out.z0 HX0.out.z1 HX0.out.z2 HX0.out.z3 (by rw [den1_ne HD1.out]; exact HX1.out), HSX.out⟩)⟩, HBw.out⟩
set_option maxRecDepth 100000 in
set_option maxHeartbeats 4000000 in
theorem surd_nd (v vd : Value) (x : S4) (z0 z1 z2 z3 : Int) (d K : Nat) (w : World) (hv : RdA w v z0 z1 z2 z3) (hd : RdN w vd d) (hx : Sx x z0 z1 z2 z3 d K) (hK : K ≤ 800000) (hg : gAll z0 z1 z2 z3 d ≠ 1) (h1 : d / gAll z0 z1 z2 z3 d = 1) :
    Calls Tryz.prog 205 #[v, vd] w fun e w' => (∃ v', e = .returned v' ∧ RdS w' v' x K) ∧ Below w.heap.size w w' := by
  have HSX := Lib.hid hx
  have HK := Lib.hid hK
  have HG : Hid ((dl (Nat.gcd d z0.natAbs) ≤ K ∧ Nat.gcd d z0.natAbs ≠ 0) ∧ (dl (Nat.gcd (Nat.gcd d z0.natAbs) z1.natAbs) ≤ K ∧ Nat.gcd (Nat.gcd d z0.natAbs) z1.natAbs ≠ 0) ∧ (dl (Nat.gcd (Nat.gcd (Nat.gcd d z0.natAbs) z1.natAbs) z2.natAbs) ≤ K ∧ Nat.gcd (Nat.gcd (Nat.gcd d z0.natAbs) z1.natAbs) z2.natAbs ≠ 0) ∧ dl (gAll z0 z1 z2 z3 d) ≤ K ∧ gAll z0 z1 z2 z3 d ≠ 0) := by
    have e0 := gcd_dl (n := z0.natAbs) hx.1 hx.2.2.2
    have e1 := gcd_dl (n := z1.natAbs) e0.2 e0.1
    have e2 := gcd_dl (n := z2.natAbs) e1.2 e1.1
    have e3 := gcd_dl (n := z3.natAbs) e2.2 e2.1
    exact ⟨e0, e1, e2, e3.1, e3.2⟩
  have HDV := Lib.hid (gAll_dvd z0 z1 z2 z3 d)
  have HG1 := Lib.hid hg
  have HD1 := Lib.hid h1
  clear hx hg h1
  obtain ⟨gp0a, Ap0a, kp0a, cp0a, gp0b, Ap0b, kp0b, cp0b, gp0c, Ap0c, kp0c, cp0c, gp0d, Ap0d, kp0d, cp0d, rfl, hv⟩ := hv.open
  have HX0 := Lib.hid hv
  clear hv
  obtain ⟨Ap1, kp1, cp1, rfl, hd⟩ := hd.open
  have HX1 := Lib.hid hd
  clear hd
  go_enter Tryz.func205, Tryz.ntmps205
  obtain ⟨W1, HW1, HB2, HSZ_W1, hbx⟩ := st_al0 w #[Value.bool gp0a, Value.slice Ap0a kp0a cp0a, Value.bool gp0b, Value.slice Ap0b kp0b cp0b, Value.bool gp0c, Value.slice Ap0c kp0c cp0c, Value.bool gp0d, Value.slice Ap0d kp0d cp0d] 28
  have HLE_B2 : Hid (w.heap.size ≤ w.heap.size) := by show _ ≤ _; omega
  have hT := Wd.of_below hbx
  replace HX0 := kW hT HX0
  replace HX1 := kW hT HX1
  clear hT
  have HBw := Lib.hid hbx
  clear hbx
  obtain ⟨W3, HW3, HB4, HSZ_W3, hbx⟩ := st_alk 1 2 #[Value.bool false, Value.slice none 0 0, Value.bool false, Value.slice none 0 0, Value.bool false, Value.slice none 0 0, Value.bool false, Value.slice none 0 0, Value.slice none 0 0] 30 HSZ_W1 rfl
  have HNE_B2_B4 : Hid (w.heap.size ≠ w.heap.size + 1) := by show _ ≠ _; have hlt := blk_lt HB2.out; omega
  replace HB2 := kB HB2 hbx
  have HLE_B4 : Hid (w.heap.size ≤ w.heap.size + 1) := by show _ ≤ _; have hlt := HBw.out.size; omega
  have hT := Wd.of_below hbx
  replace HX0 := kW hT HX0
  replace HX1 := kW hT HX1
  clear hT
  replace HBw := kU HBw hbx
  clear hbx
  go_wp2_with fail
  rw [← HW1.out, ← HW3.out]
  refine wp_loop_rounds 5 ?_
  rw [rounds_succ]
  have ix5 : ∀ w, (Instr.index 28 (.agg #[Value.bool gp0a, Value.slice Ap0a kp0a cp0a, Value.bool gp0b, Value.slice Ap0b kp0b cp0b, Value.bool gp0c, Value.slice Ap0c kp0c cp0c, Value.bool gp0d, Value.slice Ap0d kp0d cp0d]) (.int .i64 0)).run Tryz.prog w = .ok (.agg #[Value.bool gp0a, Value.slice Ap0a kp0a cp0a]) w := fun _ => by kernel_rfl
  obtain ⟨W6, HW6, HB7, HSZ_W6, hbx⟩ := st_al0 W3 #[Value.bool gp0a, Value.slice Ap0a kp0a cp0a] 27
  have HNE_B2_B7 : Hid (w.heap.size ≠ W3.heap.size) := by show _ ≠ _; have hlt := blk_lt HB2.out; omega
  replace HB2 := kB HB2 hbx
  have HNE_B4_B7 : Hid (w.heap.size + 1 ≠ W3.heap.size) := by show _ ≠ _; have hlt := blk_lt HB4.out; omega
  replace HB4 := kB HB4 hbx
  have hT := Wd.of_below hbx
  replace HX0 := kW hT HX0
  replace HX1 := kW hT HX1
  clear hT
  replace HBw := kU HBw hbx
  clear hbx
  go_wp2_with fail
  rw [← HW6.out]
  clear ix5
  refine (gcd_any _ _ d z0.natAbs _ HX1.out HX0.out.z0.abs (by have := HSX.out.2.2.2; omega) (by have := HSX.out.2.2.1.1; omega)).mono ?_
  rintro e w1 ⟨⟨vx, rfl, hr⟩, hbx⟩
  obtain ⟨A1, k1, c1, rfl, hr⟩ := hr.open
  replace HB2 := kB HB2 hbx
  replace HB4 := kB HB4 hbx
  replace HB7 := kB HB7 hbx
  have hT := Wd.of_below hbx
  replace HX0 := kW hT HX0
  replace HX1 := kW hT HX1
  clear hT
  replace HBw := kU HBw hbx
  have HR1 := Lib.hid hr
  clear hr
  clear hbx
  go_wp2_with fail
  rw [rounds_succ]
  have ix8 : ∀ w, (Instr.index 28 (.agg #[Value.bool gp0a, Value.slice Ap0a kp0a cp0a, Value.bool gp0b, Value.slice Ap0b kp0b cp0b, Value.bool gp0c, Value.slice Ap0c kp0c cp0c, Value.bool gp0d, Value.slice Ap0d kp0d cp0d]) (.int .i64 1)).run Tryz.prog w = .ok (.agg #[Value.bool gp0b, Value.slice Ap0b kp0b cp0b]) w := fun _ => by kernel_rfl
  obtain ⟨W9, HW9, HB10, HSZ_W9, hbx⟩ := st_al0 w1 #[Value.bool gp0b, Value.slice Ap0b kp0b cp0b] 27
  have HNE_B2_B10 : Hid (w.heap.size ≠ w1.heap.size) := by show _ ≠ _; have hlt := blk_lt HB2.out; omega
  replace HB2 := kB HB2 hbx
  have HNE_B4_B10 : Hid (w.heap.size + 1 ≠ w1.heap.size) := by show _ ≠ _; have hlt := blk_lt HB4.out; omega
  replace HB4 := kB HB4 hbx
  replace HB7 := kB HB7 hbx
  have hT := Wd.of_below hbx
  replace HX0 := kW hT HX0
  replace HX1 := kW hT HX1
  replace HR1 := kW hT HR1
  clear hT
  replace HBw := kU HBw hbx
  clear hbx
  go_wp2_with fail
  rw [← HW9.out]
  clear ix8
  refine (gcd_any _ _ _ z1.natAbs _ HR1.out HX0.out.z1.abs (by have := HG.out.1.1; omega) (by have := HSX.out.2.2.1.2.1; omega)).mono ?_
  rintro e w2 ⟨⟨vx, rfl, hr⟩, hbx⟩
  obtain ⟨A2, k2, c2, rfl, hr⟩ := hr.open
  replace HB2 := kB HB2 hbx
  replace HB4 := kB HB4 hbx
  replace HB7 := kB HB7 hbx
  replace HB10 := kB HB10 hbx
  have hT := Wd.of_below hbx
  replace HX0 := kW hT HX0
  replace HX1 := kW hT HX1
  replace HR1 := kW hT HR1
  clear hT
  replace HBw := kU HBw hbx
  have HR2 := Lib.hid hr
  clear hr
  clear HR1
  clear hbx
  go_wp2_with fail
  rw [rounds_succ]
  have ix11 : ∀ w, (Instr.index 28 (.agg #[Value.bool gp0a, Value.slice Ap0a kp0a cp0a, Value.bool gp0b, Value.slice Ap0b kp0b cp0b, Value.bool gp0c, Value.slice Ap0c kp0c cp0c, Value.bool gp0d, Value.slice Ap0d kp0d cp0d]) (.int .i64 2)).run Tryz.prog w = .ok (.agg #[Value.bool gp0c, Value.slice Ap0c kp0c cp0c]) w := fun _ => by kernel_rfl
  obtain ⟨W12, HW12, HB13, HSZ_W12, hbx⟩ := st_al0 w2 #[Value.bool gp0c, Value.slice Ap0c kp0c cp0c] 27
  have HNE_B2_B13 : Hid (w.heap.size ≠ w2.heap.size) := by show _ ≠ _; have hlt := blk_lt HB2.out; omega
  replace HB2 := kB HB2 hbx
  have HNE_B4_B13 : Hid (w.heap.size + 1 ≠ w2.heap.size) := by show _ ≠ _; have hlt := blk_lt HB4.out; omega
  replace HB4 := kB HB4 hbx
  replace HB7 := kB HB7 hbx
  replace HB10 := kB HB10 hbx
  have hT := Wd.of_below hbx
  replace HX0 := kW hT HX0
  replace HX1 := kW hT HX1
  replace HR2 := kW hT HR2
  clear hT
  replace HBw := kU HBw hbx
  clear hbx
  go_wp2_with fail
  rw [← HW12.out]
  clear ix11
  refine (gcd_any _ _ _ z2.natAbs _ HR2.out HX0.out.z2.abs (by have := HG.out.2.1.1; omega) (by have := HSX.out.2.2.1.2.2.1; omega)).mono ?_
  rintro e w3 ⟨⟨vx, rfl, hr⟩, hbx⟩
  obtain ⟨A3, k3, c3, rfl, hr⟩ := hr.open
  replace HB2 := kB HB2 hbx
  replace HB4 := kB HB4 hbx
  replace HB7 := kB HB7 hbx
  replace HB10 := kB HB10 hbx
  replace HB13 := kB HB13 hbx
  have hT := Wd.of_below hbx
  replace HX0 := kW hT HX0
  replace HX1 := kW hT HX1
  replace HR2 := kW hT HR2
  clear hT
  replace HBw := kU HBw hbx
  have HR3 := Lib.hid hr
  clear hr
  clear HR2
  clear hbx
  go_wp2_with fail
  rw [rounds_succ]
  have ix14 : ∀ w, (Instr.index 28 (.agg #[Value.bool gp0a, Value.slice Ap0a kp0a cp0a, Value.bool gp0b, Value.slice Ap0b kp0b cp0b, Value.bool gp0c, Value.slice Ap0c kp0c cp0c, Value.bool gp0d, Value.slice Ap0d kp0d cp0d]) (.int .i64 3)).run Tryz.prog w = .ok (.agg #[Value.bool gp0d, Value.slice Ap0d kp0d cp0d]) w := fun _ => by kernel_rfl
  obtain ⟨W15, HW15, HB16, HSZ_W15, hbx⟩ := st_al0 w3 #[Value.bool gp0d, Value.slice Ap0d kp0d cp0d] 27
  have HNE_B2_B16 : Hid (w.heap.size ≠ w3.heap.size) := by show _ ≠ _; have hlt := blk_lt HB2.out; omega
  replace HB2 := kB HB2 hbx
  have HNE_B4_B16 : Hid (w.heap.size + 1 ≠ w3.heap.size) := by show _ ≠ _; have hlt := blk_lt HB4.out; omega
  replace HB4 := kB HB4 hbx
  replace HB7 := kB HB7 hbx
  replace HB10 := kB HB10 hbx
  replace HB13 := kB HB13 hbx
  have hT := Wd.of_below hbx
  replace HX0 := kW hT HX0
  replace HX1 := kW hT HX1
  replace HR3 := kW hT HR3
  clear hT
  replace HBw := kU HBw hbx
  clear hbx
  go_wp2_with fail
  rw [← HW15.out]
  clear ix14
  refine (gcd_any _ _ _ z3.natAbs _ HR3.out HX0.out.z3.abs (by have := HG.out.2.2.1.1; omega) (by have := HSX.out.2.2.1.2.2.2; omega)).mono ?_
  rintro e w4 ⟨⟨vx, rfl, hr⟩, hbx⟩
  obtain ⟨A4, k4, c4, rfl, hr⟩ := hr.open
  replace HB2 := kB HB2 hbx
  replace HB4 := kB HB4 hbx
  replace HB7 := kB HB7 hbx
  replace HB10 := kB HB10 hbx
  replace HB13 := kB HB13 hbx
  replace HB16 := kB HB16 hbx
  have hT := Wd.of_below hbx
  replace HX0 := kW hT HX0
  replace HX1 := kW hT HX1
  replace HR3 := kW hT HR3
  clear hT
  replace HBw := kU HBw hbx
  have HR4 := Lib.hid hr
  clear hr
  clear HR3
  clear hbx
  go_wp2_with fail
  rw [rounds_succ]
  go_wp2_with fail
  refine (isOne_no _ (gAll z0 z1 z2 z3 d) _ HR4.out HG1.out).mono ?_
  rintro e w5 ⟨rfl, rfl⟩
  go_wp2_with fail
  refine wp_loop_rounds 5 ?_
  rw [rounds_succ]
  have c17 := kC HB2 1 rfl
  go_wp2_with fail
  clear c17
  refine (divPair _ _ z0.natAbs (gAll z0 z1 z2 z3 d) _ HX0.out.z0.abs HR4.out HG.out.2.2.2.2 (by have := HSX.out.2.2.1.1; omega) (by have := HG.out.2.2.2.1; omega)).mono ?_
  rintro e w6 ⟨⟨vx, vy, rfl, hr, hr2⟩, hbx⟩
  obtain ⟨A6a, k6a, c6a, rfl, hr⟩ := hr.open
  obtain ⟨A6b, k6b, c6b, rfl, hr2⟩ := hr2.open
  replace HB2 := kB HB2 hbx
  replace HB4 := kB HB4 hbx
  replace HB7 := kB HB7 hbx
  replace HB10 := kB HB10 hbx
  replace HB13 := kB HB13 hbx
  replace HB16 := kB HB16 hbx
  have hT := Wd.of_below hbx
  replace HX0 := kW hT HX0
  replace HX1 := kW hT HX1
  replace HR4 := kW hT HR4
  clear hT
  replace HBw := kU HBw hbx
  have HR6 := Lib.hid hr
  have HR6b := Lib.hid hr2
  clear hr2
  clear hr
  clear hbx
  have c18 := kC HB2 1 rfl
  have c19 := kF HB2 1
  obtain ⟨W20, HW20⟩ : ∃ W, Hid (W = (w6.setCell ⟨w.heap.size, 1, none⟩ (Value.slice A6a k6a c6a))) := ⟨_, rfl⟩
  have hS := kM1 HW20
  have hT := kN hS HB2 rfl rfl
  replace HX0 := kW hT HX0
  replace HX1 := kW hT HX1
  replace HR4 := kW hT HR4
  replace HR6 := kW hT HR6
  replace HR6b := kW hT HR6b
  clear hT
  replace HB2 := kP (ds := [Value.bool gp0a, Value.slice A6a k6a c6a, Value.bool gp0b, Value.slice Ap0b kp0b cp0b, Value.bool gp0c, Value.slice Ap0c kp0c cp0c, Value.bool gp0d, Value.slice Ap0d kp0d cp0d]) hS HB2 rfl rfl
  replace HB4 := kO hS HB4 HNE_B2_B4.out.symm
  replace HB7 := kO hS HB7 HNE_B2_B7.out.symm
  replace HB10 := kO hS HB10 HNE_B2_B10.out.symm
  replace HB13 := kO hS HB13 HNE_B2_B13.out.symm
  replace HB16 := kO hS HB16 HNE_B2_B16.out.symm
  replace HBw := kS hS HLE_B2 HBw
  clear hS
  go_wp2_with fail
  rw [← HW20.out]
  clear c18 c19
  rw [rounds_succ]
  have c21 := kC HB2 3 rfl
  go_wp2_with fail
  clear c21
  refine (divPair _ _ z1.natAbs (gAll z0 z1 z2 z3 d) _ HX0.out.z1.abs HR4.out HG.out.2.2.2.2 (by have := HSX.out.2.2.1.2.1; omega) (by have := HG.out.2.2.2.1; omega)).mono ?_
  rintro e w7 ⟨⟨vx, vy, rfl, hr, hr2⟩, hbx⟩
  obtain ⟨A7a, k7a, c7a, rfl, hr⟩ := hr.open
  obtain ⟨A7b, k7b, c7b, rfl, hr2⟩ := hr2.open
  replace HB2 := kB HB2 hbx
  replace HB4 := kB HB4 hbx
  replace HB7 := kB HB7 hbx
  replace HB10 := kB HB10 hbx
  replace HB13 := kB HB13 hbx
  replace HB16 := kB HB16 hbx
  have hT := Wd.of_below hbx
  replace HX0 := kW hT HX0
  replace HX1 := kW hT HX1
  replace HR4 := kW hT HR4
  replace HR6 := kW hT HR6
  replace HR6b := kW hT HR6b
  clear hT
  replace HBw := kU HBw hbx
  have HR7 := Lib.hid hr
  have HR7b := Lib.hid hr2
  clear hr2
  clear hr
  clear HR6b
  clear hbx
  have c22 := kC HB2 3 rfl
  have c23 := kF HB2 3
  obtain ⟨W24, HW24⟩ : ∃ W, Hid (W = (w7.setCell ⟨w.heap.size, 3, none⟩ (Value.slice A7a k7a c7a))) := ⟨_, rfl⟩
  have hS := kM1 HW24
  have hT := kN hS HB2 rfl rfl
  replace HX0 := kW hT HX0
  replace HX1 := kW hT HX1
  replace HR4 := kW hT HR4
  replace HR6 := kW hT HR6
  replace HR7 := kW hT HR7
  replace HR7b := kW hT HR7b
  clear hT
  replace HB2 := kP (ds := [Value.bool gp0a, Value.slice A6a k6a c6a, Value.bool gp0b, Value.slice A7a k7a c7a, Value.bool gp0c, Value.slice Ap0c kp0c cp0c, Value.bool gp0d, Value.slice Ap0d kp0d cp0d]) hS HB2 rfl rfl
  replace HB4 := kO hS HB4 HNE_B2_B4.out.symm
  replace HB7 := kO hS HB7 HNE_B2_B7.out.symm
  replace HB10 := kO hS HB10 HNE_B2_B10.out.symm
  replace HB13 := kO hS HB13 HNE_B2_B13.out.symm
  replace HB16 := kO hS HB16 HNE_B2_B16.out.symm
  replace HBw := kS hS HLE_B2 HBw
  clear hS
  go_wp2_with fail
  rw [← HW24.out]
  clear c22 c23
  rw [rounds_succ]
  have c25 := kC HB2 5 rfl
  go_wp2_with fail
  clear c25
  refine (divPair _ _ z2.natAbs (gAll z0 z1 z2 z3 d) _ HX0.out.z2.abs HR4.out HG.out.2.2.2.2 (by have := HSX.out.2.2.1.2.2.1; omega) (by have := HG.out.2.2.2.1; omega)).mono ?_
  rintro e w8 ⟨⟨vx, vy, rfl, hr, hr2⟩, hbx⟩
  obtain ⟨A8a, k8a, c8a, rfl, hr⟩ := hr.open
  obtain ⟨A8b, k8b, c8b, rfl, hr2⟩ := hr2.open
  replace HB2 := kB HB2 hbx
  replace HB4 := kB HB4 hbx
  replace HB7 := kB HB7 hbx
  replace HB10 := kB HB10 hbx
  replace HB13 := kB HB13 hbx
  replace HB16 := kB HB16 hbx
  have hT := Wd.of_below hbx
  replace HX0 := kW hT HX0
  replace HX1 := kW hT HX1
  replace HR4 := kW hT HR4
  replace HR6 := kW hT HR6
  replace HR7 := kW hT HR7
  replace HR7b := kW hT HR7b
  clear hT
  replace HBw := kU HBw hbx
  have HR8 := Lib.hid hr
  have HR8b := Lib.hid hr2
  clear hr2
  clear hr
  clear HR7b
  clear hbx
  have c26 := kC HB2 5 rfl
  have c27 := kF HB2 5
  obtain ⟨W28, HW28⟩ : ∃ W, Hid (W = (w8.setCell ⟨w.heap.size, 5, none⟩ (Value.slice A8a k8a c8a))) := ⟨_, rfl⟩
  have hS := kM1 HW28
  have hT := kN hS HB2 rfl rfl
  replace HX0 := kW hT HX0
  replace HX1 := kW hT HX1
  replace HR4 := kW hT HR4
  replace HR6 := kW hT HR6
  replace HR7 := kW hT HR7
  replace HR8 := kW hT HR8
  replace HR8b := kW hT HR8b
  clear hT
  replace HB2 := kP (ds := [Value.bool gp0a, Value.slice A6a k6a c6a, Value.bool gp0b, Value.slice A7a k7a c7a, Value.bool gp0c, Value.slice A8a k8a c8a, Value.bool gp0d, Value.slice Ap0d kp0d cp0d]) hS HB2 rfl rfl
  replace HB4 := kO hS HB4 HNE_B2_B4.out.symm
  replace HB7 := kO hS HB7 HNE_B2_B7.out.symm
  replace HB10 := kO hS HB10 HNE_B2_B10.out.symm
  replace HB13 := kO hS HB13 HNE_B2_B13.out.symm
  replace HB16 := kO hS HB16 HNE_B2_B16.out.symm
  replace HBw := kS hS HLE_B2 HBw
  clear hS
  go_wp2_with fail
  rw [← HW28.out]
  clear c26 c27
  rw [rounds_succ]
  have c29 := kC HB2 7 rfl
  go_wp2_with fail
  clear c29
  refine (divPair _ _ z3.natAbs (gAll z0 z1 z2 z3 d) _ HX0.out.z3.abs HR4.out HG.out.2.2.2.2 (by have := HSX.out.2.2.1.2.2.2; omega) (by have := HG.out.2.2.2.1; omega)).mono ?_
  rintro e w9 ⟨⟨vx, vy, rfl, hr, hr2⟩, hbx⟩
  obtain ⟨A9a, k9a, c9a, rfl, hr⟩ := hr.open
  obtain ⟨A9b, k9b, c9b, rfl, hr2⟩ := hr2.open
  replace HB2 := kB HB2 hbx
  replace HB4 := kB HB4 hbx
  replace HB7 := kB HB7 hbx
  replace HB10 := kB HB10 hbx
  replace HB13 := kB HB13 hbx
  replace HB16 := kB HB16 hbx
  have hT := Wd.of_below hbx
  replace HX0 := kW hT HX0
  replace HX1 := kW hT HX1
  replace HR4 := kW hT HR4
  replace HR6 := kW hT HR6
  replace HR7 := kW hT HR7
  replace HR8 := kW hT HR8
  replace HR8b := kW hT HR8b
  clear hT
  replace HBw := kU HBw hbx
  have HR9 := Lib.hid hr
  have HR9b := Lib.hid hr2
  clear hr2
  clear hr
  clear HR8b
  clear hbx
  have c30 := kC HB2 7 rfl
  have c31 := kF HB2 7
  obtain ⟨W32, HW32⟩ : ∃ W, Hid (W = (w9.setCell ⟨w.heap.size, 7, none⟩ (Value.slice A9a k9a c9a))) := ⟨_, rfl⟩
  have hS := kM1 HW32
  have hT := kN hS HB2 rfl rfl
  replace HX0 := kW hT HX0
  replace HX1 := kW hT HX1
  replace HR4 := kW hT HR4
  replace HR6 := kW hT HR6
  replace HR7 := kW hT HR7
  replace HR8 := kW hT HR8
  replace HR9 := kW hT HR9
  replace HR9b := kW hT HR9b
  clear hT
  replace HB2 := kP (ds := [Value.bool gp0a, Value.slice A6a k6a c6a, Value.bool gp0b, Value.slice A7a k7a c7a, Value.bool gp0c, Value.slice A8a k8a c8a, Value.bool gp0d, Value.slice A9a k9a c9a]) hS HB2 rfl rfl
  replace HB4 := kO hS HB4 HNE_B2_B4.out.symm
  replace HB7 := kO hS HB7 HNE_B2_B7.out.symm
  replace HB10 := kO hS HB10 HNE_B2_B10.out.symm
  replace HB13 := kO hS HB13 HNE_B2_B13.out.symm
  replace HB16 := kO hS HB16 HNE_B2_B16.out.symm
  replace HBw := kS hS HLE_B2 HBw
  clear hS
  go_wp2_with fail
  rw [← HW32.out]
  clear c30 c31
  rw [rounds_succ]
  go_wp2_with fail
  refine (divPair _ _ d (gAll z0 z1 z2 z3 d) _ HX1.out HR4.out HG.out.2.2.2.2 (by have := HSX.out.2.2.2; omega) (by have := HG.out.2.2.2.1; omega)).mono ?_
  rintro e w10 ⟨⟨vx, vy, rfl, hr, hr2⟩, hbx⟩
  obtain ⟨A10a, k10a, c10a, rfl, hr⟩ := hr.open
  obtain ⟨A10b, k10b, c10b, rfl, hr2⟩ := hr2.open
  replace HB2 := kB HB2 hbx
  replace HB4 := kB HB4 hbx
  replace HB7 := kB HB7 hbx
  replace HB10 := kB HB10 hbx
  replace HB13 := kB HB13 hbx
  replace HB16 := kB HB16 hbx
  have hT := Wd.of_below hbx
  replace HX0 := kW hT HX0
  replace HX1 := kW hT HX1
  replace HR4 := kW hT HR4
  replace HR6 := kW hT HR6
  replace HR7 := kW hT HR7
  replace HR8 := kW hT HR8
  replace HR9 := kW hT HR9
  replace HR9b := kW hT HR9b
  clear hT
  replace HBw := kU HBw hbx
  have HR10 := Lib.hid hr
  have HR10b := Lib.hid hr2
  clear hr2
  clear hr
  clear HR4
  clear HR9b
  clear hbx
  go_wp2_with fail
  refine (isOne_yes _ (d / gAll z0 z1 z2 z3 d) _ HR10.out HD1.out).mono ?_
  rintro e w11 ⟨rfl, rfl⟩
  have c33 := kC HB2 0 rfl
  have c34 := kC HB2 1 rfl
  have c35 := kC HB2 2 rfl
  have c36 := kC HB2 3 rfl
  have c37 := kC HB2 4 rfl
  have c38 := kC HB2 5 rfl
  have c39 := kC HB2 6 rfl
  have c40 := kC HB2 7 rfl
  have c41 := kC HB4 0 rfl
  have c42 := kF HB4 0
  have c43 := kC HB4 1 rfl
  have c44 := kF HB4 1
  have c45 := kC HB4 2 rfl
  have c46 := kF HB4 2
  have c47 := kC HB4 3 rfl
  have c48 := kF HB4 3
  have c49 := kC HB4 4 rfl
  have c50 := kF HB4 4
  have c51 := kC HB4 5 rfl
  have c52 := kF HB4 5
  have c53 := kC HB4 6 rfl
  have c54 := kF HB4 6
  have c55 := kC HB4 7 rfl
  have c56 := kF HB4 7
  have c57 := kC HB4 8 rfl
  have c58 := kF HB4 8
  obtain ⟨W59, HW59⟩ : ∃ W, Hid (W = (((((((((w10.setCell ⟨w.heap.size + 1, 0, none⟩ (Value.bool gp0a)).setCell ⟨w.heap.size + 1, 1, none⟩ (Value.slice A6a k6a c6a)).setCell ⟨w.heap.size + 1, 2, none⟩ (Value.bool gp0b)).setCell ⟨w.heap.size + 1, 3, none⟩ (Value.slice A7a k7a c7a)).setCell ⟨w.heap.size + 1, 4, none⟩ (Value.bool gp0c)).setCell ⟨w.heap.size + 1, 5, none⟩ (Value.slice A8a k8a c8a)).setCell ⟨w.heap.size + 1, 6, none⟩ (Value.bool gp0d)).setCell ⟨w.heap.size + 1, 7, none⟩ (Value.slice A9a k9a c9a)).setCell ⟨w.heap.size + 1, 8, none⟩ (Value.slice none 0 0))) := ⟨_, rfl⟩
  have hS : W59 = setsW w10 (w.heap.size + 1) 0 [Value.bool gp0a, Value.slice A6a k6a c6a, Value.bool gp0b, Value.slice A7a k7a c7a, Value.bool gp0c, Value.slice A8a k8a c8a, Value.bool gp0d, Value.slice A9a k9a c9a, Value.slice none 0 0] := HW59.out
  have hT := kN hS HB4 rfl rfl
  replace HX0 := kW hT HX0
  replace HX1 := kW hT HX1
  replace HR6 := kW hT HR6
  replace HR7 := kW hT HR7
  replace HR8 := kW hT HR8
  replace HR9 := kW hT HR9
  replace HR10 := kW hT HR10
  replace HR10b := kW hT HR10b
  clear hT
  replace HB2 := kO hS HB2 HNE_B2_B4.out
  replace HB4 := kP (ds := [Value.bool gp0a, Value.slice A6a k6a c6a, Value.bool gp0b, Value.slice A7a k7a c7a, Value.bool gp0c, Value.slice A8a k8a c8a, Value.bool gp0d, Value.slice A9a k9a c9a, Value.slice none 0 0]) hS HB4 rfl rfl
  replace HB7 := kO hS HB7 HNE_B4_B7.out.symm
  replace HB10 := kO hS HB10 HNE_B4_B10.out.symm
  replace HB13 := kO hS HB13 HNE_B4_B13.out.symm
  replace HB16 := kO hS HB16 HNE_B4_B16.out.symm
  replace HBw := kS hS HLE_B4 HBw
  clear hS
  go_wp2_with fail
  rw [← HW59.out]
  clear c33 c34 c35 c36 c37 c38 c39 c40 c41 c42 c43 c44 c45 c46 c47 c48 c49 c50 c51 c52 c53 c54 c55 c56 c57 c58
  have c60 := kC HB4 0 rfl
  have c61 := kC HB4 1 rfl
  have c62 := kC HB4 2 rfl
  have c63 := kC HB4 3 rfl
  have c64 := kC HB4 4 rfl
  have c65 := kC HB4 5 rfl
  have c66 := kC HB4 6 rfl
  have c67 := kC HB4 7 rfl
  have c68 := kC HB4 8 rfl
  exact bodyPost_ret (v := .agg #[Value.bool gp0a, Value.slice A6a k6a c6a, Value.bool gp0b, Value.slice A7a k7a c7a, Value.bool gp0c, Value.slice A8a k8a c8a, Value.bool gp0d, Value.slice A9a k9a c9a, Value.slice none 0 0]) (by simp [results, Tryz.results205, go_sem, c60, c61, c62, c63, c64, c65, c66, c67, c68]) rfl ⟨⟨_, rfl, (show RdS _ _ x K from ⟨_, _, _, _, _, RdSn.mk (HX0.out.z0.div HG.out.2.2.2.2 HDV.out.2.1 HR6.out) (HX0.out.z1.div HG.out.2.2.2.2 HDV.out.2.2.1 HR7.out) (HX0.out.z2.div HG.out.2.2.2.2 HDV.out.2.2.2.1 HR8.out) (HX0.out.z3.div HG.out.2.2.2.2 HDV.out.2.2.2.2 HR9.out) (by rw [HD1.out]; exact RdN.nil0 _), HSX.out.div HG.out.2.2.2.2 HDV.out.1 HDV.out.2.1 HDV.out.2.2.1 HDV.out.2.2.2.1 HDV.out.2.2.2.2⟩)⟩, HBw.out⟩
set_option maxRecDepth 100000 in
set_option maxHeartbeats 4000000 in
theorem surd_nn (v vd : Value) (x : S4) (z0 z1 z2 z3 : Int) (d K : Nat) (w : World) (hv : RdA w v z0 z1 z2 z3) (hd : RdN w vd d) (hx : Sx x z0 z1 z2 z3 d K) (hK : K ≤ 800000) (hg : gAll z0 z1 z2 z3 d ≠ 1) (h1 : d / gAll z0 z1 z2 z3 d ≠ 1) :
    Calls Tryz.prog 205 #[v, vd] w fun e w' => (∃ v', e = .returned v' ∧ RdS w' v' x K) ∧ Below w.heap.size w w' := by
  have HSX := Lib.hid hx
  have HK := Lib.hid hK
  have HG : Hid ((dl (Nat.gcd d z0.natAbs) ≤ K ∧ Nat.gcd d z0.natAbs ≠ 0) ∧ (dl (Nat.gcd (Nat.gcd d z0.natAbs) z1.natAbs) ≤ K ∧ Nat.gcd (Nat.gcd d z0.natAbs) z1.natAbs ≠ 0) ∧ (dl (Nat.gcd (Nat.gcd (Nat.gcd d z0.natAbs) z1.natAbs) z2.natAbs) ≤ K ∧ Nat.gcd (Nat.gcd (Nat.gcd d z0.natAbs) z1.natAbs) z2.natAbs ≠ 0) ∧ dl (gAll z0 z1 z2 z3 d) ≤ K ∧ gAll z0 z1 z2 z3 d ≠ 0) := by
    have e0 := gcd_dl (n := z0.natAbs) hx.1 hx.2.2.2
    have e1 := gcd_dl (n := z1.natAbs) e0.2 e0.1
    have e2 := gcd_dl (n := z2.natAbs) e1.2 e1.1
    have e3 := gcd_dl (n := z3.natAbs) e2.2 e2.1
    exact ⟨e0, e1, e2, e3.1, e3.2⟩
  have HDV := Lib.hid (gAll_dvd z0 z1 z2 z3 d)
  have HG1 := Lib.hid hg
  have HD1 := Lib.hid h1
  clear hx hg h1
  obtain ⟨gp0a, Ap0a, kp0a, cp0a, gp0b, Ap0b, kp0b, cp0b, gp0c, Ap0c, kp0c, cp0c, gp0d, Ap0d, kp0d, cp0d, rfl, hv⟩ := hv.open
  have HX0 := Lib.hid hv
  clear hv
  obtain ⟨Ap1, kp1, cp1, rfl, hd⟩ := hd.open
  have HX1 := Lib.hid hd
  clear hd
  go_enter Tryz.func205, Tryz.ntmps205
  obtain ⟨W1, HW1, HB2, HSZ_W1, hbx⟩ := st_al0 w #[Value.bool gp0a, Value.slice Ap0a kp0a cp0a, Value.bool gp0b, Value.slice Ap0b kp0b cp0b, Value.bool gp0c, Value.slice Ap0c kp0c cp0c, Value.bool gp0d, Value.slice Ap0d kp0d cp0d] 28
  have HLE_B2 : Hid (w.heap.size ≤ w.heap.size) := by show _ ≤ _; omega
  have hT := Wd.of_below hbx
  replace HX0 := kW hT HX0
  replace HX1 := kW hT HX1
  clear hT
  have HBw := Lib.hid hbx
  clear hbx
  obtain ⟨W3, HW3, HB4, HSZ_W3, hbx⟩ := st_alk 1 2 #[Value.bool false, Value.slice none 0 0, Value.bool false, Value.slice none 0 0, Value.bool false, Value.slice none 0 0, Value.bool false, Value.slice none 0 0, Value.slice none 0 0] 30 HSZ_W1 rfl
  have HNE_B2_B4 : Hid (w.heap.size ≠ w.heap.size + 1) := by show _ ≠ _; have hlt := blk_lt HB2.out; omega
  replace HB2 := kB HB2 hbx
  have HLE_B4 : Hid (w.heap.size ≤ w.heap.size + 1) := by show _ ≤ _; have hlt := HBw.out.size; omega
  have hT := Wd.of_below hbx
  replace HX0 := kW hT HX0
  replace HX1 := kW hT HX1
  clear hT
  replace HBw := kU HBw hbx
  clear hbx
  go_wp2_with fail
  rw [← HW1.out, ← HW3.out]
  refine wp_loop_rounds 5 ?_
  rw [rounds_succ]
  have ix5 : ∀ w, (Instr.index 28 (.agg #[Value.bool gp0a, Value.slice Ap0a kp0a cp0a, Value.bool gp0b, Value.slice Ap0b kp0b cp0b, Value.bool gp0c, Value.slice Ap0c kp0c cp0c, Value.bool gp0d, Value.slice Ap0d kp0d cp0d]) (.int .i64 0)).run Tryz.prog w = .ok (.agg #[Value.bool gp0a, Value.slice Ap0a kp0a cp0a]) w := fun _ => by kernel_rfl
  obtain ⟨W6, HW6, HB7, HSZ_W6, hbx⟩ := st_al0 W3 #[Value.bool gp0a, Value.slice Ap0a kp0a cp0a] 27
  have HNE_B2_B7 : Hid (w.heap.size ≠ W3.heap.size) := by show _ ≠ _; have hlt := blk_lt HB2.out; omega
  replace HB2 := kB HB2 hbx
  have HNE_B4_B7 : Hid (w.heap.size + 1 ≠ W3.heap.size) := by show _ ≠ _; have hlt := blk_lt HB4.out; omega
  replace HB4 := kB HB4 hbx
  have hT := Wd.of_below hbx
  replace HX0 := kW hT HX0
  replace HX1 := kW hT HX1
  clear hT
  replace HBw := kU HBw hbx
  clear hbx
  go_wp2_with fail
  rw [← HW6.out]
  clear ix5
  refine (gcd_any _ _ d z0.natAbs _ HX1.out HX0.out.z0.abs (by have := HSX.out.2.2.2; omega) (by have := HSX.out.2.2.1.1; omega)).mono ?_
  rintro e w1 ⟨⟨vx, rfl, hr⟩, hbx⟩
  obtain ⟨A1, k1, c1, rfl, hr⟩ := hr.open
  replace HB2 := kB HB2 hbx
  replace HB4 := kB HB4 hbx
  replace HB7 := kB HB7 hbx
  have hT := Wd.of_below hbx
  replace HX0 := kW hT HX0
  replace HX1 := kW hT HX1
  clear hT
  replace HBw := kU HBw hbx
  have HR1 := Lib.hid hr
  clear hr
  clear hbx
  go_wp2_with fail
  rw [rounds_succ]
  have ix8 : ∀ w, (Instr.index 28 (.agg #[Value.bool gp0a, Value.slice Ap0a kp0a cp0a, Value.bool gp0b, Value.slice Ap0b kp0b cp0b, Value.bool gp0c, Value.slice Ap0c kp0c cp0c, Value.bool gp0d, Value.slice Ap0d kp0d cp0d]) (.int .i64 1)).run Tryz.prog w = .ok (.agg #[Value.bool gp0b, Value.slice Ap0b kp0b cp0b]) w := fun _ => by kernel_rfl
  obtain ⟨W9, HW9, HB10, HSZ_W9, hbx⟩ := st_al0 w1 #[Value.bool gp0b, Value.slice Ap0b kp0b cp0b] 27
  have HNE_B2_B10 : Hid (w.heap.size ≠ w1.heap.size) := by show _ ≠ _; have hlt := blk_lt HB2.out; omega
  replace HB2 := kB HB2 hbx
  have HNE_B4_B10 : Hid (w.heap.size + 1 ≠ w1.heap.size) := by show _ ≠ _; have hlt := blk_lt HB4.out; omega
  replace HB4 := kB HB4 hbx
  replace HB7 := kB HB7 hbx
  have hT := Wd.of_below hbx
  replace HX0 := kW hT HX0
  replace HX1 := kW hT HX1
  replace HR1 := kW hT HR1
  clear hT
  replace HBw := kU HBw hbx
  clear hbx
  go_wp2_with fail
  rw [← HW9.out]
  clear ix8
  refine (gcd_any _ _ _ z1.natAbs _ HR1.out HX0.out.z1.abs (by have := HG.out.1.1; omega) (by have := HSX.out.2.2.1.2.1; omega)).mono ?_
  rintro e w2 ⟨⟨vx, rfl, hr⟩, hbx⟩
  obtain ⟨A2, k2, c2, rfl, hr⟩ := hr.open
  replace HB2 := kB HB2 hbx
  replace HB4 := kB HB4 hbx
  replace HB7 := kB HB7 hbx
  replace HB10 := kB HB10 hbx
  have hT := Wd.of_below hbx
  replace HX0 := kW hT HX0
  replace HX1 := kW hT HX1
  replace HR1 := kW hT HR1
  clear hT
  replace HBw := kU HBw hbx
  have HR2 := Lib.hid hr
  clear hr
  clear HR1
  clear hbx
  go_wp2_with fail
  rw [rounds_succ]
  have ix11 : ∀ w, (Instr.index 28 (.agg #[Value.bool gp0a, Value.slice Ap0a kp0a cp0a, Value.bool gp0b, Value.slice Ap0b kp0b cp0b, Value.bool gp0c, Value.slice Ap0c kp0c cp0c, Value.bool gp0d, Value.slice Ap0d kp0d cp0d]) (.int .i64 2)).run Tryz.prog w = .ok (.agg #[Value.bool gp0c, Value.slice Ap0c kp0c cp0c]) w := fun _ => by kernel_rfl
  obtain ⟨W12, HW12, HB13, HSZ_W12, hbx⟩ := st_al0 w2 #[Value.bool gp0c, Value.slice Ap0c kp0c cp0c] 27
  have HNE_B2_B13 : Hid (w.heap.size ≠ w2.heap.size) := by show _ ≠ _; have hlt := blk_lt HB2.out; omega
  replace HB2 := kB HB2 hbx
  have HNE_B4_B13 : Hid (w.heap.size + 1 ≠ w2.heap.size) := by show _ ≠ _; have hlt := blk_lt HB4.out; omega
  replace HB4 := kB HB4 hbx
  replace HB7 := kB HB7 hbx
  replace HB10 := kB HB10 hbx
  have hT := Wd.of_below hbx
  replace HX0 := kW hT HX0
  replace HX1 := kW hT HX1
  replace HR2 := kW hT HR2
  clear hT
  replace HBw := kU HBw hbx
  clear hbx
  go_wp2_with fail
  rw [← HW12.out]
  clear ix11
  refine (gcd_any _ _ _ z2.natAbs _ HR2.out HX0.out.z2.abs (by have := HG.out.2.1.1; omega) (by have := HSX.out.2.2.1.2.2.1; omega)).mono ?_
  rintro e w3 ⟨⟨vx, rfl, hr⟩, hbx⟩
  obtain ⟨A3, k3, c3, rfl, hr⟩ := hr.open
  replace HB2 := kB HB2 hbx
  replace HB4 := kB HB4 hbx
  replace HB7 := kB HB7 hbx
  replace HB10 := kB HB10 hbx
  replace HB13 := kB HB13 hbx
  have hT := Wd.of_below hbx
  replace HX0 := kW hT HX0
  replace HX1 := kW hT HX1
  replace HR2 := kW hT HR2
  clear hT
  replace HBw := kU HBw hbx
  have HR3 := Lib.hid hr
  clear hr
  clear HR2
  clear hbx
  go_wp2_with fail
  rw [rounds_succ]
  have ix14 : ∀ w, (Instr.index 28 (.agg #[Value.bool gp0a, Value.slice Ap0a kp0a cp0a, Value.bool gp0b, Value.slice Ap0b kp0b cp0b, Value.bool gp0c, Value.slice Ap0c kp0c cp0c, Value.bool gp0d, Value.slice Ap0d kp0d cp0d]) (.int .i64 3)).run Tryz.prog w = .ok (.agg #[Value.bool gp0d, Value.slice Ap0d kp0d cp0d]) w := fun _ => by kernel_rfl
  obtain ⟨W15, HW15, HB16, HSZ_W15, hbx⟩ := st_al0 w3 #[Value.bool gp0d, Value.slice Ap0d kp0d cp0d] 27
  have HNE_B2_B16 : Hid (w.heap.size ≠ w3.heap.size) := by show _ ≠ _; have hlt := blk_lt HB2.out; omega
  replace HB2 := kB HB2 hbx
  have HNE_B4_B16 : Hid (w.heap.size + 1 ≠ w3.heap.size) := by show _ ≠ _; have hlt := blk_lt HB4.out; omega
  replace HB4 := kB HB4 hbx
  replace HB7 := kB HB7 hbx
  replace HB10 := kB HB10 hbx
  replace HB13 := kB HB13 hbx
  have hT := Wd.of_below hbx
  replace HX0 := kW hT HX0
  replace HX1 := kW hT HX1
  replace HR3 := kW hT HR3
  clear hT
  replace HBw := kU HBw hbx
  clear hbx
  go_wp2_with fail
  rw [← HW15.out]
  clear ix14
  refine (gcd_any _ _ _ z3.natAbs _ HR3.out HX0.out.z3.abs (by have := HG.out.2.2.1.1; omega) (by have := HSX.out.2.2.1.2.2.2; omega)).mono ?_
  rintro e w4 ⟨⟨vx, rfl, hr⟩, hbx⟩
  obtain ⟨A4, k4, c4, rfl, hr⟩ := hr.open
  replace HB2 := kB HB2 hbx
  replace HB4 := kB HB4 hbx
  replace HB7 := kB HB7 hbx
  replace HB10 := kB HB10 hbx
  replace HB13 := kB HB13 hbx
  replace HB16 := kB HB16 hbx
  have hT := Wd.of_below hbx
  replace HX0 := kW hT HX0
  replace HX1 := kW hT HX1
  replace HR3 := kW hT HR3
  clear hT
  replace HBw := kU HBw hbx
  have HR4 := Lib.hid hr
  clear hr
  clear HR3
  clear hbx
  go_wp2_with fail
  rw [rounds_succ]
  go_wp2_with fail
  refine (isOne_no _ (gAll z0 z1 z2 z3 d) _ HR4.out HG1.out).mono ?_
  rintro e w5 ⟨rfl, rfl⟩
  go_wp2_with fail
  refine wp_loop_rounds 5 ?_
  rw [rounds_succ]
  have c17 := kC HB2 1 rfl
  go_wp2_with fail
  clear c17
  refine (divPair _ _ z0.natAbs (gAll z0 z1 z2 z3 d) _ HX0.out.z0.abs HR4.out HG.out.2.2.2.2 (by have := HSX.out.2.2.1.1; omega) (by have := HG.out.2.2.2.1; omega)).mono ?_
  rintro e w6 ⟨⟨vx, vy, rfl, hr, hr2⟩, hbx⟩
  obtain ⟨A6a, k6a, c6a, rfl, hr⟩ := hr.open
  obtain ⟨A6b, k6b, c6b, rfl, hr2⟩ := hr2.open
  replace HB2 := kB HB2 hbx
  replace HB4 := kB HB4 hbx
  replace HB7 := kB HB7 hbx
  replace HB10 := kB HB10 hbx
  replace HB13 := kB HB13 hbx
  replace HB16 := kB HB16 hbx
  have hT := Wd.of_below hbx
  replace HX0 := kW hT HX0
  replace HX1 := kW hT HX1
  replace HR4 := kW hT HR4
  clear hT
  replace HBw := kU HBw hbx
  have HR6 := Lib.hid hr
  have HR6b := Lib.hid hr2
  clear hr2
  clear hr
  clear hbx
  have c18 := kC HB2 1 rfl
  have c19 := kF HB2 1
  obtain ⟨W20, HW20⟩ : ∃ W, Hid (W = (w6.setCell ⟨w.heap.size, 1, none⟩ (Value.slice A6a k6a c6a))) := ⟨_, rfl⟩
  have hS := kM1 HW20
  have hT := kN hS HB2 rfl rfl
  replace HX0 := kW hT HX0
  replace HX1 := kW hT HX1
  replace HR4 := kW hT HR4
  replace HR6 := kW hT HR6
  replace HR6b := kW hT HR6b
  clear hT
  replace HB2 := kP (ds := [Value.bool gp0a, Value.slice A6a k6a c6a, Value.bool gp0b, Value.slice Ap0b kp0b cp0b, Value.bool gp0c, Value.slice Ap0c kp0c cp0c, Value.bool gp0d, Value.slice Ap0d kp0d cp0d]) hS HB2 rfl rfl
  replace HB4 := kO hS HB4 HNE_B2_B4.out.symm
  replace HB7 := kO hS HB7 HNE_B2_B7.out.symm
  replace HB10 := kO hS HB10 HNE_B2_B10.out.symm
  replace HB13 := kO hS HB13 HNE_B2_B13.out.symm
  replace HB16 := kO hS HB16 HNE_B2_B16.out.symm
  replace HBw := kS hS HLE_B2 HBw
  clear hS
  go_wp2_with fail
  rw [← HW20.out]
  clear c18 c19
  rw [rounds_succ]
  have c21 := kC HB2 3 rfl
  go_wp2_with fail
  clear c21
  refine (divPair _ _ z1.natAbs (gAll z0 z1 z2 z3 d) _ HX0.out.z1.abs HR4.out HG.out.2.2.2.2 (by have := HSX.out.2.2.1.2.1; omega) (by have := HG.out.2.2.2.1; omega)).mono ?_
  rintro e w7 ⟨⟨vx, vy, rfl, hr, hr2⟩, hbx⟩
  obtain ⟨A7a, k7a, c7a, rfl, hr⟩ := hr.open
  obtain ⟨A7b, k7b, c7b, rfl, hr2⟩ := hr2.open
  replace HB2 := kB HB2 hbx
  replace HB4 := kB HB4 hbx
  replace HB7 := kB HB7 hbx
  replace HB10 := kB HB10 hbx
  replace HB13 := kB HB13 hbx
  replace HB16 := kB HB16 hbx
  have hT := Wd.of_below hbx
  replace HX0 := kW hT HX0
  replace HX1 := kW hT HX1
  replace HR4 := kW hT HR4
  replace HR6 := kW hT HR6
  replace HR6b := kW hT HR6b
  clear hT
  replace HBw := kU HBw hbx
  have HR7 := Lib.hid hr
  have HR7b := Lib.hid hr2
  clear hr2
  clear hr
  clear HR6b
  clear hbx
  have c22 := kC HB2 3 rfl
  have c23 := kF HB2 3
  obtain ⟨W24, HW24⟩ : ∃ W, Hid (W = (w7.setCell ⟨w.heap.size, 3, none⟩ (Value.slice A7a k7a c7a))) := ⟨_, rfl⟩
  have hS := kM1 HW24
  have hT := kN hS HB2 rfl rfl
  replace HX0 := kW hT HX0
  replace HX1 := kW hT HX1
  replace HR4 := kW hT HR4
  replace HR6 := kW hT HR6
  replace HR7 := kW hT HR7
  replace HR7b := kW hT HR7b
  clear hT
  replace HB2 := kP (ds := [Value.bool gp0a, Value.slice A6a k6a c6a, Value.bool gp0b, Value.slice A7a k7a c7a, Value.bool gp0c, Value.slice Ap0c kp0c cp0c, Value.bool gp0d, Value.slice Ap0d kp0d cp0d]) hS HB2 rfl rfl
  replace HB4 := kO hS HB4 HNE_B2_B4.out.symm
  replace HB7 := kO hS HB7 HNE_B2_B7.out.symm
  replace HB10 := kO hS HB10 HNE_B2_B10.out.symm
  replace HB13 := kO hS HB13 HNE_B2_B13.out.symm
  replace HB16 := kO hS HB16 HNE_B2_B16.out.symm
  replace HBw := kS hS HLE_B2 HBw
  clear hS
  go_wp2_with fail
  rw [← HW24.out]
  clear c22 c23
  rw [rounds_succ]
  have c25 := kC HB2 5 rfl
  go_wp2_with fail
  clear c25
  refine (divPair _ _ z2.natAbs (gAll z0 z1 z2 z3 d) _ HX0.out.z2.abs HR4.out HG.out.2.2.2.2 (by have := HSX.out.2.2.1.2.2.1; omega) (by have := HG.out.2.2.2.1; omega)).mono ?_
  rintro e w8 ⟨⟨vx, vy, rfl, hr, hr2⟩, hbx⟩
  obtain ⟨A8a, k8a, c8a, rfl, hr⟩ := hr.open
  obtain ⟨A8b, k8b, c8b, rfl, hr2⟩ := hr2.open
  replace HB2 := kB HB2 hbx
  replace HB4 := kB HB4 hbx
  replace HB7 := kB HB7 hbx
  replace HB10 := kB HB10 hbx
  replace HB13 := kB HB13 hbx
  replace HB16 := kB HB16 hbx
  have hT := Wd.of_below hbx
  replace HX0 := kW hT HX0
  replace HX1 := kW hT HX1
  replace HR4 := kW hT HR4
  replace HR6 := kW hT HR6
  replace HR7 := kW hT HR7
  replace HR7b := kW hT HR7b
  clear hT
  replace HBw := kU HBw hbx
  have HR8 := Lib.hid hr
  have HR8b := Lib.hid hr2
  clear hr2
  clear hr
  clear HR7b
  clear hbx
  have c26 := kC HB2 5 rfl
  have c27 := kF HB2 5
  obtain ⟨W28, HW28⟩ : ∃ W, Hid (W = (w8.setCell ⟨w.heap.size, 5, none⟩ (Value.slice A8a k8a c8a))) := ⟨_, rfl⟩
  have hS := kM1 HW28
  have hT := kN hS HB2 rfl rfl
  replace HX0 := kW hT HX0
  replace HX1 := kW hT HX1
  replace HR4 := kW hT HR4
  replace HR6 := kW hT HR6
  replace HR7 := kW hT HR7
  replace HR8 := kW hT HR8
  replace HR8b := kW hT HR8b
  clear hT
  replace HB2 := kP (ds := [Value.bool gp0a, Value.slice A6a k6a c6a, Value.bool gp0b, Value.slice A7a k7a c7a, Value.bool gp0c, Value.slice A8a k8a c8a, Value.bool gp0d, Value.slice Ap0d kp0d cp0d]) hS HB2 rfl rfl
  replace HB4 := kO hS HB4 HNE_B2_B4.out.symm
  replace HB7 := kO hS HB7 HNE_B2_B7.out.symm
  replace HB10 := kO hS HB10 HNE_B2_B10.out.symm
  replace HB13 := kO hS HB13 HNE_B2_B13.out.symm
  replace HB16 := kO hS HB16 HNE_B2_B16.out.symm
  replace HBw := kS hS HLE_B2 HBw
  clear hS
  go_wp2_with fail
  rw [← HW28.out]
  clear c26 c27
  rw [rounds_succ]
  have c29 := kC HB2 7 rfl
  go_wp2_with fail
  clear c29
  refine (divPair _ _ z3.natAbs (gAll z0 z1 z2 z3 d) _ HX0.out.z3.abs HR4.out HG.out.2.2.2.2 (by have := HSX.out.2.2.1.2.2.2; omega) (by have := HG.out.2.2.2.1; omega)).mono ?_
  rintro e w9 ⟨⟨vx, vy, rfl, hr, hr2⟩, hbx⟩
  obtain ⟨A9a, k9a, c9a, rfl, hr⟩ := hr.open
  obtain ⟨A9b, k9b, c9b, rfl, hr2⟩ := hr2.open
  replace HB2 := kB HB2 hbx
  replace HB4 := kB HB4 hbx
  replace HB7 := kB HB7 hbx
  replace HB10 := kB HB10 hbx
  replace HB13 := kB HB13 hbx
  replace HB16 := kB HB16 hbx
  have hT := Wd.of_below hbx
  replace HX0 := kW hT HX0
  replace HX1 := kW hT HX1
  replace HR4 := kW hT HR4
  replace HR6 := kW hT HR6
  replace HR7 := kW hT HR7
  replace HR8 := kW hT HR8
  replace HR8b := kW hT HR8b
  clear hT
  replace HBw := kU HBw hbx
  have HR9 := Lib.hid hr
  have HR9b := Lib.hid hr2
  clear hr2
  clear hr
  clear HR8b
  clear hbx
  have c30 := kC HB2 7 rfl
  have c31 := kF HB2 7
  obtain ⟨W32, HW32⟩ : ∃ W, Hid (W = (w9.setCell ⟨w.heap.size, 7, none⟩ (Value.slice A9a k9a c9a))) := ⟨_, rfl⟩
  have hS := kM1 HW32
  have hT := kN hS HB2 rfl rfl
  replace HX0 := kW hT HX0
  replace HX1 := kW hT HX1
  replace HR4 := kW hT HR4
  replace HR6 := kW hT HR6
  replace HR7 := kW hT HR7
  replace HR8 := kW hT HR8
  replace HR9 := kW hT HR9
  replace HR9b := kW hT HR9b
  clear hT
  replace HB2 := kP (ds := [Value.bool gp0a, Value.slice A6a k6a c6a, Value.bool gp0b, Value.slice A7a k7a c7a, Value.bool gp0c, Value.slice A8a k8a c8a, Value.bool gp0d, Value.slice A9a k9a c9a]) hS HB2 rfl rfl
  replace HB4 := kO hS HB4 HNE_B2_B4.out.symm
  replace HB7 := kO hS HB7 HNE_B2_B7.out.symm
  replace HB10 := kO hS HB10 HNE_B2_B10.out.symm
  replace HB13 := kO hS HB13 HNE_B2_B13.out.symm
  replace HB16 := kO hS HB16 HNE_B2_B16.out.symm
  replace HBw := kS hS HLE_B2 HBw
  clear hS
  go_wp2_with fail
  rw [← HW32.out]
  clear c30 c31
  rw [rounds_succ]
  go_wp2_with fail
  refine (divPair _ _ d (gAll z0 z1 z2 z3 d) _ HX1.out HR4.out HG.out.2.2.2.2 (by have := HSX.out.2.2.2; omega) (by have := HG.out.2.2.2.1; omega)).mono ?_
  rintro e w10 ⟨⟨vx, vy, rfl, hr, hr2⟩, hbx⟩
  obtain ⟨A10a, k10a, c10a, rfl, hr⟩ := hr.open
  obtain ⟨A10b, k10b, c10b, rfl, hr2⟩ := hr2.open
  replace HB2 := kB HB2 hbx
  replace HB4 := kB HB4 hbx
  replace HB7 := kB HB7 hbx
  replace HB10 := kB HB10 hbx
  replace HB13 := kB HB13 hbx
  replace HB16 := kB HB16 hbx
  have hT := Wd.of_below hbx
  replace HX0 := kW hT HX0
  replace HX1 := kW hT HX1
  replace HR4 := kW hT HR4
  replace HR6 := kW hT HR6
  replace HR7 := kW hT HR7
  replace HR8 := kW hT HR8
  replace HR9 := kW hT HR9
  replace HR9b := kW hT HR9b
  clear hT
  replace HBw := kU HBw hbx
  have HR10 := Lib.hid hr
  have HR10b := Lib.hid hr2
  clear hr2
  clear hr
  clear HR4
  clear HR9b
  clear hbx
  go_wp2_with fail
  refine (isOne_no _ (d / gAll z0 z1 z2 z3 d) _ HR10.out HD1.out).mono ?_
  rintro e w11 ⟨rfl, rfl⟩
  have c33 := kC HB2 0 rfl
  have c34 := kC HB2 1 rfl
  have c35 := kC HB2 2 rfl
  have c36 := kC HB2 3 rfl
  have c37 := kC HB2 4 rfl
  have c38 := kC HB2 5 rfl
  have c39 := kC HB2 6 rfl
  have c40 := kC HB2 7 rfl
  have c41 := kC HB4 0 rfl
  have c42 := kF HB4 0
  have c43 := kC HB4 1 rfl
  have c44 := kF HB4 1
  have c45 := kC HB4 2 rfl
  have c46 := kF HB4 2
  have c47 := kC HB4 3 rfl
  have c48 := kF HB4 3
  have c49 := kC HB4 4 rfl
  have c50 := kF HB4 4
  have c51 := kC HB4 5 rfl
  have c52 := kF HB4 5
  have c53 := kC HB4 6 rfl
  have c54 := kF HB4 6
  have c55 := kC HB4 7 rfl
  have c56 := kF HB4 7
  have c57 := kC HB4 8 rfl
  have c58 := kF HB4 8
  obtain ⟨W59, HW59⟩ : ∃ W, Hid (W = (((((((((w10.setCell ⟨w.heap.size + 1, 0, none⟩ (Value.bool gp0a)).setCell ⟨w.heap.size + 1, 1, none⟩ (Value.slice A6a k6a c6a)).setCell ⟨w.heap.size + 1, 2, none⟩ (Value.bool gp0b)).setCell ⟨w.heap.size + 1, 3, none⟩ (Value.slice A7a k7a c7a)).setCell ⟨w.heap.size + 1, 4, none⟩ (Value.bool gp0c)).setCell ⟨w.heap.size + 1, 5, none⟩ (Value.slice A8a k8a c8a)).setCell ⟨w.heap.size + 1, 6, none⟩ (Value.bool gp0d)).setCell ⟨w.heap.size + 1, 7, none⟩ (Value.slice A9a k9a c9a)).setCell ⟨w.heap.size + 1, 8, none⟩ (Value.slice A10a k10a c10a))) := ⟨_, rfl⟩
  have hS : W59 = setsW w10 (w.heap.size + 1) 0 [Value.bool gp0a, Value.slice A6a k6a c6a, Value.bool gp0b, Value.slice A7a k7a c7a, Value.bool gp0c, Value.slice A8a k8a c8a, Value.bool gp0d, Value.slice A9a k9a c9a, Value.slice A10a k10a c10a] := HW59.out
  have hT := kN hS HB4 rfl rfl
  replace HX0 := kW hT HX0
  replace HX1 := kW hT HX1
  replace HR6 := kW hT HR6
  replace HR7 := kW hT HR7
  replace HR8 := kW hT HR8
  replace HR9 := kW hT HR9
  replace HR10 := kW hT HR10
  replace HR10b := kW hT HR10b
  clear hT
  replace HB2 := kO hS HB2 HNE_B2_B4.out
  replace HB4 := kP (ds := [Value.bool gp0a, Value.slice A6a k6a c6a, Value.bool gp0b, Value.slice A7a k7a c7a, Value.bool gp0c, Value.slice A8a k8a c8a, Value.bool gp0d, Value.slice A9a k9a c9a, Value.slice A10a k10a c10a]) hS HB4 rfl rfl
  replace HB7 := kO hS HB7 HNE_B4_B7.out.symm
  replace HB10 := kO hS HB10 HNE_B4_B10.out.symm
  replace HB13 := kO hS HB13 HNE_B4_B13.out.symm
  replace HB16 := kO hS HB16 HNE_B4_B16.out.symm
  replace HBw := kS hS HLE_B4 HBw
  clear hS
  go_wp2_with fail
  rw [← HW59.out]
  clear c33 c34 c35 c36 c37 c38 c39 c40 c41 c42 c43 c44 c45 c46 c47 c48 c49 c50 c51 c52 c53 c54 c55 c56 c57 c58
  have c60 := kC HB4 0 rfl
  have c61 := kC HB4 1 rfl
  have c62 := kC HB4 2 rfl
  have c63 := kC HB4 3 rfl
  have c64 := kC HB4 4 rfl
  have c65 := kC HB4 5 rfl
  have c66 := kC HB4 6 rfl
  have c67 := kC HB4 7 rfl
  have c68 := kC HB4 8 rfl
  exact bodyPost_ret (v := .agg #[Value.bool gp0a, Value.slice A6a k6a c6a, Value.bool gp0b, Value.slice A7a k7a c7a, Value.bool gp0c, Value.slice A8a k8a c8a, Value.bool gp0d, Value.slice A9a k9a c9a, Value.slice A10a k10a c10a]) (by simp [results, Tryz.results205, go_sem, c60, c61, c62, c63, c64, c65, c66, c67, c68]) rfl ⟨⟨_, rfl, (show RdS _ _ x K from ⟨_, _, _, _, _, RdSn.mk (HX0.out.z0.div HG.out.2.2.2.2 HDV.out.2.1 HR6.out) (HX0.out.z1.div HG.out.2.2.2.2 HDV.out.2.2.1 HR7.out) (HX0.out.z2.div HG.out.2.2.2.2 HDV.out.2.2.2.1 HR8.out) (HX0.out.z3.div HG.out.2.2.2.2 HDV.out.2.2.2.2 HR9.out) (by rw [den1_ne HD1.out]; exact HR10.out), HSX.out.div HG.out.2.2.2.2 HDV.out.1 HDV.out.2.1 HDV.out.2.2.1 HDV.out.2.2.2.1 HDV.out.2.2.2.2⟩)⟩, HBw.out⟩
theorem surd_any (v vd : Value) (x : S4) (z0 z1 z2 z3 : Int) (d K : Nat) (w : World) (hv : RdA w v z0 z1 z2 z3) (hd : RdN w vd d) (hx : Sx x z0 z1 z2 z3 d K) (hK : K ≤ 800000) :
    Calls Tryz.prog 205 #[v, vd] w fun e w' => (∃ v', e = .returned v' ∧ RdS w' v' x K) ∧ Below w.heap.size w w' := by
  by_cases hg : gAll z0 z1 z2 z3 d = 1
  · by_cases h1 : d = 1
    · exact surd_gd v vd x z0 z1 z2 z3 d K w hv hd hx hK hg h1
    · exact surd_gn v vd x z0 z1 z2 z3 d K w hv hd hx hK hg h1
  · by_cases h1 : d / gAll z0 z1 z2 z3 d = 1
    · exact surd_nd v vd x z0 z1 z2 z3 d K w hv hd hx hK hg h1
    · exact surd_nn v vd x z0 z1 z2 z3 d K w hv hd hx hK hg h1
end Go.Proofs.YtodckaioeomccaaGreat
