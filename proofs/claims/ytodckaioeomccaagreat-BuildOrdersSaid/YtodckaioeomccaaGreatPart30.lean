/- Walks of fractions: Neg, Sub, Mul, Div, Sign, Cmp, Zero, Whole; one, ratio. -/
import Derived.Test.YtodckaioeomccaaGreatPart28
namespace Go.Proofs.YtodckaioeomccaaGreat
open Go.RowKit
set_option linter.unusedVariables false
set_option linter.unusedSimpArgs false
theorem signed_not (z : Int) : signed (!decide (z < 0)) z.natAbs = -z := by
  unfold signed
  by_cases h : z < 0
  · simp [h]; omega
  · simp [h]; omega
theorem signed_ne (z y : Int) : signed (decide (z < 0) != decide (y < 0)) (z.natAbs * y.natAbs) = z * y := by
  unfold signed
  rw [← Int.natAbs_mul]
  by_cases h : z < 0 <;> by_cases k : y < 0
  · have := Int.mul_pos_of_neg_of_neg h k; simp [h, k]; omega
  · have := Int.mul_nonpos_of_nonpos_of_nonneg (a := z) (b := y) (by omega) (by omega); simp [h, k]; omega
  · have := Int.mul_nonpos_of_nonneg_of_nonpos (a := z) (b := y) (by omega) (by omega); simp [h, k]; omega
  · have := Int.mul_nonneg (a := z) (b := y) (by omega) (by omega); simp [h, k]; omega
theorem QS.neg {k : Nat} {x : Rat} (h : QS k x) : QS k (-x) := ⟨by show dl (-x.num).natAbs ≤ k; rw [Int.natAbs_neg]; exact h.1, h.2⟩
theorem isign_any (v : Value) (z : Int) (w : World) (hv : RdZ w v z) : Calls Tryz.prog 197 #[v] w fun e w' => e = .returned (.int .i64 (Int.sign z)) ∧ Below w.heap.size w w' := by
  obtain ⟨g, A, k, c, rfl, hv⟩ := hv.open
  have hg := hv.sign
  have hk : dl z.natAbs = k := by
    obtain ⟨A', n', c', e, e1, _⟩ := RdW.open_ hv.abs
    simp only [Value.slice.injEq] at e
    obtain ⟨rfl, rfl, rfl⟩ := e
    exact e1
  clear hv
  rcases Int.lt_trichotomy z 0 with h | h | h
  · have hgt : g = true := by rw [hg]; exact decide_eq_true h
    rw [Int.sign_eq_neg_one_of_neg h]
    subst hgt
    clear hg hk h
    go_enter Tryz.func197, Tryz.ntmps197
    go_wp2_with fail
    go_ret
    exact ⟨rfl, (Below.refl _ w).alloc (Nat.le_refl _) _⟩
  · have hgt : g = false := by rw [hg]; exact decide_eq_false (by omega)
    have hk0 : k = 0 := by rw [← hk, h]; exact dl_zero
    subst hgt; subst hk0
    rw [h]
    clear hg hk h
    go_enter Tryz.func197, Tryz.ntmps197
    go_wp2_with fail
    go_ret
    exact ⟨rfl, (Below.refl _ w).alloc (Nat.le_refl _) _⟩
  · have hgt : g = false := by rw [hg]; exact decide_eq_false (by omega)
    have hk0 : 0 < k := by rw [← hk]; exact dl_pos (by omega)
    rw [Int.sign_eq_one_of_pos h]
    subst hgt
    clear hg hk h
    go_enter Tryz.func197, Tryz.ntmps197
    go_wp2_with fail
    go_ret
    exact ⟨rfl, (Below.refl _ w).alloc (Nat.le_refl _) _⟩
set_option maxRecDepth 100000 in
set_option maxHeartbeats 4000000 in
theorem iminus_any (v : Value) (z : Int) (w : World) (hv : RdZ w v z) :
    Calls Tryz.prog 220 #[v] w fun e w' => (∃ v', e = .returned v' ∧ RdZ w' v' (-z)) ∧ Below w.heap.size w w' := by
  have HSG : Hid (∀ g, g = decide (z < 0) → signed (!g) z.natAbs = -z) := fun g h => by rw [h]; exact signed_not z
  obtain ⟨gp0a, Ap0a, kp0a, cp0a, rfl, hv⟩ := hv.open
  have HX0 := Lib.hid hv
  clear hv
  go_enter Tryz.func220, Tryz.ntmps220
  obtain ⟨W1, HW1, HB2, HSZ_W1, hbx⟩ := st_al0 w #[Value.bool gp0a, Value.slice Ap0a kp0a cp0a] 27
  have hT := Wd.of_below hbx
  replace HX0 := kW hT HX0
  clear hT
  have HBw := Lib.hid hbx
  clear hbx
  obtain ⟨W3, HW3, HB4, HSZ_W3, hbx⟩ := st_alk 1 2 #[Value.bool false, Value.slice none 0 0] 27 HSZ_W1 rfl
  have HNE_B2_B4 : Hid (w.heap.size ≠ w.heap.size + 1) := by show _ ≠ _; have hlt := blk_lt HB2.out; omega
  replace HB2 := kB HB2 hbx
  have HLE_B4 : Hid (w.heap.size ≤ w.heap.size + 1) := by show _ ≤ _; have hlt := HBw.out.size; omega
  have hT := Wd.of_below hbx
  replace HX0 := kW hT HX0
  clear hT
  replace HBw := kU HBw hbx
  clear hbx
  go_wp2_with fail
  rw [← HW1.out, ← HW3.out]
  refine (whole_any _ _ z.natAbs _ HX0.out.abs).mono ?_
  rintro e w1 ⟨⟨vx, rfl, hr⟩, hbx⟩
  obtain ⟨g1a, A1a, k1a, c1a, rfl, hr⟩ := hr.open
  replace HB2 := kB HB2 hbx
  replace HB4 := kB HB4 hbx
  have hT := Wd.of_below hbx
  replace HX0 := kW hT HX0
  clear hT
  replace HBw := kU HBw hbx
  have HR1 := Lib.hid hr
  clear hr
  rw [HSG.out _ HX0.out.sign] at HR1
  clear hbx
  have c5 := kC HB4 0 rfl
  have c6 := kF HB4 0
  have c7 := kC HB4 1 rfl
  have c8 := kF HB4 1
  obtain ⟨W9, HW9⟩ : ∃ W, Hid (W = ((w1.setCell ⟨w.heap.size + 1, 0, none⟩ (Value.bool g1a)).setCell ⟨w.heap.size + 1, 1, none⟩ (Value.slice A1a k1a c1a))) := ⟨_, rfl⟩
  have hS : W9 = setsW w1 (w.heap.size + 1) 0 [Value.bool g1a, Value.slice A1a k1a c1a] := HW9.out
  have hT := kN hS HB4 rfl rfl
  replace HX0 := kW hT HX0
  replace HR1 := kW hT HR1
  clear hT
  replace HB2 := kO hS HB2 HNE_B2_B4.out
  replace HB4 := kP (ds := [Value.bool g1a, Value.slice A1a k1a c1a]) hS HB4 rfl rfl
  replace HBw := kS hS HLE_B4 HBw
  clear hS
  go_wp2_with fail
  rw [← HW9.out]
  clear c5 c6 c7 c8
  have c10 := kC HB4 0 rfl
  have c11 := kC HB4 1 rfl
  exact bodyPost_ret (v := .agg #[Value.bool g1a, Value.slice A1a k1a c1a]) (by simp [results, Tryz.results220, go_sem, c10, c11]) rfl ⟨⟨_, rfl, HR1.out⟩, HBw.out⟩
set_option maxRecDepth 100000 in
set_option maxHeartbeats 4000000 in
theorem itimes_any (v u : Value) (z y : Int) (w : World) (hv : RdZ w v z) (hu : RdZ w u y) (hz6 : dl z.natAbs ≤ 450000) (hy6 : dl y.natAbs ≤ 450000) :
    Calls Tryz.prog 168 #[v, u] w fun e w' => (∃ v', e = .returned v' ∧ RdZ w' v' (z * y)) ∧ Below w.heap.size w w' := by
  have HSG : Hid (∀ g k, g = decide (z < 0) → k = decide (y < 0) → signed (!g == k) (z.natAbs * y.natAbs) = z * y) := fun g k h h2 => by rw [h, h2]; exact signed_ne z y
  obtain ⟨gp0a, Ap0a, kp0a, cp0a, rfl, hv⟩ := hv.open
  have HX0 := Lib.hid hv
  clear hv
  obtain ⟨gp1a, Ap1a, kp1a, cp1a, rfl, hu⟩ := hu.open
  have HX1 := Lib.hid hu
  clear hu
  go_enter Tryz.func168, Tryz.ntmps168
  obtain ⟨W1, HW1, HB2, HSZ_W1, hbx⟩ := st_al0 w #[Value.bool gp0a, Value.slice Ap0a kp0a cp0a] 27
  have hT := Wd.of_below hbx
  replace HX0 := kW hT HX0
  replace HX1 := kW hT HX1
  clear hT
  have HBw := Lib.hid hbx
  clear hbx
  obtain ⟨W3, HW3, HB4, HSZ_W3, hbx⟩ := st_alk 1 2 #[Value.bool gp1a, Value.slice Ap1a kp1a cp1a] 27 HSZ_W1 rfl
  replace HB2 := kB HB2 hbx
  have hT := Wd.of_below hbx
  replace HX0 := kW hT HX0
  replace HX1 := kW hT HX1
  clear hT
  replace HBw := kU HBw hbx
  clear hbx
  obtain ⟨W5, HW5, HB6, HSZ_W5, hbx⟩ := st_alk 2 3 #[Value.bool false, Value.slice none 0 0] 27 HSZ_W3 rfl
  have HNE_B2_B6 : Hid (w.heap.size ≠ w.heap.size + 2) := by show _ ≠ _; have hlt := blk_lt HB2.out; omega
  replace HB2 := kB HB2 hbx
  have HNE_B4_B6 : Hid (w.heap.size + 1 ≠ w.heap.size + 2) := by show _ ≠ _; have hlt := blk_lt HB4.out; omega
  replace HB4 := kB HB4 hbx
  have HLE_B6 : Hid (w.heap.size ≤ w.heap.size + 2) := by show _ ≤ _; have hlt := HBw.out.size; omega
  have hT := Wd.of_below hbx
  replace HX0 := kW hT HX0
  replace HX1 := kW hT HX1
  clear hT
  replace HBw := kU HBw hbx
  clear hbx
  go_wp2_with fail
  rw [← HW1.out, ← HW3.out, ← HW5.out]
  obtain ⟨W7, hW7⟩ : ∃ W, W = W5.drew := ⟨_, rfl⟩
  have hbx : Below W5.heap.size W5 W7 := by rw [hW7]; exact (Below.refl _ _).drew
  replace HB2 := kB HB2 hbx
  replace HB4 := kB HB4 hbx
  replace HB6 := kB HB6 hbx
  have hT := Wd.of_below hbx
  replace HX0 := kW hT HX0
  replace HX1 := kW hT HX1
  clear hT
  replace HBw := kU HBw hbx
  clear hbx
  refine seq_start (S := fun w' => w'.cell? ⟨w.heap.size, 0, none⟩ = some (Value.bool gp0a) ∧ w'.cell? ⟨w.heap.size + 1, 0, none⟩ = some (Value.bool gp1a) ∧ w'.cell? ⟨w.heap.size, 1, none⟩ = some (Value.slice Ap0a kp0a cp0a) ∧ w'.cell? ⟨w.heap.size + 1, 1, none⟩ = some (Value.slice Ap1a kp1a cp1a)) (by kernel_rfl) (by kernel_rfl) (by rw [← hW7]; exact ⟨kD HB2 0, kD HB4 0, kD HB2 1, kD HB4 1⟩) ?_
  rw [← hW7]
  clear hW7
  iterate 9 (refine seq_take0 (v := ?_) ?_ (fun _ _ _ h => h) (by kernel_rfl) ?_ ?_; rotate_left; (focus rfl); (focus (intro w' hSw; (try dsimp only at hSw); go_simp; (try with_reducible rfl); done)); (try simp only [Act.put, List.setIfInBounds_toArray, List.set_cons_zero, List.set_cons_succ]))
  refine seq_op (by kernel_rfl) (by rfl) (fun K9 hK9 => ?_)
  go_simp
  refine (times_any _ _ z.natAbs y.natAbs _ HX0.out.abs HX1.out.abs (by omega) (by omega)).mono ?_
  rintro e w1 ⟨⟨vx, rfl, hr⟩, hbx⟩
  obtain ⟨A1, k1, c1, rfl, hr⟩ := hr.open
  replace HB2 := kB HB2 hbx
  replace HB4 := kB HB4 hbx
  replace HB6 := kB HB6 hbx
  have hT := Wd.of_below hbx
  replace HX0 := kW hT HX0
  replace HX1 := kW hT HX1
  clear hT
  replace HBw := kU HBw hbx
  have HR1 := Lib.hid hr
  clear hr
  clear hbx
  refine hK9.out _ _ (by exact ⟨kD HB2 0, kD HB4 0, kD HB2 1, kD HB4 1⟩) ?_
  clear hK9 K9
  (try simp only [Act.put, List.setIfInBounds_toArray, List.set_cons_zero, List.set_cons_succ])
  refine seq_op (by kernel_rfl) (by rfl) (fun K9 hK9 => ?_)
  go_simp
  refine (whole_any _ _ _ _ HR1.out).mono ?_
  rintro e w2 ⟨⟨vx, rfl, hr⟩, hbx⟩
  obtain ⟨g2a, A2a, k2a, c2a, rfl, hr⟩ := hr.open
  replace HB2 := kB HB2 hbx
  replace HB4 := kB HB4 hbx
  replace HB6 := kB HB6 hbx
  have hT := Wd.of_below hbx
  replace HX0 := kW hT HX0
  replace HX1 := kW hT HX1
  replace HR1 := kW hT HR1
  clear hT
  replace HBw := kU HBw hbx
  have HR2 := Lib.hid hr
  clear hr
  rw [HSG.out _ _ HX0.out.sign HX1.out.sign] at HR2
  clear HR1
  clear hbx
  refine hK9.out _ _ (by exact ⟨kD HB2 0, kD HB4 0, kD HB2 1, kD HB4 1⟩) ?_
  clear hK9 K9
  (try simp only [Act.put, List.setIfInBounds_toArray, List.set_cons_zero, List.set_cons_succ])
  refine seq_op (by kernel_rfl) (by rfl) (fun K9 hK9 => ?_)
  have c8 := kC HB6 0 rfl
  have c9 := kF HB6 0
  have c10 := kC HB6 1 rfl
  have c11 := kF HB6 1
  go_simp
  obtain ⟨W12, HW12⟩ : ∃ W, Hid (W = ((w2.setCell ⟨w.heap.size + 2, 0, none⟩ (Value.bool g2a)).setCell ⟨w.heap.size + 2, 1, none⟩ (Value.slice A2a k2a c2a))) := ⟨_, rfl⟩
  have hS : W12 = setsW w2 (w.heap.size + 2) 0 [Value.bool g2a, Value.slice A2a k2a c2a] := HW12.out
  have hT := kN hS HB6 rfl rfl
  replace HX0 := kW hT HX0
  replace HX1 := kW hT HX1
  replace HR2 := kW hT HR2
  clear hT
  replace HB2 := kO hS HB2 HNE_B2_B6.out
  replace HB4 := kO hS HB4 HNE_B4_B6.out
  replace HB6 := kP (ds := [Value.bool g2a, Value.slice A2a k2a c2a]) hS HB6 rfl rfl
  replace HBw := kS hS HLE_B6 HBw
  clear hS
  rw [← HW12.out]
  refine hK9.out _ _ (by exact ⟨kD HB2 0, kD HB4 0, kD HB2 1, kD HB4 1⟩) ?_
  clear hK9 K9 c8 c9 c10 c11
  (try simp only [Act.put, List.setIfInBounds_toArray, List.set_cons_zero, List.set_cons_succ])
  refine seq_done (by kernel_rfl) ?_
  go_wp2_with fail
  have c13 := kC HB6 0 rfl
  have c14 := kC HB6 1 rfl
  exact bodyPost_ret (v := .agg #[Value.bool g2a, Value.slice A2a k2a c2a]) (by simp [results, Tryz.results168, go_sem, c13, c14]) rfl ⟨⟨_, rfl, HR2.out⟩, HBw.out⟩
set_option maxRecDepth 100000 in
set_option maxHeartbeats 4000000 in
theorem sign_any (v : Value) (x : Rat) (w : World) (hv : RdQ w v x) :
    Calls Tryz.prog 118 #[v] w fun e w' => e = .returned (.int .i64 (Int.sign x.num)) ∧ Below w.heap.size w w' := by
  obtain ⟨gp0a, Ap0a, kp0a, cp0a, Ap0b, kp0b, cp0b, rfl, hv⟩ := hv.open
  have HX0 := Lib.hid hv
  clear hv
  go_enter Tryz.func118, Tryz.ntmps118
  obtain ⟨W1, HW1, HB2, HSZ_W1, hbx⟩ := st_al0 w #[Value.bool gp0a, Value.slice Ap0a kp0a cp0a, Value.slice Ap0b kp0b cp0b] 32
  have hT := Wd.of_below hbx
  replace HX0 := kW hT HX0
  clear hT
  have HBw := Lib.hid hbx
  clear hbx
  go_wp2_with fail
  rw [← HW1.out]
  refine (isign_any _ x.num _ HX0.out.num).mono ?_
  rintro e w1 ⟨rfl, hbx⟩
  replace HB2 := kB HB2 hbx
  have hT := Wd.of_below hbx
  replace HX0 := kW hT HX0
  clear hT
  replace HBw := kU HBw hbx
  clear hbx
  go_wp2_with fail
  go_ret
  exact ⟨rfl, HBw.out⟩
set_option maxRecDepth 100000 in
set_option maxHeartbeats 4000000 in
theorem neg_any (v : Value) (x : Rat) (w : World) (hv : RdQ w v x) :
    Calls Tryz.prog 167 #[v] w fun e w' => (∃ v', e = .returned v' ∧ RdQ w' v' (-x)) ∧ Below w.heap.size w w' := by
  obtain ⟨gp0a, Ap0a, kp0a, cp0a, Ap0b, kp0b, cp0b, rfl, hv⟩ := hv.open
  have HX0 := Lib.hid hv
  clear hv
  go_enter Tryz.func167, Tryz.ntmps167
  obtain ⟨W1, HW1, HB2, HSZ_W1, hbx⟩ := st_al0 w #[Value.bool gp0a, Value.slice Ap0a kp0a cp0a, Value.slice Ap0b kp0b cp0b] 32
  have hT := Wd.of_below hbx
  replace HX0 := kW hT HX0
  clear hT
  have HBw := Lib.hid hbx
  clear hbx
  obtain ⟨W3, HW3, HB4, HSZ_W3, hbx⟩ := st_alk 1 2 #[Value.bool false, Value.slice none 0 0, Value.slice none 0 0] 32 HSZ_W1 rfl
  have HNE_B2_B4 : Hid (w.heap.size ≠ w.heap.size + 1) := by show _ ≠ _; have hlt := blk_lt HB2.out; omega
  replace HB2 := kB HB2 hbx
  have HLE_B4 : Hid (w.heap.size ≤ w.heap.size + 1) := by show _ ≤ _; have hlt := HBw.out.size; omega
  have hT := Wd.of_below hbx
  replace HX0 := kW hT HX0
  clear hT
  replace HBw := kU HBw hbx
  clear hbx
  go_wp2_with fail
  rw [← HW1.out, ← HW3.out]
  obtain ⟨W5, hW5⟩ : ∃ W, W = W3.drew := ⟨_, rfl⟩
  have hbx : Below W3.heap.size W3 W5 := by rw [hW5]; exact (Below.refl _ _).drew
  replace HB2 := kB HB2 hbx
  replace HB4 := kB HB4 hbx
  have hT := Wd.of_below hbx
  replace HX0 := kW hT HX0
  clear hT
  replace HBw := kU HBw hbx
  clear hbx
  refine seq_start (S := fun w' => w'.cell? ⟨w.heap.size, 0, none⟩ = some (Value.bool gp0a) ∧ w'.cell? ⟨w.heap.size, 1, none⟩ = some (Value.slice Ap0a kp0a cp0a) ∧ w'.cell? ⟨w.heap.size, 2, none⟩ = some (Value.slice Ap0b kp0b cp0b)) (by kernel_rfl) (by kernel_rfl) (by rw [← hW5]; exact ⟨kD HB2 0, kD HB2 1, kD HB2 2⟩) ?_
  rw [← hW5]
  clear hW5
  iterate 2 (refine seq_take0 (v := ?_) ?_ (fun _ _ _ h => h) (by kernel_rfl) ?_ ?_; rotate_left; (focus rfl); (focus (intro w' hSw; (try dsimp only at hSw); go_simp; (try with_reducible rfl); done)); (try simp only [Act.put, List.setIfInBounds_toArray, List.set_cons_zero, List.set_cons_succ]))
  iterate 2 (refine seq_pull 1 ?_; simp only [places, pull]; (refine seq_take0 (v := ?_) ?_ (fun _ _ _ h => h) (by kernel_rfl) ?_ ?_; rotate_left; (focus rfl); (focus (intro w' hSw; (try dsimp only at hSw); go_simp; (try with_reducible rfl); done)); (try simp only [Act.put, List.setIfInBounds_toArray, List.set_cons_zero, List.set_cons_succ])))
  refine seq_op (by kernel_rfl) (by rfl) (fun K9 hK9 => ?_)
  go_simp
  refine (iminus_any _ x.num _ HX0.out.num).mono ?_
  rintro e w1 ⟨⟨vx, rfl, hr⟩, hbx⟩
  obtain ⟨g1a, A1a, k1a, c1a, rfl, hr⟩ := hr.open
  replace HB2 := kB HB2 hbx
  replace HB4 := kB HB4 hbx
  have hT := Wd.of_below hbx
  replace HX0 := kW hT HX0
  clear hT
  replace HBw := kU HBw hbx
  have HR1 := Lib.hid hr
  clear hr
  clear hbx
  refine hK9.out _ _ (by exact ⟨kD HB2 0, kD HB2 1, kD HB2 2⟩) ?_
  clear hK9 K9
  (try simp only [Act.put, List.setIfInBounds_toArray, List.set_cons_zero, List.set_cons_succ])
  (refine seq_take0 (v := ?_) ?_ (fun _ _ _ h => h) (by kernel_rfl) ?_ ?_; rotate_left; (focus rfl); (focus (intro w' hSw; (try dsimp only at hSw); go_simp; (try with_reducible rfl); done)); (try simp only [Act.put, List.setIfInBounds_toArray, List.set_cons_zero, List.set_cons_succ]))
  refine seq_op (by kernel_rfl) (by rfl) (fun K9 hK9 => ?_)
  have c6 := kC HB4 0 rfl
  have c7 := kF HB4 0
  have c8 := kC HB4 1 rfl
  have c9 := kF HB4 1
  have c10 := kC HB4 2 rfl
  have c11 := kF HB4 2
  go_simp
  obtain ⟨W12, HW12⟩ : ∃ W, Hid (W = (((w1.setCell ⟨w.heap.size + 1, 0, none⟩ (Value.bool g1a)).setCell ⟨w.heap.size + 1, 1, none⟩ (Value.slice A1a k1a c1a)).setCell ⟨w.heap.size + 1, 2, none⟩ (Value.slice Ap0b kp0b cp0b))) := ⟨_, rfl⟩
  have hS : W12 = setsW w1 (w.heap.size + 1) 0 [Value.bool g1a, Value.slice A1a k1a c1a, Value.slice Ap0b kp0b cp0b] := HW12.out
  have hT := kN hS HB4 rfl rfl
  replace HX0 := kW hT HX0
  replace HR1 := kW hT HR1
  clear hT
  replace HB2 := kO hS HB2 HNE_B2_B4.out
  replace HB4 := kP (ds := [Value.bool g1a, Value.slice A1a k1a c1a, Value.slice Ap0b kp0b cp0b]) hS HB4 rfl rfl
  replace HBw := kS hS HLE_B4 HBw
  clear hS
  rw [← HW12.out]
  refine hK9.out _ _ (by exact ⟨kD HB2 0, kD HB2 1, kD HB2 2⟩) ?_
  clear hK9 K9 c6 c7 c8 c9 c10 c11
  (try simp only [Act.put, List.setIfInBounds_toArray, List.set_cons_zero, List.set_cons_succ])
  refine seq_done (by kernel_rfl) ?_
  go_wp2_with fail
  have c13 := kC HB4 0 rfl
  have c14 := kC HB4 1 rfl
  have c15 := kC HB4 2 rfl
  exact bodyPost_ret (v := .agg #[Value.bool g1a, Value.slice A1a k1a c1a, Value.slice Ap0b kp0b cp0b]) (by simp [results, Tryz.results167, go_sem, c13, c14, c15]) rfl ⟨⟨_, rfl, (RdQ.mk (x := -x) HR1.out HX0.out.den)⟩, HBw.out⟩
set_option maxRecDepth 100000 in
set_option maxHeartbeats 4000000 in
theorem sub_any (v u : Value) (x y : Rat) (w : World) (hv : RdQ w v x) (hu : RdQ w u y) (hx6 : QS 100000 x) (hy6 : QS 100000 y) :
    Calls Tryz.prog 78 #[v, u] w fun e w' => (∃ v', e = .returned v' ∧ RdQ w' v' (x - y)) ∧ Below w.heap.size w w' := by
  have HQX := Lib.hid hx6
  have HQY := Lib.hid hy6
  clear hx6 hy6
  obtain ⟨gp0a, Ap0a, kp0a, cp0a, Ap0b, kp0b, cp0b, rfl, hv⟩ := hv.open
  have HX0 := Lib.hid hv
  clear hv
  obtain ⟨gp1a, Ap1a, kp1a, cp1a, Ap1b, kp1b, cp1b, rfl, hu⟩ := hu.open
  have HX1 := Lib.hid hu
  clear hu
  go_enter Tryz.func78, Tryz.ntmps78
  obtain ⟨W1, HW1, HB2, HSZ_W1, hbx⟩ := st_al0 w #[Value.bool gp0a, Value.slice Ap0a kp0a cp0a, Value.slice Ap0b kp0b cp0b] 32
  have hT := Wd.of_below hbx
  replace HX0 := kW hT HX0
  replace HX1 := kW hT HX1
  clear hT
  have HBw := Lib.hid hbx
  clear hbx
  obtain ⟨W3, HW3, HB4, HSZ_W3, hbx⟩ := st_alk 1 2 #[Value.bool gp1a, Value.slice Ap1a kp1a cp1a, Value.slice Ap1b kp1b cp1b] 32 HSZ_W1 rfl
  replace HB2 := kB HB2 hbx
  have hT := Wd.of_below hbx
  replace HX0 := kW hT HX0
  replace HX1 := kW hT HX1
  clear hT
  replace HBw := kU HBw hbx
  clear hbx
  obtain ⟨W5, HW5, HB6, HSZ_W5, hbx⟩ := st_alk 2 3 #[Value.bool false, Value.slice none 0 0, Value.slice none 0 0] 32 HSZ_W3 rfl
  have HNE_B2_B6 : Hid (w.heap.size ≠ w.heap.size + 2) := by show _ ≠ _; have hlt := blk_lt HB2.out; omega
  replace HB2 := kB HB2 hbx
  have HNE_B4_B6 : Hid (w.heap.size + 1 ≠ w.heap.size + 2) := by show _ ≠ _; have hlt := blk_lt HB4.out; omega
  replace HB4 := kB HB4 hbx
  have HLE_B6 : Hid (w.heap.size ≤ w.heap.size + 2) := by show _ ≤ _; have hlt := HBw.out.size; omega
  have hT := Wd.of_below hbx
  replace HX0 := kW hT HX0
  replace HX1 := kW hT HX1
  clear hT
  replace HBw := kU HBw hbx
  clear hbx
  go_wp2_with fail
  rw [← HW1.out, ← HW3.out, ← HW5.out]
  obtain ⟨W7, hW7⟩ : ∃ W, W = W5.drew := ⟨_, rfl⟩
  have hbx : Below W5.heap.size W5 W7 := by rw [hW7]; exact (Below.refl _ _).drew
  replace HB2 := kB HB2 hbx
  replace HB4 := kB HB4 hbx
  replace HB6 := kB HB6 hbx
  have hT := Wd.of_below hbx
  replace HX0 := kW hT HX0
  replace HX1 := kW hT HX1
  clear hT
  replace HBw := kU HBw hbx
  clear hbx
  refine seq_start (S := fun w' => w'.cell? ⟨w.heap.size, 0, none⟩ = some (Value.bool gp0a) ∧ w'.cell? ⟨w.heap.size, 1, none⟩ = some (Value.slice Ap0a kp0a cp0a) ∧ w'.cell? ⟨w.heap.size, 2, none⟩ = some (Value.slice Ap0b kp0b cp0b) ∧ w'.cell? ⟨w.heap.size + 1, 0, none⟩ = some (Value.bool gp1a) ∧ w'.cell? ⟨w.heap.size + 1, 1, none⟩ = some (Value.slice Ap1a kp1a cp1a) ∧ w'.cell? ⟨w.heap.size + 1, 2, none⟩ = some (Value.slice Ap1b kp1b cp1b)) (by kernel_rfl) (by kernel_rfl) (by rw [← hW7]; exact ⟨kD HB2 0, kD HB2 1, kD HB2 2, kD HB4 0, kD HB4 1, kD HB4 2⟩) ?_
  rw [← hW7]
  clear hW7
  iterate 2 (refine seq_take0 (v := ?_) ?_ (fun _ _ _ h => h) (by kernel_rfl) ?_ ?_; rotate_left; (focus rfl); (focus (intro w' hSw; (try dsimp only at hSw); go_simp; (try with_reducible rfl); done)); (try simp only [Act.put, List.setIfInBounds_toArray, List.set_cons_zero, List.set_cons_succ]))
  refine seq_op (by kernel_rfl) (by rfl) (fun K9 hK9 => ?_)
  go_simp
  refine (neg_any _ y _ HX1.out).mono ?_
  rintro e w1 ⟨⟨vx, rfl, hr⟩, hbx⟩
  obtain ⟨g1a, A1a, k1a, c1a, A1b, k1b, c1b, rfl, hr⟩ := hr.open
  replace HB2 := kB HB2 hbx
  replace HB4 := kB HB4 hbx
  replace HB6 := kB HB6 hbx
  have hT := Wd.of_below hbx
  replace HX0 := kW hT HX0
  replace HX1 := kW hT HX1
  clear hT
  replace HBw := kU HBw hbx
  have HR1 := Lib.hid hr
  clear hr
  clear hbx
  refine hK9.out _ _ (by exact ⟨kD HB2 0, kD HB2 1, kD HB2 2, kD HB4 0, kD HB4 1, kD HB4 2⟩) ?_
  clear hK9 K9
  (try simp only [Act.put, List.setIfInBounds_toArray, List.set_cons_zero, List.set_cons_succ])
  refine seq_op (by kernel_rfl) (by rfl) (fun K9 hK9 => ?_)
  go_simp
  refine (add_any _ _ x (-y) _ HX0.out HR1.out HQX.out HQY.out.neg).mono ?_
  rintro e w2 ⟨⟨vx, rfl, hr⟩, hbx⟩
  obtain ⟨g2a, A2a, k2a, c2a, A2b, k2b, c2b, rfl, hr⟩ := hr.open
  replace HB2 := kB HB2 hbx
  replace HB4 := kB HB4 hbx
  replace HB6 := kB HB6 hbx
  have hT := Wd.of_below hbx
  replace HX0 := kW hT HX0
  replace HX1 := kW hT HX1
  replace HR1 := kW hT HR1
  clear hT
  replace HBw := kU HBw hbx
  have HR2 := Lib.hid hr
  clear hr
  rw [← Rat.sub_eq_add_neg] at HR2
  clear HR1
  clear hbx
  refine hK9.out _ _ (by exact ⟨kD HB2 0, kD HB2 1, kD HB2 2, kD HB4 0, kD HB4 1, kD HB4 2⟩) ?_
  clear hK9 K9
  (try simp only [Act.put, List.setIfInBounds_toArray, List.set_cons_zero, List.set_cons_succ])
  refine seq_op (by kernel_rfl) (by rfl) (fun K9 hK9 => ?_)
  have c8 := kC HB6 0 rfl
  have c9 := kF HB6 0
  have c10 := kC HB6 1 rfl
  have c11 := kF HB6 1
  have c12 := kC HB6 2 rfl
  have c13 := kF HB6 2
  go_simp
  obtain ⟨W14, HW14⟩ : ∃ W, Hid (W = (((w2.setCell ⟨w.heap.size + 2, 0, none⟩ (Value.bool g2a)).setCell ⟨w.heap.size + 2, 1, none⟩ (Value.slice A2a k2a c2a)).setCell ⟨w.heap.size + 2, 2, none⟩ (Value.slice A2b k2b c2b))) := ⟨_, rfl⟩
  have hS : W14 = setsW w2 (w.heap.size + 2) 0 [Value.bool g2a, Value.slice A2a k2a c2a, Value.slice A2b k2b c2b] := HW14.out
  have hT := kN hS HB6 rfl rfl
  replace HX0 := kW hT HX0
  replace HX1 := kW hT HX1
  replace HR2 := kW hT HR2
  clear hT
  replace HB2 := kO hS HB2 HNE_B2_B6.out
  replace HB4 := kO hS HB4 HNE_B4_B6.out
  replace HB6 := kP (ds := [Value.bool g2a, Value.slice A2a k2a c2a, Value.slice A2b k2b c2b]) hS HB6 rfl rfl
  replace HBw := kS hS HLE_B6 HBw
  clear hS
  rw [← HW14.out]
  refine hK9.out _ _ (by exact ⟨kD HB2 0, kD HB2 1, kD HB2 2, kD HB4 0, kD HB4 1, kD HB4 2⟩) ?_
  clear hK9 K9 c8 c9 c10 c11 c12 c13
  (try simp only [Act.put, List.setIfInBounds_toArray, List.set_cons_zero, List.set_cons_succ])
  refine seq_done (by kernel_rfl) ?_
  go_wp2_with fail
  have c15 := kC HB6 0 rfl
  have c16 := kC HB6 1 rfl
  have c17 := kC HB6 2 rfl
  exact bodyPost_ret (v := .agg #[Value.bool g2a, Value.slice A2a k2a c2a, Value.slice A2b k2b c2b]) (by simp [results, Tryz.results78, go_sem, c15, c16, c17]) rfl ⟨⟨_, rfl, HR2.out⟩, HBw.out⟩
theorem mk_sizes {z : Int} {D : Nat} (hD : D ≠ 0) : (mkRat z D).num.natAbs ≤ z.natAbs ∧ (mkRat z D).den ≤ D := by
  rw [mk_num hD, mk_den hD]
  constructor
  · rw [Int.natAbs_ediv_of_dvd (Int.ofNat_dvd_left.2 (Nat.gcd_dvd_left _ _))]; exact Nat.div_le_self _ _
  · exact Nat.div_le_self _ _
theorem QS.mul {a b : Nat} {x y : Rat} (h : QS a x) (k : QS b y) : QS (a + b) (x * y) := by
  have hxd := x.den_nz
  have hyd := y.den_nz
  have e : x * y = mkRat (x.num * y.num) (x.den * y.den) := Rat.mul_def' x y
  have h1 := mk_sizes (z := x.num * y.num) (D := x.den * y.den) (Nat.mul_ne_zero hxd hyd)
  rw [← e] at h1
  refine ⟨Nat.le_trans (dl_mono h1.1) ?_, Nat.le_trans (dl_mono h1.2) ?_⟩
  · rw [Int.natAbs_mul]; have := dl_mul x.num.natAbs y.num.natAbs; have := h.1; have := k.1; omega
  · have := dl_mul x.den y.den; have := h.2; have := k.2; omega
set_option maxRecDepth 100000 in
set_option maxHeartbeats 4000000 in
theorem mul_any (v u : Value) (x y : Rat) (w : World) (hv : RdQ w v x) (hu : RdQ w u y) (hx6 : QS 100000 x) (hy6 : QS 100000 y) :
    Calls Tryz.prog 79 #[v, u] w fun e w' => (∃ v', e = .returned v' ∧ RdQ w' v' (x * y)) ∧ Below w.heap.size w w' := by
  have HQX := Lib.hid hx6
  have HQY := Lib.hid hy6
  have HP : Hid (dl (x.num * y.num).natAbs ≤ 900000 ∧ dl (x.den * y.den) ≤ 900000) := ⟨by rw [Int.natAbs_mul]; have := dl_mul x.num.natAbs y.num.natAbs; have := hx6.1; have := hy6.1; omega, by have := dl_mul x.den y.den; have := hx6.2; have := hy6.2; omega⟩
  clear hx6 hy6
  obtain ⟨gp0a, Ap0a, kp0a, cp0a, Ap0b, kp0b, cp0b, rfl, hv⟩ := hv.open
  have HX0 := Lib.hid hv
  clear hv
  obtain ⟨gp1a, Ap1a, kp1a, cp1a, Ap1b, kp1b, cp1b, rfl, hu⟩ := hu.open
  have HX1 := Lib.hid hu
  clear hu
  go_enter Tryz.func79, Tryz.ntmps79
  obtain ⟨W1, HW1, HB2, HSZ_W1, hbx⟩ := st_al0 w #[Value.bool gp0a, Value.slice Ap0a kp0a cp0a, Value.slice Ap0b kp0b cp0b] 32
  have hT := Wd.of_below hbx
  replace HX0 := kW hT HX0
  replace HX1 := kW hT HX1
  clear hT
  have HBw := Lib.hid hbx
  clear hbx
  obtain ⟨W3, HW3, HB4, HSZ_W3, hbx⟩ := st_alk 1 2 #[Value.bool gp1a, Value.slice Ap1a kp1a cp1a, Value.slice Ap1b kp1b cp1b] 32 HSZ_W1 rfl
  replace HB2 := kB HB2 hbx
  have hT := Wd.of_below hbx
  replace HX0 := kW hT HX0
  replace HX1 := kW hT HX1
  clear hT
  replace HBw := kU HBw hbx
  clear hbx
  obtain ⟨W5, HW5, HB6, HSZ_W5, hbx⟩ := st_alk 2 3 #[Value.bool false, Value.slice none 0 0, Value.slice none 0 0] 32 HSZ_W3 rfl
  have HNE_B2_B6 : Hid (w.heap.size ≠ w.heap.size + 2) := by show _ ≠ _; have hlt := blk_lt HB2.out; omega
  replace HB2 := kB HB2 hbx
  have HNE_B4_B6 : Hid (w.heap.size + 1 ≠ w.heap.size + 2) := by show _ ≠ _; have hlt := blk_lt HB4.out; omega
  replace HB4 := kB HB4 hbx
  have HLE_B6 : Hid (w.heap.size ≤ w.heap.size + 2) := by show _ ≤ _; have hlt := HBw.out.size; omega
  have hT := Wd.of_below hbx
  replace HX0 := kW hT HX0
  replace HX1 := kW hT HX1
  clear hT
  replace HBw := kU HBw hbx
  clear hbx
  go_wp2_with fail
  rw [← HW1.out, ← HW3.out, ← HW5.out]
  obtain ⟨W7, hW7⟩ : ∃ W, W = W5.drew := ⟨_, rfl⟩
  have hbx : Below W5.heap.size W5 W7 := by rw [hW7]; exact (Below.refl _ _).drew
  replace HB2 := kB HB2 hbx
  replace HB4 := kB HB4 hbx
  replace HB6 := kB HB6 hbx
  have hT := Wd.of_below hbx
  replace HX0 := kW hT HX0
  replace HX1 := kW hT HX1
  clear hT
  replace HBw := kU HBw hbx
  clear hbx
  refine seq_start (S := fun w' => w'.cell? ⟨w.heap.size, 0, none⟩ = some (Value.bool gp0a) ∧ w'.cell? ⟨w.heap.size, 1, none⟩ = some (Value.slice Ap0a kp0a cp0a) ∧ w'.cell? ⟨w.heap.size + 1, 0, none⟩ = some (Value.bool gp1a) ∧ w'.cell? ⟨w.heap.size + 1, 1, none⟩ = some (Value.slice Ap1a kp1a cp1a) ∧ w'.cell? ⟨w.heap.size, 2, none⟩ = some (Value.slice Ap0b kp0b cp0b) ∧ w'.cell? ⟨w.heap.size + 1, 2, none⟩ = some (Value.slice Ap1b kp1b cp1b)) (by kernel_rfl) (by kernel_rfl) (by rw [← hW7]; exact ⟨kD HB2 0, kD HB2 1, kD HB4 0, kD HB4 1, kD HB2 2, kD HB4 2⟩) ?_
  rw [← hW7]
  clear hW7
  iterate 4 (refine seq_take0 (v := ?_) ?_ (fun _ _ _ h => h) (by kernel_rfl) ?_ ?_; rotate_left; (focus rfl); (focus (intro w' hSw; (try dsimp only at hSw); go_simp; (try with_reducible rfl); done)); (try simp only [Act.put, List.setIfInBounds_toArray, List.set_cons_zero, List.set_cons_succ]))
  iterate 2 (refine seq_pull 1 ?_; simp only [places, pull]; (refine seq_take0 (v := ?_) ?_ (fun _ _ _ h => h) (by kernel_rfl) ?_ ?_; rotate_left; (focus rfl); (focus (intro w' hSw; (try dsimp only at hSw); go_simp; (try with_reducible rfl); done)); (try simp only [Act.put, List.setIfInBounds_toArray, List.set_cons_zero, List.set_cons_succ])))
  iterate 2 (refine seq_pull 2 ?_; simp only [places, pull]; (refine seq_take0 (v := ?_) ?_ (fun _ _ _ h => h) (by kernel_rfl) ?_ ?_; rotate_left; (focus rfl); (focus (intro w' hSw; (try dsimp only at hSw); go_simp; (try with_reducible rfl); done)); (try simp only [Act.put, List.setIfInBounds_toArray, List.set_cons_zero, List.set_cons_succ])))
  refine seq_op (by kernel_rfl) (by rfl) (fun K9 hK9 => ?_)
  go_simp
  refine (itimes_any _ _ x.num y.num _ HX0.out.num HX1.out.num (by have := HQX.out.1; omega) (by have := HQY.out.1; omega)).mono ?_
  rintro e w1 ⟨⟨vx, rfl, hr⟩, hbx⟩
  obtain ⟨g1a, A1a, k1a, c1a, rfl, hr⟩ := hr.open
  replace HB2 := kB HB2 hbx
  replace HB4 := kB HB4 hbx
  replace HB6 := kB HB6 hbx
  have hT := Wd.of_below hbx
  replace HX0 := kW hT HX0
  replace HX1 := kW hT HX1
  clear hT
  replace HBw := kU HBw hbx
  have HR1 := Lib.hid hr
  clear hr
  clear hbx
  refine hK9.out _ _ (by exact ⟨kD HB2 0, kD HB2 1, kD HB4 0, kD HB4 1, kD HB2 2, kD HB4 2⟩) ?_
  clear hK9 K9
  (try simp only [Act.put, List.setIfInBounds_toArray, List.set_cons_zero, List.set_cons_succ])
  refine seq_op (by kernel_rfl) (by rfl) (fun K9 hK9 => ?_)
  go_simp
  refine (under_any _ x.den _ x.den_nz HX0.out.den).mono ?_
  rintro e w2 ⟨⟨vx, rfl, hr⟩, hbx⟩
  obtain ⟨A2, k2, c2, rfl, hr⟩ := hr.open
  replace HB2 := kB HB2 hbx
  replace HB4 := kB HB4 hbx
  replace HB6 := kB HB6 hbx
  have hT := Wd.of_below hbx
  replace HX0 := kW hT HX0
  replace HX1 := kW hT HX1
  replace HR1 := kW hT HR1
  clear hT
  replace HBw := kU HBw hbx
  have HR2 := Lib.hid hr
  clear hr
  clear hbx
  refine hK9.out _ _ (by exact ⟨kD HB2 0, kD HB2 1, kD HB4 0, kD HB4 1, kD HB2 2, kD HB4 2⟩) ?_
  clear hK9 K9
  (try simp only [Act.put, List.setIfInBounds_toArray, List.set_cons_zero, List.set_cons_succ])
  refine seq_op (by kernel_rfl) (by rfl) (fun K9 hK9 => ?_)
  go_simp
  refine (under_any _ y.den _ y.den_nz HX1.out.den).mono ?_
  rintro e w3 ⟨⟨vx, rfl, hr⟩, hbx⟩
  obtain ⟨A3, k3, c3, rfl, hr⟩ := hr.open
  replace HB2 := kB HB2 hbx
  replace HB4 := kB HB4 hbx
  replace HB6 := kB HB6 hbx
  have hT := Wd.of_below hbx
  replace HX0 := kW hT HX0
  replace HX1 := kW hT HX1
  replace HR1 := kW hT HR1
  replace HR2 := kW hT HR2
  clear hT
  replace HBw := kU HBw hbx
  have HR3 := Lib.hid hr
  clear hr
  clear hbx
  refine hK9.out _ _ (by exact ⟨kD HB2 0, kD HB2 1, kD HB4 0, kD HB4 1, kD HB2 2, kD HB4 2⟩) ?_
  clear hK9 K9
  (try simp only [Act.put, List.setIfInBounds_toArray, List.set_cons_zero, List.set_cons_succ])
  refine seq_op (by kernel_rfl) (by rfl) (fun K9 hK9 => ?_)
  go_simp
  refine (times_any _ _ x.den y.den _ HR2.out HR3.out (by have := HQX.out.2; omega) (by have := HQY.out.2; omega)).mono ?_
  rintro e w4 ⟨⟨vx, rfl, hr⟩, hbx⟩
  obtain ⟨A4, k4, c4, rfl, hr⟩ := hr.open
  replace HB2 := kB HB2 hbx
  replace HB4 := kB HB4 hbx
  replace HB6 := kB HB6 hbx
  have hT := Wd.of_below hbx
  replace HX0 := kW hT HX0
  replace HX1 := kW hT HX1
  replace HR1 := kW hT HR1
  replace HR2 := kW hT HR2
  replace HR3 := kW hT HR3
  clear hT
  replace HBw := kU HBw hbx
  have HR4 := Lib.hid hr
  clear hr
  clear HR2
  clear HR3
  clear hbx
  refine hK9.out _ _ (by exact ⟨kD HB2 0, kD HB2 1, kD HB4 0, kD HB4 1, kD HB2 2, kD HB4 2⟩) ?_
  clear hK9 K9
  (try simp only [Act.put, List.setIfInBounds_toArray, List.set_cons_zero, List.set_cons_succ])
  refine seq_op (by kernel_rfl) (by rfl) (fun K9 hK9 => ?_)
  go_simp
  refine (over_any _ _ (x.num * y.num) (x.den * y.den) _ HR1.out HR4.out (Nat.mul_ne_zero x.den_nz y.den_nz) HP.out.1 HP.out.2).mono ?_
  rintro e w5 ⟨⟨vx, rfl, hr⟩, hbx⟩
  obtain ⟨g5a, A5a, k5a, c5a, A5b, k5b, c5b, rfl, hr⟩ := hr.open
  replace HB2 := kB HB2 hbx
  replace HB4 := kB HB4 hbx
  replace HB6 := kB HB6 hbx
  have hT := Wd.of_below hbx
  replace HX0 := kW hT HX0
  replace HX1 := kW hT HX1
  replace HR1 := kW hT HR1
  replace HR4 := kW hT HR4
  clear hT
  replace HBw := kU HBw hbx
  have HR5 := Lib.hid hr
  clear hr
  rw [← Rat.mul_def'] at HR5
  clear HR1
  clear HR4
  clear hbx
  refine hK9.out _ _ (by exact ⟨kD HB2 0, kD HB2 1, kD HB4 0, kD HB4 1, kD HB2 2, kD HB4 2⟩) ?_
  clear hK9 K9
  (try simp only [Act.put, List.setIfInBounds_toArray, List.set_cons_zero, List.set_cons_succ])
  refine seq_op (by kernel_rfl) (by rfl) (fun K9 hK9 => ?_)
  have c8 := kC HB6 0 rfl
  have c9 := kF HB6 0
  have c10 := kC HB6 1 rfl
  have c11 := kF HB6 1
  have c12 := kC HB6 2 rfl
  have c13 := kF HB6 2
  go_simp
  obtain ⟨W14, HW14⟩ : ∃ W, Hid (W = (((w5.setCell ⟨w.heap.size + 2, 0, none⟩ (Value.bool g5a)).setCell ⟨w.heap.size + 2, 1, none⟩ (Value.slice A5a k5a c5a)).setCell ⟨w.heap.size + 2, 2, none⟩ (Value.slice A5b k5b c5b))) := ⟨_, rfl⟩
  have hS : W14 = setsW w5 (w.heap.size + 2) 0 [Value.bool g5a, Value.slice A5a k5a c5a, Value.slice A5b k5b c5b] := HW14.out
  have hT := kN hS HB6 rfl rfl
  replace HX0 := kW hT HX0
  replace HX1 := kW hT HX1
  replace HR5 := kW hT HR5
  clear hT
  replace HB2 := kO hS HB2 HNE_B2_B6.out
  replace HB4 := kO hS HB4 HNE_B4_B6.out
  replace HB6 := kP (ds := [Value.bool g5a, Value.slice A5a k5a c5a, Value.slice A5b k5b c5b]) hS HB6 rfl rfl
  replace HBw := kS hS HLE_B6 HBw
  clear hS
  rw [← HW14.out]
  refine hK9.out _ _ (by exact ⟨kD HB2 0, kD HB2 1, kD HB4 0, kD HB4 1, kD HB2 2, kD HB4 2⟩) ?_
  clear hK9 K9 c8 c9 c10 c11 c12 c13
  (try simp only [Act.put, List.setIfInBounds_toArray, List.set_cons_zero, List.set_cons_succ])
  refine seq_done (by kernel_rfl) ?_
  go_wp2_with fail
  have c15 := kC HB6 0 rfl
  have c16 := kC HB6 1 rfl
  have c17 := kC HB6 2 rfl
  exact bodyPost_ret (v := .agg #[Value.bool g5a, Value.slice A5a k5a c5a, Value.slice A5b k5b c5b]) (by simp [results, Tryz.results79, go_sem, c15, c16, c17]) rfl ⟨⟨_, rfl, HR5.out⟩, HBw.out⟩
set_option maxRecDepth 100000 in
set_option maxHeartbeats 4000000 in
theorem cmpQ_any (v u : Value) (x y : Rat) (w : World) (hv : RdQ w v x) (hu : RdQ w u y) (hx6 : QS 100000 x) (hy6 : QS 100000 y) :
    Calls Tryz.prog 76 #[v, u] w fun e w' => e = .returned (.int .i64 (Int.sign (x - y).num)) ∧ Below w.heap.size w w' := by
  have HQX := Lib.hid hx6
  have HQY := Lib.hid hy6
  clear hx6 hy6
  obtain ⟨gp0a, Ap0a, kp0a, cp0a, Ap0b, kp0b, cp0b, rfl, hv⟩ := hv.open
  have HX0 := Lib.hid hv
  clear hv
  obtain ⟨gp1a, Ap1a, kp1a, cp1a, Ap1b, kp1b, cp1b, rfl, hu⟩ := hu.open
  have HX1 := Lib.hid hu
  clear hu
  go_enter Tryz.func76, Tryz.ntmps76
  obtain ⟨W1, HW1, HB2, HSZ_W1, hbx⟩ := st_al0 w #[Value.bool gp0a, Value.slice Ap0a kp0a cp0a, Value.slice Ap0b kp0b cp0b] 32
  have hT := Wd.of_below hbx
  replace HX0 := kW hT HX0
  replace HX1 := kW hT HX1
  clear hT
  have HBw := Lib.hid hbx
  clear hbx
  obtain ⟨W3, HW3, HB4, HSZ_W3, hbx⟩ := st_alk 1 2 #[Value.bool gp1a, Value.slice Ap1a kp1a cp1a, Value.slice Ap1b kp1b cp1b] 32 HSZ_W1 rfl
  replace HB2 := kB HB2 hbx
  have hT := Wd.of_below hbx
  replace HX0 := kW hT HX0
  replace HX1 := kW hT HX1
  clear hT
  replace HBw := kU HBw hbx
  clear hbx
  go_wp2_with fail
  rw [← HW1.out, ← HW3.out]
  refine (sub_any _ _ x y _ HX0.out HX1.out HQX.out HQY.out).mono ?_
  rintro e w1 ⟨⟨vx, rfl, hr⟩, hbx⟩
  obtain ⟨g1a, A1a, k1a, c1a, A1b, k1b, c1b, rfl, hr⟩ := hr.open
  replace HB2 := kB HB2 hbx
  replace HB4 := kB HB4 hbx
  have hT := Wd.of_below hbx
  replace HX0 := kW hT HX0
  replace HX1 := kW hT HX1
  clear hT
  replace HBw := kU HBw hbx
  have HR1 := Lib.hid hr
  clear hr
  clear hbx
  go_wp2_with fail
  refine (sign_any _ (x - y) _ HR1.out).mono ?_
  rintro e w2 ⟨rfl, hbx⟩
  replace HB2 := kB HB2 hbx
  replace HB4 := kB HB4 hbx
  have hT := Wd.of_below hbx
  replace HX0 := kW hT HX0
  replace HX1 := kW hT HX1
  replace HR1 := kW hT HR1
  clear hT
  replace HBw := kU HBw hbx
  clear HR1
  clear hbx
  go_wp2_with fail
  go_ret
  exact ⟨rfl, HBw.out⟩
end Go.Proofs.YtodckaioeomccaaGreat
