/- Walks of fractions: Zero, Div, one, ratio, Whole, Same; Angle. -/
import Derived.Test.YtodckaioeomccaaGreatPart22
namespace Go.Proofs.YtodckaioeomccaaGreat
open Go.RowKit
set_option linter.unusedVariables false
set_option linter.unusedSimpArgs false
set_option maxRecDepth 100000
set_option maxHeartbeats 4000000
theorem ratio_div (n d : Int) (hd : d ≠ 0) : ratio n d = (n : Rat) / (d : Rat) := by
  unfold ratio
  rw [Rat.mkRat_eq_div]
  by_cases h : d < 0
  · rw [if_pos h]
    have e : ((d.natAbs : Nat) : Int) = -d := by omega
    have e2 : (((d.natAbs : Nat) : Int) : Rat) = ((-d : Int) : Rat) := by rw [e]
    rw [show ((d.natAbs : Nat) : Rat) = (((d.natAbs : Nat) : Int) : Rat) from (Rat.intCast_natCast _).symm, e2, Rat.intCast_neg, Rat.intCast_neg]
    grind
  · rw [if_neg h]
    have e : ((d.natAbs : Nat) : Int) = d := by omega
    rw [show ((d.natAbs : Nat) : Rat) = (((d.natAbs : Nat) : Int) : Rat) from (Rat.intCast_natCast _).symm, e]
theorem num_div (x : Rat) : x = (x.num : Rat) / ((x.den : Int) : Rat) := by
  rw [Rat.intCast_natCast, ← Rat.mkRat_eq_div, Rat.mkRat_self]
theorem div_ratio (x y : Rat) (hy : y ≠ 0) : ratio (x.num * y.den) (x.den * y.num) = x / y := by
  have hn : y.num ≠ 0 := fun h => hy (Rat.num_eq_zero.1 h)
  have hd : (x.den : Int) ≠ 0 := by have := x.den_nz; omega
  have hd2 : (y.den : Int) ≠ 0 := by have := y.den_nz; omega
  rw [ratio_div _ _ (Int.mul_ne_zero hd hn)]
  have h1 : ((x.den : Int) : Rat) ≠ 0 := fun h => hd (by exact_mod_cast h)
  have h2 : ((y.num : Int) : Rat) ≠ 0 := fun h => hn (by exact_mod_cast h)
  have h3 : ((y.den : Int) : Rat) ≠ 0 := fun h => hd2 (by exact_mod_cast h)
  conv => rhs; rw [num_div x, num_div y]
  rw [Rat.intCast_mul, Rat.intCast_mul]
  grind
theorem zero_len {w : World} {g : Bool} {A B : Option Addr} {k c m d : Nat} {x : Rat} (h : RdQ w (.agg #[.bool g, .slice A k c, .slice B m d]) x) : k = 0 ↔ x = 0 := by
  obtain ⟨A', n', c', e, e1, _⟩ := RdW.open_ h.num.abs
  simp only [Value.slice.injEq] at e
  obtain ⟨rfl, rfl, rfl⟩ := e
  rw [← Rat.num_eq_zero]
  have e2 : dl x.num.natAbs = k := e1
  constructor
  · intro hk
    rcases Nat.eq_zero_or_pos x.num.natAbs with h0 | h0
    · omega
    · have := dl_pos (show x.num.natAbs ≠ 0 by omega); omega
  · intro hx
    rw [← e2, hx]; exact dl_zero
theorem zero_yes (v : Value) (x : Rat) (w : World) (hv : RdQ w v x) (h0 : x = 0) :
    Calls Tryz.prog 81 #[v] w fun e w' => e = .returned (.bool true) ∧ Below w.heap.size w w' := by
  obtain ⟨gp0a, Ap0a, kp0a, cp0a, Ap0b, kp0b, cp0b, rfl, hv⟩ := hv.open
  have HX0 := Lib.hid hv
  clear hv
  have hk : kp0a = 0 := (zero_len HX0.out).2 h0
  clear h0
  subst hk
  go_enter Tryz.func81, Tryz.ntmps81
  obtain ⟨W1, HW1, HB2, HSZ_W1, j1⟩ := st_al0 w #[.bool gp0a, .slice Ap0a 0 cp0a, .slice Ap0b kp0b cp0b] 32
  have HLE_B2 : Hid (w.heap.size ≤ w.heap.size) := by show _ ≤ _; omega
  have HBw := Lib.hid j1
  go_wp2_with fail
  rw [← HW1.out]
  go_ret
  exact ⟨rfl, HBw.out⟩
theorem zero_no (v : Value) (x : Rat) (w : World) (hv : RdQ w v x) (h0 : x ≠ 0) :
    Calls Tryz.prog 81 #[v] w fun e w' => e = .returned (.bool false) ∧ Below w.heap.size w w' := by
  obtain ⟨gp0a, Ap0a, kp0a, cp0a, Ap0b, kp0b, cp0b, rfl, hv⟩ := hv.open
  have HX0 := Lib.hid hv
  clear hv
  have hk : ((kp0a : Int) == 0) = false := by have : kp0a ≠ 0 := fun e => h0 ((zero_len HX0.out).1 e); simp; omega
  clear h0
  go_enter Tryz.func81, Tryz.ntmps81
  obtain ⟨W1, HW1, HB2, HSZ_W1, j1⟩ := st_al0 w #[.bool gp0a, .slice Ap0a kp0a cp0a, .slice Ap0b kp0b cp0b] 32
  have HLE_B2 : Hid (w.heap.size ≤ w.heap.size) := by show _ ≤ _; omega
  have HBw := Lib.hid j1
  go_wp2_with fail
  rw [← HW1.out]
  go_ret
  exact ⟨rfl, HBw.out⟩
theorem div_signed (x y : Rat) (hy : y ≠ 0) : mkRat (signed (decide (x.num * y.den < 0) != decide (y.num < 0)) (x.num * y.den).natAbs) (x.den * y.num.natAbs) = x / y := by
  rw [← div_ratio x y hy]
  have hd : 0 < (x.den : Int) := by have := x.den_nz; omega
  have hn : y.num ≠ 0 := fun h => hy (Rat.num_eq_zero.1 h)
  have h1 : decide (y.num < 0) = decide ((x.den : Int) * y.num < 0) := by
    rw [Bool.eq_iff_iff, decide_eq_true_iff, decide_eq_true_iff]
    constructor
    · intro h; exact Int.mul_neg_of_pos_of_neg hd h
    · intro h; refine Int.not_le.1 fun h2 => ?_; have := Int.mul_nonneg (Int.le_of_lt hd) h2; omega
  have h2 : ((x.den : Int) * y.num).natAbs = x.den * y.num.natAbs := by rw [Int.natAbs_mul, Int.natAbs_natCast]
  rw [h1, ← h2]
  exact ratio_signed _ _ (Int.mul_ne_zero (by omega) hn)
theorem QS.div {a b : Nat} {x y : Rat} (h : QS a x) (k : QS b y) (hy : y ≠ 0) : QS (a + b) (x / y) := by
  have hxd := x.den_nz
  have hn : y.num.natAbs ≠ 0 := fun h => hy (Rat.num_eq_zero.1 (by omega))
  have h1 := mk_sizes (z := signed (decide (x.num * y.den < 0) != decide (y.num < 0)) (x.num * y.den).natAbs) (D := x.den * y.num.natAbs) (Nat.mul_ne_zero hxd hn)
  rw [div_signed x y hy, signed_abs] at h1
  refine ⟨Nat.le_trans (dl_mono h1.1) ?_, Nat.le_trans (dl_mono h1.2) ?_⟩
  · have := dl_imul x.num y.den; have := h.1; have := k.2; omega
  · have := dl_mul x.den y.num.natAbs; have := h.2; have := k.1; omega
theorem div_any (v u : Value) (x y : Rat) (w : World) (hv : RdQ w v x) (hu : RdQ w u y) (hy : y ≠ 0) (hx6 : QS 100000 x) (hy6 : QS 100000 y) :
    Calls Tryz.prog 198 #[v, u] w fun e w' => (∃ v', e = .returned (.tuple #[v', .int .i64 0]) ∧ RdQ w' v' (x / y)) ∧ Below w.heap.size w w' := by
  have HQX := Lib.hid hx6
  have HQY := Lib.hid hy6
  have HY0 := Lib.hid hy
  have HDS : Hid (mkRat (signed (!decide (x.num * y.den < 0) == decide (y.num < 0)) (x.num * y.den).natAbs) (x.den * y.num.natAbs) = x / y) := div_signed x y hy
  have HP : Hid (dl (x.num * y.den).natAbs ≤ 900000 ∧ dl (x.den * y.num.natAbs) ≤ 900000 ∧ x.den * y.num.natAbs ≠ 0) := ⟨by have := dl_imul x.num y.den; have := hx6.1; have := hy6.2; omega, by have := dl_mul x.den y.num.natAbs; have := hx6.2; have := hy6.1; omega, Nat.mul_ne_zero x.den_nz fun h => hy (Rat.num_eq_zero.1 (by omega))⟩
  clear hx6 hy6 hy
  obtain ⟨gp0a, Ap0a, kp0a, cp0a, Ap0b, kp0b, cp0b, rfl, hv⟩ := hv.open
  have HX0 := Lib.hid hv
  clear hv
  obtain ⟨gp1a, Ap1a, kp1a, cp1a, Ap1b, kp1b, cp1b, rfl, hu⟩ := hu.open
  have HX1 := Lib.hid hu
  clear hu
  go_enter Tryz.func198, Tryz.ntmps198
  obtain ⟨W1, HW1, HB2, HSZ_W1, j1⟩ := st_al0 w #[.bool gp0a, .slice Ap0a kp0a cp0a, .slice Ap0b kp0b cp0b] 32
  have HBw := Lib.hid j1
  obtain ⟨W3, HW3, HB4, HSZ_W3, j2⟩ := st_alk 1 2 #[.bool gp1a, .slice Ap1a kp1a cp1a, .slice Ap1b kp1b cp1b] 32 HSZ_W1 rfl
  obtain ⟨W5, HW5, HB6, HSZ_W5, j3⟩ := st_alk 2 3 #[.bool false, .slice none 0 0, .slice none 0 0] 32 HSZ_W3 rfl
  have HNE_B2_B6 : Hid (w.heap.size ≠ w.heap.size + 2) := by show _ ≠ _; have hlt := blk_lt HB2.out; have := j2.size; have := HSZ_W3.out; omega
  have HNE_B4_B6 : Hid (w.heap.size + 1 ≠ w.heap.size + 2) := by show _ ≠ _; have hlt := blk_lt HB4.out; have := HSZ_W3.out; omega
  have HLE_B6 : Hid (w.heap.size ≤ w.heap.size + 2) := by show _ ≤ _; have hlt := HBw.out.size; have := j2.size; have := HSZ_W3.out; omega
  go_wp2_with fail
  rw [← HW1.out, ← HW3.out, ← HW5.out]
  replace HX1 := kV j3 (kV j2 (kV j1 HX1))
  refine (zero_no _ y _ HX1.out HY0.out).mono ?_
  rintro e w1 ⟨rfl, j1c⟩
  go_wp2_with fail
  obtain ⟨W7, hW7⟩ : ∃ W, W = w1.drew := ⟨_, rfl⟩
  have j4 : Below w1.heap.size w1 W7 := by rw [hW7]; exact (Below.refl _ _).drew
  replace HB2 := kB (kB (kB (kB HB2 j2) j3) j1c) j4
  replace HB4 := kB (kB (kB HB4 j3) j1c) j4
  refine seq_start (S := fun w' => w'.cell? ⟨w.heap.size, 0, none⟩ = some (.bool gp0a) ∧ w'.cell? ⟨w.heap.size, 1, none⟩ = some (.slice Ap0a kp0a cp0a) ∧ w'.cell? ⟨w.heap.size + 1, 2, none⟩ = some (.slice Ap1b kp1b cp1b)) (by kernel_rfl) (by kernel_rfl) (by rw [← hW7]; exact ⟨kD HB2 0, kD HB2 1, kD HB4 2⟩) ?_
  rw [← hW7]
  clear hW7
  iterate 4 refine tk0 (h := ?_)
  refine plq 2 (h := ?_)
  refine plq 1 (h := ?_)
  refine seq_both ?_ ?_ ?_ ?_ ?_
  · kernel_rfl
  · rfl
  · rfl
  · intro K9 hK9
    go_simp
    replace HX1 := kV j4 (kV j1c HX1)
    refine (under_any _ y.den _ y.den_nz HX1.out.den).mono ?_
    rintro e w2 ⟨⟨vx, rfl, hr⟩, j2c⟩
    obtain ⟨A2, k2, c2, rfl, hr⟩ := hr.open
    have HR2 := Lib.hid hr
    clear hr
    replace HB2 := kB HB2 j2c
    replace HB4 := kB HB4 j2c
    refine ckk hK9 (by exact ⟨kD HB2 0, kD HB2 1, kD HB4 2⟩) (h := ?_)
    clear hK9 K9
    refine plq 1 (h := ?_)
    refine plq 1 (h := ?_)
    refine seq_both ?_ ?_ ?_ ?_ ?_
    · kernel_rfl
    · rfl
    · rfl
    · intro K9 hK9
      go_simp
      obtain ⟨W8, HW8, HB9, HSZ_W8, j5⟩ := st_al0 w2 #[.bool false, .slice none 0 0] 27
      have HNE_B2_B9 : Hid (w.heap.size ≠ w2.heap.size) := by show _ ≠ _; have hlt := blk_lt HB2.out; omega
      have HNE_B4_B9 : Hid (w.heap.size + 1 ≠ w2.heap.size) := by show _ ≠ _; have hlt := blk_lt HB4.out; omega
      have HNE_B6_B9 : Hid (w.heap.size + 2 ≠ w2.heap.size) := by show _ ≠ _; have hlt := blk_lt HB6.out; have := j1c.size; have := j4.size; have := j2c.size; omega
      have HLE_B9 : Hid (w.heap.size ≤ w2.heap.size) := by show _ ≤ _; have hlt := HBw.out.size; have := j2.size; have := j3.size; have := j1c.size; have := j4.size; have := j2c.size; omega
      rw [← HW8.out]
      replace HB2 := kB HB2 j5
      replace HB4 := kB HB4 j5
      refine ckk hK9 (by exact ⟨kD HB2 0, kD HB2 1, kD HB4 2⟩) (h := ?_)
      clear hK9 K9
      refine sop (h := fun K9 hK9 => ?_)
      go_simp
      replace HX0 := kV j5 (kV j2c (kV j4 (kV j1c (kV j3 (kV j2 (kV j1 HX0))))))
      replace HR2 := kV j5 HR2
      refine (scaled_any _ _ x.num y.den _ HX0.out.num HR2.out (by have := HQX.out.1; omega) (by have := HQY.out.2; omega)).mono ?_
      rintro e w3 ⟨⟨vx, rfl, hr⟩, j3c⟩
      obtain ⟨g3a, A3a, k3a, c3a, rfl, hr⟩ := hr.open
      have HR3 := Lib.hid hr
      clear hr
      replace HB2 := kB HB2 j3c
      replace HB4 := kB HB4 j3c
      refine ckk hK9 (by exact ⟨kD HB2 0, kD HB2 1, kD HB4 2⟩) (h := ?_)
      clear hK9 K9
      refine sop (h := fun K9 hK9 => ?_)
      replace HB9 := kB HB9 j3c
      have c10 := kC HB9 0 rfl
      have c11 := kF HB9 0
      have c12 := kC HB9 1 rfl
      have c13 := kF HB9 1
      go_simp
      obtain ⟨W14, HW14⟩ : ∃ W, Hid (W = ((w3.setCell ⟨w2.heap.size, 0, none⟩ (.bool g3a)).setCell ⟨w2.heap.size, 1, none⟩ (.slice A3a k3a c3a))) := ⟨_, rfl⟩
      have SW14 : Hid (W14 = setsW w3 (w2.heap.size) 0 [.bool g3a, .slice A3a k3a c3a]) := HW14.out
      have TW14 := kN (SW14.out) HB9 rfl rfl
      replace HB9 := kP (ds := [.bool g3a, .slice A3a k3a c3a]) (SW14.out) HB9 rfl rfl
      rw [← HW14.out]
      replace HB2 := kO (SW14.out) HB2 HNE_B2_B9.out
      replace HB4 := kO (SW14.out) HB4 HNE_B4_B9.out
      refine ckk hK9 (by exact ⟨kD HB2 0, kD HB2 1, kD HB4 2⟩) (h := ?_)
      clear hK9 K9 c10 c11 c12 c13
      refine seq_done (by kernel_rfl) ?_
      go_wp2_with fail
      obtain ⟨W15, hW15⟩ : ∃ W, W = W14.drew := ⟨_, rfl⟩
      have j6 : Below W14.heap.size W14 W15 := by rw [hW15]; exact (Below.refl _ _).drew
      replace HB9 := kB HB9 j6
      replace HB4 := kB HB4 j6
      replace HB2 := kB HB2 j6
      refine seq_start (S := fun w' => w'.cell? ⟨w2.heap.size, 0, none⟩ = some (.bool g3a) ∧ w'.cell? ⟨w.heap.size + 1, 0, none⟩ = some (.bool gp1a) ∧ w'.cell? ⟨w2.heap.size, 1, none⟩ = some (.slice A3a k3a c3a) ∧ w'.cell? ⟨w.heap.size, 2, none⟩ = some (.slice Ap0b kp0b cp0b) ∧ w'.cell? ⟨w.heap.size + 1, 1, none⟩ = some (.slice Ap1a kp1a cp1a)) (by kernel_rfl) (by kernel_rfl) (by rw [← hW15]; exact ⟨kD HB9 0, kD HB4 0, kD HB9 1, kD HB2 2, kD HB4 1⟩) ?_
      rw [← hW15]
      clear hW15
      iterate 8 refine tk0 (h := ?_)
      iterate 2 (refine plq 1 (h := ?_); refine tk0 (h := ?_))
      iterate 3 (refine plq 2 (h := ?_); refine tk0 (h := ?_))
      refine sop (h := fun K9 hK9 => ?_)
      go_simp
      replace HR3 := kV j6 (kW TW14 HR3)
      refine (whole_any _ _ (x.num * y.den).natAbs _ HR3.out.abs).mono ?_
      rintro e w4 ⟨⟨vx, rfl, hr⟩, j4c⟩
      obtain ⟨g4a, A4a, k4a, c4a, rfl, hr⟩ := hr.open
      have HR4 := Lib.hid hr
      clear hr
      replace HB9 := kB HB9 j4c
      replace HB4 := kB HB4 j4c
      replace HB2 := kB HB2 j4c
      refine ckk hK9 (by exact ⟨kD HB9 0, kD HB4 0, kD HB9 1, kD HB2 2, kD HB4 1⟩) (h := ?_)
      clear hK9 K9
      refine sop (h := fun K9 hK9 => ?_)
      go_simp
      replace HX0 := kV j4c (kV j6 (kW TW14 (kV j3c HX0)))
      refine (under_any _ x.den _ x.den_nz HX0.out.den).mono ?_
      rintro e w5 ⟨⟨vx, rfl, hr⟩, j5c⟩
      obtain ⟨A5, k5, c5, rfl, hr⟩ := hr.open
      have HR5 := Lib.hid hr
      clear hr
      replace HB9 := kB HB9 j5c
      replace HB4 := kB HB4 j5c
      replace HB2 := kB HB2 j5c
      refine ckk hK9 (by exact ⟨kD HB9 0, kD HB4 0, kD HB9 1, kD HB2 2, kD HB4 1⟩) (h := ?_)
      clear hK9 K9
      refine sop (h := fun K9 hK9 => ?_)
      go_simp
      replace HX1 := kV j5c (kV j4c (kV j6 (kW TW14 (kV j3c (kV j5 (kV j2c HX1))))))
      refine (times_any _ _ x.den y.num.natAbs _ HR5.out HX1.out.num.abs (by have := HQX.out.2; omega) (by have := HQY.out.1; omega)).mono ?_
      rintro e w6 ⟨⟨vx, rfl, hr⟩, j6c⟩
      obtain ⟨A6, k6, c6, rfl, hr⟩ := hr.open
      have HR6 := Lib.hid hr
      clear hr
      replace HB9 := kB HB9 j6c
      replace HB4 := kB HB4 j6c
      replace HB2 := kB HB2 j6c
      refine ckk hK9 (by exact ⟨kD HB9 0, kD HB4 0, kD HB9 1, kD HB2 2, kD HB4 1⟩) (h := ?_)
      clear hK9 K9
      refine sop (h := fun K9 hK9 => ?_)
      go_simp
      replace HR4 := kV j6c (kV j5c HR4)
      refine (over_any _ _ _ _ _ HR4.out HR6.out HP.out.2.2 (by rw [signed_abs]; exact HP.out.1) HP.out.2.1).mono ?_
      rintro e w7 ⟨⟨vx, rfl, hr⟩, j7c⟩
      obtain ⟨g7a, A7a, k7a, c7a, A7b, k7b, c7b, rfl, hr⟩ := hr.open
      have HR7 := Lib.hid hr
      clear hr
      have hq := HR7.out
      replace HR3 := kV j7c (kV j6c (kV j5c (kV j4c HR3)))
      replace HX1 := kV j7c (kV j6c HX1)
      rw [HR3.out.sign, HX1.out.num.sign, HDS.out] at hq
      replace HR7 := Lib.hid hq
      clear hq
      replace HB9 := kB HB9 j7c
      replace HB4 := kB HB4 j7c
      replace HB2 := kB HB2 j7c
      refine ckk hK9 (by exact ⟨kD HB9 0, kD HB4 0, kD HB9 1, kD HB2 2, kD HB4 1⟩) (h := ?_)
      clear hK9 K9
      refine sop (h := fun K9 hK9 => ?_)
      replace HB6 := kB (kB (kB (kB (kB (kO (SW14.out) (kB (kB (kB (kB (kB HB6 j1c) j4) j2c) j5) j3c) HNE_B6_B9.out) j6) j4c) j5c) j6c) j7c
      have c16 := kC HB6 0 rfl
      have c17 := kF HB6 0
      have c18 := kC HB6 1 rfl
      have c19 := kF HB6 1
      have c20 := kC HB6 2 rfl
      have c21 := kF HB6 2
      go_simp
      obtain ⟨W22, HW22⟩ : ∃ W, Hid (W = (((w7.setCell ⟨w.heap.size + 2, 0, none⟩ (.bool g7a)).setCell ⟨w.heap.size + 2, 1, none⟩ (.slice A7a k7a c7a)).setCell ⟨w.heap.size + 2, 2, none⟩ (.slice A7b k7b c7b))) := ⟨_, rfl⟩
      have SW22 : Hid (W22 = setsW w7 (w.heap.size + 2) 0 [.bool g7a, .slice A7a k7a c7a, .slice A7b k7b c7b]) := HW22.out
      have TW22 := kN (SW22.out) HB6 rfl rfl
      replace HB6 := kP (ds := [.bool g7a, .slice A7a k7a c7a, .slice A7b k7b c7b]) (SW22.out) HB6 rfl rfl
      rw [← HW22.out]
      replace HB9 := kO (SW22.out) HB9 HNE_B6_B9.out.symm
      replace HB4 := kO (SW22.out) HB4 HNE_B4_B6.out
      replace HB2 := kO (SW22.out) HB2 HNE_B2_B6.out
      refine ckk hK9 (by exact ⟨kD HB9 0, kD HB4 0, kD HB9 1, kD HB2 2, kD HB4 1⟩) (h := ?_)
      clear hK9 K9 c16 c17 c18 c19 c20 c21
      refine tk0 (h := ?_)
      refine seq_done (by kernel_rfl) ?_
      go_wp2_with fail
      have c23 := kC HB6 0 rfl
      have c24 := kC HB6 1 rfl
      have c25 := kC HB6 2 rfl
      replace HR7 := kW TW22 HR7
      replace HBw := kS (SW22.out) HLE_B6 (kU (kU (kU (kU (kU (kS (SW14.out) HLE_B9 (kU (kU (kU (kU (kU (kU (kU HBw j2) j3) j1c) j4) j2c) j5) j3c)) j6) j4c) j5c) j6c) j7c)
      exact bodyPost_ret (v := .tuple #[.agg #[.bool g7a, .slice A7a k7a c7a, .slice A7b k7b c7b], .int .i64 0]) (by simp [results, Tryz.results198, go_sem, c23, c24, c25]) rfl ⟨⟨_, rfl, HR7.out⟩, HBw.out⟩
    · intro K9 hK9
      go_simp
      replace HX0 := kV j2c (kV j4 (kV j1c (kV j3 (kV j2 (kV j1 HX0)))))
      refine (scaled_any _ _ x.num y.den _ HX0.out.num HR2.out (by have := HQX.out.1; omega) (by have := HQY.out.2; omega)).mono ?_
      rintro e w3 ⟨⟨vx, rfl, hr⟩, j3c⟩
      obtain ⟨g3a, A3a, k3a, c3a, rfl, hr⟩ := hr.open
      have HR3 := Lib.hid hr
      clear hr
      replace HB2 := kB HB2 j3c
      replace HB4 := kB HB4 j3c
      refine ckk hK9 (by exact ⟨kD HB2 0, kD HB2 1, kD HB4 2⟩) (h := ?_)
      clear hK9 K9
      refine sop (h := fun K9 hK9 => ?_)
      go_simp
      obtain ⟨W8, HW8, HB9, HSZ_W8, j5⟩ := st_al0 w3 #[.bool false, .slice none 0 0] 27
      have HNE_B2_B9 : Hid (w.heap.size ≠ w3.heap.size) := by show _ ≠ _; have hlt := blk_lt HB2.out; omega
      have HNE_B4_B9 : Hid (w.heap.size + 1 ≠ w3.heap.size) := by show _ ≠ _; have hlt := blk_lt HB4.out; omega
      have HNE_B6_B9 : Hid (w.heap.size + 2 ≠ w3.heap.size) := by show _ ≠ _; have hlt := blk_lt HB6.out; have := j1c.size; have := j4.size; have := j2c.size; have := j3c.size; omega
      have HLE_B9 : Hid (w.heap.size ≤ w3.heap.size) := by show _ ≤ _; have hlt := HBw.out.size; have := j2.size; have := j3.size; have := j1c.size; have := j4.size; have := j2c.size; have := j3c.size; omega
      rw [← HW8.out]
      replace HB2 := kB HB2 j5
      replace HB4 := kB HB4 j5
      refine ckk hK9 (by exact ⟨kD HB2 0, kD HB2 1, kD HB4 2⟩) (h := ?_)
      clear hK9 K9
      refine sop (h := fun K9 hK9 => ?_)
      have c10 := kC HB9 0 rfl
      have c11 := kF HB9 0
      have c12 := kC HB9 1 rfl
      have c13 := kF HB9 1
      go_simp
      obtain ⟨W14, HW14⟩ : ∃ W, Hid (W = ((W8.setCell ⟨w3.heap.size, 0, none⟩ (.bool g3a)).setCell ⟨w3.heap.size, 1, none⟩ (.slice A3a k3a c3a))) := ⟨_, rfl⟩
      have SW14 : Hid (W14 = setsW W8 (w3.heap.size) 0 [.bool g3a, .slice A3a k3a c3a]) := HW14.out
      have TW14 := kN (SW14.out) HB9 rfl rfl
      replace HB9 := kP (ds := [.bool g3a, .slice A3a k3a c3a]) (SW14.out) HB9 rfl rfl
      rw [← HW14.out]
      replace HB2 := kO (SW14.out) HB2 HNE_B2_B9.out
      replace HB4 := kO (SW14.out) HB4 HNE_B4_B9.out
      refine ckk hK9 (by exact ⟨kD HB2 0, kD HB2 1, kD HB4 2⟩) (h := ?_)
      clear hK9 K9 c10 c11 c12 c13
      refine seq_done (by kernel_rfl) ?_
      go_wp2_with fail
      obtain ⟨W15, hW15⟩ : ∃ W, W = W14.drew := ⟨_, rfl⟩
      have j6 : Below W14.heap.size W14 W15 := by rw [hW15]; exact (Below.refl _ _).drew
      replace HB9 := kB HB9 j6
      replace HB4 := kB HB4 j6
      replace HB2 := kB HB2 j6
      refine seq_start (S := fun w' => w'.cell? ⟨w3.heap.size, 0, none⟩ = some (.bool g3a) ∧ w'.cell? ⟨w.heap.size + 1, 0, none⟩ = some (.bool gp1a) ∧ w'.cell? ⟨w3.heap.size, 1, none⟩ = some (.slice A3a k3a c3a) ∧ w'.cell? ⟨w.heap.size, 2, none⟩ = some (.slice Ap0b kp0b cp0b) ∧ w'.cell? ⟨w.heap.size + 1, 1, none⟩ = some (.slice Ap1a kp1a cp1a)) (by kernel_rfl) (by kernel_rfl) (by rw [← hW15]; exact ⟨kD HB9 0, kD HB4 0, kD HB9 1, kD HB2 2, kD HB4 1⟩) ?_
      rw [← hW15]
      clear hW15
      iterate 8 refine tk0 (h := ?_)
      iterate 2 (refine plq 1 (h := ?_); refine tk0 (h := ?_))
      iterate 3 (refine plq 2 (h := ?_); refine tk0 (h := ?_))
      refine sop (h := fun K9 hK9 => ?_)
      go_simp
      replace HR3 := kV j6 (kW TW14 (kV j5 HR3))
      refine (whole_any _ _ (x.num * y.den).natAbs _ HR3.out.abs).mono ?_
      rintro e w4 ⟨⟨vx, rfl, hr⟩, j4c⟩
      obtain ⟨g4a, A4a, k4a, c4a, rfl, hr⟩ := hr.open
      have HR4 := Lib.hid hr
      clear hr
      replace HB9 := kB HB9 j4c
      replace HB4 := kB HB4 j4c
      replace HB2 := kB HB2 j4c
      refine ckk hK9 (by exact ⟨kD HB9 0, kD HB4 0, kD HB9 1, kD HB2 2, kD HB4 1⟩) (h := ?_)
      clear hK9 K9
      refine sop (h := fun K9 hK9 => ?_)
      go_simp
      replace HX0 := kV j4c (kV j6 (kW TW14 (kV j5 (kV j3c HX0))))
      refine (under_any _ x.den _ x.den_nz HX0.out.den).mono ?_
      rintro e w5 ⟨⟨vx, rfl, hr⟩, j5c⟩
      obtain ⟨A5, k5, c5, rfl, hr⟩ := hr.open
      have HR5 := Lib.hid hr
      clear hr
      replace HB9 := kB HB9 j5c
      replace HB4 := kB HB4 j5c
      replace HB2 := kB HB2 j5c
      refine ckk hK9 (by exact ⟨kD HB9 0, kD HB4 0, kD HB9 1, kD HB2 2, kD HB4 1⟩) (h := ?_)
      clear hK9 K9
      refine sop (h := fun K9 hK9 => ?_)
      go_simp
      replace HX1 := kV j5c (kV j4c (kV j6 (kW TW14 (kV j5 (kV j3c (kV j2c HX1))))))
      refine (times_any _ _ x.den y.num.natAbs _ HR5.out HX1.out.num.abs (by have := HQX.out.2; omega) (by have := HQY.out.1; omega)).mono ?_
      rintro e w6 ⟨⟨vx, rfl, hr⟩, j6c⟩
      obtain ⟨A6, k6, c6, rfl, hr⟩ := hr.open
      have HR6 := Lib.hid hr
      clear hr
      replace HB9 := kB HB9 j6c
      replace HB4 := kB HB4 j6c
      replace HB2 := kB HB2 j6c
      refine ckk hK9 (by exact ⟨kD HB9 0, kD HB4 0, kD HB9 1, kD HB2 2, kD HB4 1⟩) (h := ?_)
      clear hK9 K9
      refine sop (h := fun K9 hK9 => ?_)
      go_simp
      replace HR4 := kV j6c (kV j5c HR4)
      refine (over_any _ _ _ _ _ HR4.out HR6.out HP.out.2.2 (by rw [signed_abs]; exact HP.out.1) HP.out.2.1).mono ?_
      rintro e w7 ⟨⟨vx, rfl, hr⟩, j7c⟩
      obtain ⟨g7a, A7a, k7a, c7a, A7b, k7b, c7b, rfl, hr⟩ := hr.open
      have HR7 := Lib.hid hr
      clear hr
      have hq := HR7.out
      replace HR3 := kV j7c (kV j6c (kV j5c (kV j4c HR3)))
      replace HX1 := kV j7c (kV j6c HX1)
      rw [HR3.out.sign, HX1.out.num.sign, HDS.out] at hq
      replace HR7 := Lib.hid hq
      clear hq
      replace HB9 := kB HB9 j7c
      replace HB4 := kB HB4 j7c
      replace HB2 := kB HB2 j7c
      refine ckk hK9 (by exact ⟨kD HB9 0, kD HB4 0, kD HB9 1, kD HB2 2, kD HB4 1⟩) (h := ?_)
      clear hK9 K9
      refine sop (h := fun K9 hK9 => ?_)
      replace HB6 := kB (kB (kB (kB (kB (kO (SW14.out) (kB (kB (kB (kB (kB HB6 j1c) j4) j2c) j3c) j5) HNE_B6_B9.out) j6) j4c) j5c) j6c) j7c
      have c16 := kC HB6 0 rfl
      have c17 := kF HB6 0
      have c18 := kC HB6 1 rfl
      have c19 := kF HB6 1
      have c20 := kC HB6 2 rfl
      have c21 := kF HB6 2
      go_simp
      obtain ⟨W22, HW22⟩ : ∃ W, Hid (W = (((w7.setCell ⟨w.heap.size + 2, 0, none⟩ (.bool g7a)).setCell ⟨w.heap.size + 2, 1, none⟩ (.slice A7a k7a c7a)).setCell ⟨w.heap.size + 2, 2, none⟩ (.slice A7b k7b c7b))) := ⟨_, rfl⟩
      have SW22 : Hid (W22 = setsW w7 (w.heap.size + 2) 0 [.bool g7a, .slice A7a k7a c7a, .slice A7b k7b c7b]) := HW22.out
      have TW22 := kN (SW22.out) HB6 rfl rfl
      replace HB6 := kP (ds := [.bool g7a, .slice A7a k7a c7a, .slice A7b k7b c7b]) (SW22.out) HB6 rfl rfl
      rw [← HW22.out]
      replace HB9 := kO (SW22.out) HB9 HNE_B6_B9.out.symm
      replace HB4 := kO (SW22.out) HB4 HNE_B4_B6.out
      replace HB2 := kO (SW22.out) HB2 HNE_B2_B6.out
      refine ckk hK9 (by exact ⟨kD HB9 0, kD HB4 0, kD HB9 1, kD HB2 2, kD HB4 1⟩) (h := ?_)
      clear hK9 K9 c16 c17 c18 c19 c20 c21
      refine tk0 (h := ?_)
      refine seq_done (by kernel_rfl) ?_
      go_wp2_with fail
      have c23 := kC HB6 0 rfl
      have c24 := kC HB6 1 rfl
      have c25 := kC HB6 2 rfl
      replace HR7 := kW TW22 HR7
      replace HBw := kS (SW22.out) HLE_B6 (kU (kU (kU (kU (kU (kS (SW14.out) HLE_B9 (kU (kU (kU (kU (kU (kU (kU HBw j2) j3) j1c) j4) j2c) j3c) j5)) j6) j4c) j5c) j6c) j7c)
      exact bodyPost_ret (v := .tuple #[.agg #[.bool g7a, .slice A7a k7a c7a, .slice A7b k7b c7b], .int .i64 0]) (by simp [results, Tryz.results198, go_sem, c23, c24, c25]) rfl ⟨⟨_, rfl, HR7.out⟩, HBw.out⟩
  · intro K9 hK9
    go_simp
    obtain ⟨W8, HW8, HB9, HSZ_W8, j5⟩ := st_al0 W7 #[.bool false, .slice none 0 0] 27
    have HNE_B2_B9 : Hid (w.heap.size ≠ W7.heap.size) := by show _ ≠ _; have hlt := blk_lt HB2.out; omega
    have HNE_B4_B9 : Hid (w.heap.size + 1 ≠ W7.heap.size) := by show _ ≠ _; have hlt := blk_lt HB4.out; omega
    have HNE_B6_B9 : Hid (w.heap.size + 2 ≠ W7.heap.size) := by show _ ≠ _; have hlt := blk_lt HB6.out; have := j1c.size; have := j4.size; omega
    have HLE_B9 : Hid (w.heap.size ≤ W7.heap.size) := by show _ ≤ _; have hlt := HBw.out.size; have := j2.size; have := j3.size; have := j1c.size; have := j4.size; omega
    rw [← HW8.out]
    replace HB2 := kB HB2 j5
    replace HB4 := kB HB4 j5
    refine ckk hK9 (by exact ⟨kD HB2 0, kD HB2 1, kD HB4 2⟩) (h := ?_)
    clear hK9 K9
    refine sop (h := fun K9 hK9 => ?_)
    go_simp
    replace HX1 := kV j5 (kV j4 (kV j1c HX1))
    refine (under_any _ y.den _ y.den_nz HX1.out.den).mono ?_
    rintro e w2 ⟨⟨vx, rfl, hr⟩, j2c⟩
    obtain ⟨A2, k2, c2, rfl, hr⟩ := hr.open
    have HR2 := Lib.hid hr
    clear hr
    replace HB2 := kB HB2 j2c
    replace HB4 := kB HB4 j2c
    refine ckk hK9 (by exact ⟨kD HB2 0, kD HB2 1, kD HB4 2⟩) (h := ?_)
    clear hK9 K9
    refine sop (h := fun K9 hK9 => ?_)
    go_simp
    replace HX0 := kV j2c (kV j5 (kV j4 (kV j1c (kV j3 (kV j2 (kV j1 HX0))))))
    refine (scaled_any _ _ x.num y.den _ HX0.out.num HR2.out (by have := HQX.out.1; omega) (by have := HQY.out.2; omega)).mono ?_
    rintro e w3 ⟨⟨vx, rfl, hr⟩, j3c⟩
    obtain ⟨g3a, A3a, k3a, c3a, rfl, hr⟩ := hr.open
    have HR3 := Lib.hid hr
    clear hr
    replace HB2 := kB HB2 j3c
    replace HB4 := kB HB4 j3c
    refine ckk hK9 (by exact ⟨kD HB2 0, kD HB2 1, kD HB4 2⟩) (h := ?_)
    clear hK9 K9
    refine sop (h := fun K9 hK9 => ?_)
    replace HB9 := kB (kB HB9 j2c) j3c
    have c10 := kC HB9 0 rfl
    have c11 := kF HB9 0
    have c12 := kC HB9 1 rfl
    have c13 := kF HB9 1
    go_simp
    obtain ⟨W14, HW14⟩ : ∃ W, Hid (W = ((w3.setCell ⟨W7.heap.size, 0, none⟩ (.bool g3a)).setCell ⟨W7.heap.size, 1, none⟩ (.slice A3a k3a c3a))) := ⟨_, rfl⟩
    have SW14 : Hid (W14 = setsW w3 (W7.heap.size) 0 [.bool g3a, .slice A3a k3a c3a]) := HW14.out
    have TW14 := kN (SW14.out) HB9 rfl rfl
    replace HB9 := kP (ds := [.bool g3a, .slice A3a k3a c3a]) (SW14.out) HB9 rfl rfl
    rw [← HW14.out]
    replace HB2 := kO (SW14.out) HB2 HNE_B2_B9.out
    replace HB4 := kO (SW14.out) HB4 HNE_B4_B9.out
    refine ckk hK9 (by exact ⟨kD HB2 0, kD HB2 1, kD HB4 2⟩) (h := ?_)
    clear hK9 K9 c10 c11 c12 c13
    refine seq_done (by kernel_rfl) ?_
    go_wp2_with fail
    obtain ⟨W15, hW15⟩ : ∃ W, W = W14.drew := ⟨_, rfl⟩
    have j6 : Below W14.heap.size W14 W15 := by rw [hW15]; exact (Below.refl _ _).drew
    replace HB9 := kB HB9 j6
    replace HB4 := kB HB4 j6
    replace HB2 := kB HB2 j6
    refine seq_start (S := fun w' => w'.cell? ⟨W7.heap.size, 0, none⟩ = some (.bool g3a) ∧ w'.cell? ⟨w.heap.size + 1, 0, none⟩ = some (.bool gp1a) ∧ w'.cell? ⟨W7.heap.size, 1, none⟩ = some (.slice A3a k3a c3a) ∧ w'.cell? ⟨w.heap.size, 2, none⟩ = some (.slice Ap0b kp0b cp0b) ∧ w'.cell? ⟨w.heap.size + 1, 1, none⟩ = some (.slice Ap1a kp1a cp1a)) (by kernel_rfl) (by kernel_rfl) (by rw [← hW15]; exact ⟨kD HB9 0, kD HB4 0, kD HB9 1, kD HB2 2, kD HB4 1⟩) ?_
    rw [← hW15]
    clear hW15
    iterate 8 refine tk0 (h := ?_)
    iterate 2 (refine plq 1 (h := ?_); refine tk0 (h := ?_))
    iterate 3 (refine plq 2 (h := ?_); refine tk0 (h := ?_))
    refine sop (h := fun K9 hK9 => ?_)
    go_simp
    replace HR3 := kV j6 (kW TW14 HR3)
    refine (whole_any _ _ (x.num * y.den).natAbs _ HR3.out.abs).mono ?_
    rintro e w4 ⟨⟨vx, rfl, hr⟩, j4c⟩
    obtain ⟨g4a, A4a, k4a, c4a, rfl, hr⟩ := hr.open
    have HR4 := Lib.hid hr
    clear hr
    replace HB9 := kB HB9 j4c
    replace HB4 := kB HB4 j4c
    replace HB2 := kB HB2 j4c
    refine ckk hK9 (by exact ⟨kD HB9 0, kD HB4 0, kD HB9 1, kD HB2 2, kD HB4 1⟩) (h := ?_)
    clear hK9 K9
    refine sop (h := fun K9 hK9 => ?_)
    go_simp
    replace HX0 := kV j4c (kV j6 (kW TW14 (kV j3c HX0)))
    refine (under_any _ x.den _ x.den_nz HX0.out.den).mono ?_
    rintro e w5 ⟨⟨vx, rfl, hr⟩, j5c⟩
    obtain ⟨A5, k5, c5, rfl, hr⟩ := hr.open
    have HR5 := Lib.hid hr
    clear hr
    replace HB9 := kB HB9 j5c
    replace HB4 := kB HB4 j5c
    replace HB2 := kB HB2 j5c
    refine ckk hK9 (by exact ⟨kD HB9 0, kD HB4 0, kD HB9 1, kD HB2 2, kD HB4 1⟩) (h := ?_)
    clear hK9 K9
    refine sop (h := fun K9 hK9 => ?_)
    go_simp
    replace HX1 := kV j5c (kV j4c (kV j6 (kW TW14 (kV j3c (kV j2c HX1)))))
    refine (times_any _ _ x.den y.num.natAbs _ HR5.out HX1.out.num.abs (by have := HQX.out.2; omega) (by have := HQY.out.1; omega)).mono ?_
    rintro e w6 ⟨⟨vx, rfl, hr⟩, j6c⟩
    obtain ⟨A6, k6, c6, rfl, hr⟩ := hr.open
    have HR6 := Lib.hid hr
    clear hr
    replace HB9 := kB HB9 j6c
    replace HB4 := kB HB4 j6c
    replace HB2 := kB HB2 j6c
    refine ckk hK9 (by exact ⟨kD HB9 0, kD HB4 0, kD HB9 1, kD HB2 2, kD HB4 1⟩) (h := ?_)
    clear hK9 K9
    refine sop (h := fun K9 hK9 => ?_)
    go_simp
    replace HR4 := kV j6c (kV j5c HR4)
    refine (over_any _ _ _ _ _ HR4.out HR6.out HP.out.2.2 (by rw [signed_abs]; exact HP.out.1) HP.out.2.1).mono ?_
    rintro e w7 ⟨⟨vx, rfl, hr⟩, j7c⟩
    obtain ⟨g7a, A7a, k7a, c7a, A7b, k7b, c7b, rfl, hr⟩ := hr.open
    have HR7 := Lib.hid hr
    clear hr
    have hq := HR7.out
    replace HR3 := kV j7c (kV j6c (kV j5c (kV j4c HR3)))
    replace HX1 := kV j7c (kV j6c HX1)
    rw [HR3.out.sign, HX1.out.num.sign, HDS.out] at hq
    replace HR7 := Lib.hid hq
    clear hq
    replace HB9 := kB HB9 j7c
    replace HB4 := kB HB4 j7c
    replace HB2 := kB HB2 j7c
    refine ckk hK9 (by exact ⟨kD HB9 0, kD HB4 0, kD HB9 1, kD HB2 2, kD HB4 1⟩) (h := ?_)
    clear hK9 K9
    refine sop (h := fun K9 hK9 => ?_)
    replace HB6 := kB (kB (kB (kB (kB (kO (SW14.out) (kB (kB (kB (kB (kB HB6 j1c) j4) j5) j2c) j3c) HNE_B6_B9.out) j6) j4c) j5c) j6c) j7c
    have c16 := kC HB6 0 rfl
    have c17 := kF HB6 0
    have c18 := kC HB6 1 rfl
    have c19 := kF HB6 1
    have c20 := kC HB6 2 rfl
    have c21 := kF HB6 2
    go_simp
    obtain ⟨W22, HW22⟩ : ∃ W, Hid (W = (((w7.setCell ⟨w.heap.size + 2, 0, none⟩ (.bool g7a)).setCell ⟨w.heap.size + 2, 1, none⟩ (.slice A7a k7a c7a)).setCell ⟨w.heap.size + 2, 2, none⟩ (.slice A7b k7b c7b))) := ⟨_, rfl⟩
    have SW22 : Hid (W22 = setsW w7 (w.heap.size + 2) 0 [.bool g7a, .slice A7a k7a c7a, .slice A7b k7b c7b]) := HW22.out
    have TW22 := kN (SW22.out) HB6 rfl rfl
    replace HB6 := kP (ds := [.bool g7a, .slice A7a k7a c7a, .slice A7b k7b c7b]) (SW22.out) HB6 rfl rfl
    rw [← HW22.out]
    replace HB9 := kO (SW22.out) HB9 HNE_B6_B9.out.symm
    replace HB4 := kO (SW22.out) HB4 HNE_B4_B6.out
    replace HB2 := kO (SW22.out) HB2 HNE_B2_B6.out
    refine ckk hK9 (by exact ⟨kD HB9 0, kD HB4 0, kD HB9 1, kD HB2 2, kD HB4 1⟩) (h := ?_)
    clear hK9 K9 c16 c17 c18 c19 c20 c21
    refine tk0 (h := ?_)
    refine seq_done (by kernel_rfl) ?_
    go_wp2_with fail
    have c23 := kC HB6 0 rfl
    have c24 := kC HB6 1 rfl
    have c25 := kC HB6 2 rfl
    replace HR7 := kW TW22 HR7
    replace HBw := kS (SW22.out) HLE_B6 (kU (kU (kU (kU (kU (kS (SW14.out) HLE_B9 (kU (kU (kU (kU (kU (kU (kU HBw j2) j3) j1c) j4) j5) j2c) j3c)) j6) j4c) j5c) j6c) j7c)
    exact bodyPost_ret (v := .tuple #[.agg #[.bool g7a, .slice A7a k7a c7a, .slice A7b k7b c7b], .int .i64 0]) (by simp [results, Tryz.results198, go_sem, c23, c24, c25]) rfl ⟨⟨_, rfl, HR7.out⟩, HBw.out⟩
theorem one_any (w : World) :
    Calls Tryz.prog 119 #[] w fun e w' => (∃ v', e = .returned v' ∧ RdQ w' v' 1) ∧ Below w.heap.size w w' := by
  go_enter Tryz.func119, Tryz.ntmps119
  obtain ⟨W1, HW1, HB2, HSZ_W1, j1⟩ := st_al0 w #[.bool false, .slice none 0 0, .slice none 0 0] 32
  have HLE_B2 : Hid (w.heap.size ≤ w.heap.size) := by show _ ≤ _; omega
  have HBw := Lib.hid j1
  go_wp2_with fail
  rw [← HW1.out]
  refine (int_any 1 _ (by omega) (by omega)).mono ?_
  rintro e w1 ⟨⟨vx, rfl, hr⟩, j1c⟩
  obtain ⟨g1a, A1a, k1a, c1a, A1b, k1b, c1b, rfl, hr⟩ := hr.open
  have HR1 := Lib.hid hr
  clear hr
  replace HB2 := kB HB2 j1c
  have c3 := kC HB2 0 rfl
  have c4 := kF HB2 0
  have c5 := kC HB2 1 rfl
  have c6 := kF HB2 1
  have c7 := kC HB2 2 rfl
  have c8 := kF HB2 2
  obtain ⟨W9, HW9⟩ : ∃ W, Hid (W = (((w1.setCell ⟨w.heap.size, 0, none⟩ (.bool g1a)).setCell ⟨w.heap.size, 1, none⟩ (.slice A1a k1a c1a)).setCell ⟨w.heap.size, 2, none⟩ (.slice A1b k1b c1b))) := ⟨_, rfl⟩
  have SW9 : Hid (W9 = setsW w1 (w.heap.size) 0 [.bool g1a, .slice A1a k1a c1a, .slice A1b k1b c1b]) := HW9.out
  have TW9 := kN (SW9.out) HB2 rfl rfl
  replace HB2 := kP (ds := [.bool g1a, .slice A1a k1a c1a, .slice A1b k1b c1b]) (SW9.out) HB2 rfl rfl
  go_wp2_with fail
  rw [← HW9.out]
  clear c3 c4 c5 c6 c7 c8
  have c10 := kC HB2 0 rfl
  have c11 := kC HB2 1 rfl
  have c12 := kC HB2 2 rfl
  replace HR1 := kW TW9 HR1
  replace HBw := kS (SW9.out) HLE_B2 (kU HBw j1c)
  exact bodyPost_ret (v := .agg #[.bool g1a, .slice A1a k1a c1a, .slice A1b k1b c1b]) (by simp [results, Tryz.results119, go_sem, c10, c11, c12]) rfl ⟨⟨_, rfl, HR1.out⟩, HBw.out⟩
theorem ratioB_any (v u : Value) (x y : Rat) (w : World) (hv : RdQ w v x) (hu : RdQ w u y) (hy : y ≠ 0) (hx6 : QS 100000 x) (hy6 : QS 100000 y) :
    Calls Tryz.prog 120 #[v, u] w fun e w' => (∃ v', e = .returned v' ∧ RdQ w' v' (x / y)) ∧ Below w.heap.size w w' := by
  have HQX := Lib.hid hx6
  have HQY := Lib.hid hy6
  have HY0 := Lib.hid hy
  clear hx6 hy6 hy
  obtain ⟨gp0a, Ap0a, kp0a, cp0a, Ap0b, kp0b, cp0b, rfl, hv⟩ := hv.open
  have HX0 := Lib.hid hv
  clear hv
  obtain ⟨gp1a, Ap1a, kp1a, cp1a, Ap1b, kp1b, cp1b, rfl, hu⟩ := hu.open
  have HX1 := Lib.hid hu
  clear hu
  go_enter Tryz.func120, Tryz.ntmps120
  obtain ⟨W1, HW1, HB2, HSZ_W1, j1⟩ := st_al0 w #[.bool gp0a, .slice Ap0a kp0a cp0a, .slice Ap0b kp0b cp0b] 32
  have HBw := Lib.hid j1
  obtain ⟨W3, HW3, HB4, HSZ_W3, j2⟩ := st_alk 1 2 #[.bool gp1a, .slice Ap1a kp1a cp1a, .slice Ap1b kp1b cp1b] 32 HSZ_W1 rfl
  obtain ⟨W5, HW5, HB6, HSZ_W5, j3⟩ := st_alk 2 3 #[.bool false, .slice none 0 0, .slice none 0 0] 32 HSZ_W3 rfl
  have HLE_B6 : Hid (w.heap.size ≤ w.heap.size + 2) := by show _ ≤ _; have hlt := HBw.out.size; have := j2.size; have := HSZ_W3.out; omega
  go_wp2_with fail
  rw [← HW1.out, ← HW3.out, ← HW5.out]
  replace HX0 := kV j3 (kV j2 (kV j1 HX0))
  replace HX1 := kV j3 (kV j2 (kV j1 HX1))
  refine (div_any _ _ x y _ HX0.out HX1.out HY0.out HQX.out HQY.out).mono ?_
  rintro e w1 ⟨⟨vx, rfl, hr⟩, j1c⟩
  obtain ⟨g1a, A1a, k1a, c1a, A1b, k1b, c1b, rfl, hr⟩ := hr.open
  have HR1 := Lib.hid hr
  clear hr
  obtain ⟨W7, HW7, HB8, HSZ_W7, j4⟩ := st_al0 w1 #[.bool g1a, .slice A1a k1a c1a, .slice A1b k1b c1b] 32
  replace HB6 := kB (kB HB6 j1c) j4
  have c9 := kC HB6 0 rfl
  have c10 := kF HB6 0
  have c11 := kC HB6 1 rfl
  have c12 := kF HB6 1
  have c13 := kC HB6 2 rfl
  have c14 := kF HB6 2
  obtain ⟨W15, HW15⟩ : ∃ W, Hid (W = (((W7.setCell ⟨w.heap.size + 2, 0, none⟩ (.bool g1a)).setCell ⟨w.heap.size + 2, 1, none⟩ (.slice A1a k1a c1a)).setCell ⟨w.heap.size + 2, 2, none⟩ (.slice A1b k1b c1b))) := ⟨_, rfl⟩
  have SW15 : Hid (W15 = setsW W7 (w.heap.size + 2) 0 [.bool g1a, .slice A1a k1a c1a, .slice A1b k1b c1b]) := HW15.out
  have TW15 := kN (SW15.out) HB6 rfl rfl
  replace HB6 := kP (ds := [.bool g1a, .slice A1a k1a c1a, .slice A1b k1b c1b]) (SW15.out) HB6 rfl rfl
  rw [HW7.out] at c9
  rw [HW7.out] at c10
  rw [HW7.out] at c11
  rw [HW7.out] at c12
  rw [HW7.out] at c13
  rw [HW7.out] at c14
  go_wp2_with fail
  rw [← HW7.out, ← HW15.out]
  rw [← HW7.out] at c9
  rw [← HW7.out] at c10
  rw [← HW7.out] at c11
  rw [← HW7.out] at c12
  rw [← HW7.out] at c13
  rw [← HW7.out] at c14
  clear c9 c10 c11 c12 c13 c14
  have c16 := kC HB6 0 rfl
  have c17 := kC HB6 1 rfl
  have c18 := kC HB6 2 rfl
  replace HR1 := kW TW15 (kV j4 HR1)
  replace HBw := kS (SW15.out) HLE_B6 (kU (kU (kU (kU HBw j2) j3) j1c) j4)
  exact bodyPost_ret (v := .agg #[.bool g1a, .slice A1a k1a c1a, .slice A1b k1b c1b]) (by simp [results, Tryz.results120, go_sem, c16, c17, c18]) rfl ⟨⟨_, rfl, HR1.out⟩, HBw.out⟩
end Go.Proofs.YtodckaioeomccaaGreat
