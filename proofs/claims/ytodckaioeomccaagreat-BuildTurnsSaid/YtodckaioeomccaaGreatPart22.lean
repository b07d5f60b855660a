/- The walks of fractions: over, Int, New, Add. The walks of Int, New and of the law's Of. Integers, fractions, numbers with roots in memory: opened into their cells; what a store elsewhere leaves. Steps of a drawn region in short words. -/
import Derived.Test.YtodckaioeomccaaGreatPart06
import Derived.Test.YtodckaioeomccaaGreatPart21
import Derived.StillTailTactics
namespace Go.Proofs.YtodckaioeomccaaGreat
open Go.RowKit
set_option linter.unusedVariables false
set_option linter.unusedSimpArgs false
def RdQ (w : World) (v : Value) (x : Rat) : Prop := ∃ a b, v = .agg #[.bool (decide (x.num < 0)), a, b] ∧ RdN w a x.num.natAbs ∧ RdN w b (den1 x.den)
theorem RdN.set1 {w : World} {v : Value} {n : Nat} (h : RdN w v n) {p : Addr} {A : Option Addr} {m c : Nat} (h0 : w.cell? p = some (.slice A m c)) (u : Value) : RdN (w.setCell p u) v n := Rd.set_ h h0 (nwS _ _ _) u
theorem mk_num {z : Int} {D : Nat} (hD : D ≠ 0) : (mkRat z D).num = z / (Nat.gcd z.natAbs D : Nat) := by
 rw [Rat.num_mkRat, if_neg hD, Nat.gcd_comm]
theorem mk_den {z : Int} {D : Nat} (hD : D ≠ 0) : (mkRat z D).den = D / Nat.gcd z.natAbs D := by
 rw [Rat.den_mkRat, if_neg hD, Nat.gcd_comm]
theorem mk_parts {z : Int} {D : Nat} (hD : D ≠ 0) : decide ((mkRat z D).num < 0) = decide (z < 0) ∧ (mkRat z D).num.natAbs = z.natAbs / Nat.gcd z.natAbs D ∧ (mkRat z D).den = D / Nat.gcd z.natAbs D := by
 obtain ⟨g, hg⟩ : ∃ g, g = Nat.gcd z.natAbs D := ⟨_, rfl⟩
 have hg0 : 0 < g := by rw [hg]; exact Nat.gcd_pos_of_pos_right _ (Nat.pos_of_ne_zero hD)
 have hdv : g ∣ z.natAbs := by rw [hg]; exact Nat.gcd_dvd_left _ _
 rw [mk_num hD, mk_den hD, ← hg]
 obtain ⟨m, hm⟩ := hdv
 refine ⟨?_, ?_, rfl⟩
 ·rw [decide_eq_decide]
  constructor
  ·intro h
   refine Int.not_le.1 fun h0 => ?_
   have := Int.ediv_nonneg h0 (show (0 : Int) ≤ (g : Int) by omega)
   omega
  ·intro h
   exact Int.ediv_neg_of_neg_of_pos h (by omega)
 ·by_cases h : z < 0
  ·have hz : z = -((g * m : Nat) : Int) := by omega
   have h5 : z / (g : Int) = -(m : Int) := by rw [hz, Int.natCast_mul, ← Int.mul_neg, Int.mul_ediv_cancel_left _ (by omega)]
   rw [h5, hm, Nat.mul_div_cancel_left _ hg0, Int.natAbs_neg]; rfl
  ·have hz : z = ((g * m : Nat) : Int) := by omega
   have h5 : z / (g : Int) = (m : Int) := by rw [hz, Int.natCast_mul, Int.mul_ediv_cancel_left _ (by omega)]
   rw [h5, hm, Nat.mul_div_cancel_left _ hg0]; rfl
set_option maxRecDepth 100000 in
set_option maxHeartbeats 4000000 in
theorem over_any (v vd : Value) (z : Int) (D : Nat) (w : World) (hv : RdZ w v z) (hd : RdN w vd D) (hD : D ≠ 0) (hz6 : dl z.natAbs ≤ 900000) (hd6 : dl D ≤ 900000) :
  Calls Tryz.prog 163 #[v, vd] w fun e w' => (∃ v', e = .returned v' ∧ RdQ w' v' (mkRat z D)) ∧ Below w.heap.size w w' := by
 obtain ⟨a, rfl, ha⟩ := hv
 obtain ⟨Aa, ka, ca, rfl⟩ := ha.slice
 obtain ⟨Ad, kd, cd, rfl⟩ := hd.slice
 obtain ⟨ng, hng⟩ : ∃ b, b = decide (z < 0) := ⟨_, rfl⟩
 obtain ⟨m1, m2, m3⟩ := mk_parts (z := z) hD
 rw [← hng] at m1 ⊢
 obtain ⟨X, hX⟩ : ∃ X, X = mkRat z D := ⟨_, rfl⟩
 rw [← hX] at m1 m2 m3 ⊢
 obtain ⟨g, hg⟩ : ∃ g, g = Nat.gcd z.natAbs D := ⟨_, rfl⟩
 rw [← hg] at m2 m3
 have hg0 : g ≠ 0 := by rw [hg]; exact Nat.pos_iff_ne_zero.1 (Nat.gcd_pos_of_pos_right _ (Nat.pos_of_ne_zero hD))
 have hg6 : dl g ≤ 900000 := by rw [hg]; exact Nat.le_trans (dl_mono (Nat.gcd_le_right _ (Nat.pos_of_ne_zero hD))) hd6
 have HA := h0d ha
 have HD := h0d hd
 have HGC : Hid (∀ w', Below w.heap.size w w' → Calls Tryz.prog 225 #[.slice Aa ka ca, .slice Ad kd cd] w' fun e w'' => (∃ v', e = .returned v' ∧ RdN w'' v' g) ∧ Below w'.heap.size w' w'') := fun w' h => by
  rw [hg]; exact gcd_any _ _ z.natAbs D w' (ha.below h) (hd.below h) hz6 hd6
 have M1 := h0d m1
 have M2 := h0d m2
 have M3 := h0d m3
 have HG0 := h0d hg0
 obtain ⟨W2, hW2⟩ : ∃ W2, W2 = (w.alloc (Obj.cells #[Value.bool ng, .slice Aa ka ca] 27)).alloc (Obj.cells #[Value.bool false, Value.slice none 0 0, Value.slice none 0 0] 32) := ⟨_, rfl⟩
 have hb2 : Below w.heap.size w W2 := by rw [hW2]; exact ((Below.refl _ _).alloc (Nat.le_refl _) _).alloc (by simp) _
 have hsz2 : w.heap.size + 2 ≤ W2.heap.size := by rw [hW2]; simp
 have HARG : Hid (∀ w', Below W2.heap.size W2 w' → _) := fun w' h => res2 (c0 := .bool ng) (c1 := .slice Aa ka ca) (b := w.heap.size) (t := 27) (by rw [hW2, Below.heap_alloc _ _ _ (by simp)]; exact heap_alloc_new w _) h
 have HRS : Hid (∀ w', Below W2.heap.size W2 w' → _) := fun w' h => res3 (c0 := .bool false) (c1 := .slice none 0 0) (c2 := .slice none 0 0) (b := w.heap.size + 1) (t := 32) (by rw [hW2]; have := heap_alloc_new (w.alloc (Obj.cells #[Value.bool ng, .slice Aa ka ca] 27)) (.cells #[Value.bool false, Value.slice none 0 0, Value.slice none 0 0] 32); simpa using this) h
 have HB2 := h0d hb2
 have HSZ := h0d hsz2
 have HW2 := h0d hW2
 clear ha hd hng hW2 hb2 m1 m2 m3 hX hg hg0 hsz2
 go_enter Tryz.func163, Tryz.ntmps163
 go_wp2_with fail
 rw [← HW2.out]
 refine (HGC.out _ HB2.out).mono ?_
 rintro e w3 ⟨⟨v3, rfl, hr3⟩, hb3⟩
 obtain ⟨A3, n3, c3, rfl⟩ := hr3.slice
 have HR3 := h0d hr3
 have HB3 := h0d hb3
 have HI3 := h0d (isOne_any _ g w3 hr3)
 obtain ⟨d0, d1, d2, d3⟩ := HARG.out _ hb3
 have HBW3 : Hid (Below w.heap.size w w3) := HB2.out.trans (hb3.mono HB2.out.size)
 clear hr3 hb3
 by_cases hg1 : g = 1
 ·have hgb : decide (g = 1) = true := decide_eq_true hg1
  rw [hgb] at HI3
  have HD1 := h0d (isOne_any _ D w3 (HD.out.below HBW3.out))
  have HX2 : Hid (X.num.natAbs = z.natAbs) := by show _ = _; rw [M2.out, hg1, Nat.div_one]
  have HX3 : Hid (X.den = D) := by show _ = _; rw [M3.out, hg1, Nat.div_one]
  obtain ⟨r0, r1, r2, r3, r4, r5⟩ := HRS.out _ HB3.out
  clear hgb hg1
  by_cases hD1 : D = 1
  ·have hDb : decide (D = 1) = true := decide_eq_true hD1
   have HE1 := h0d hD1
   rw [hDb] at HD1
   clear hDb hD1
   go_wp2_with (go_at_call 226; (first | (with_reducible refine HI3.out.mono ?_) | (with_reducible refine HD1.out.mono ?_)); rintro e w4 ⟨rfl, rfl⟩)
   exact bodyPost_ret (v := .agg #[.bool ng, .slice Aa ka ca, .slice none 0 0]) (by simp [results, Tryz.results163, go_sem, r0, r1, r2]) rfl ⟨⟨_, rfl, _, _, by rw [M1.out], by rw [HX2.out]; exact (HA.out.below HBW3.out).set3 r0 r1 r2 _ _ _, by rw [HX3.out, HE1.out]; exact RdN.nil_ _⟩, ((HBW3.out.setCell (by simp) _).setCell (by simp) _).setCell (by simp) _⟩
  ·have hDb : decide (D = 1) = false := decide_eq_false hD1
   have HE1 := h0d hD1
   rw [hDb] at HD1
   clear hDb hD1
   go_wp2_with (go_at_call 226; (first | (with_reducible refine HI3.out.mono ?_) | (with_reducible refine HD1.out.mono ?_)); rintro e w4 ⟨rfl, rfl⟩)
   exact bodyPost_ret (v := .agg #[.bool ng, .slice Aa ka ca, .slice Ad kd cd]) (by simp [results, Tryz.results163, go_sem, r0, r1, r2]) rfl ⟨⟨_, rfl, _, _, by rw [M1.out], by rw [HX2.out]; exact (HA.out.below HBW3.out).set3 r0 r1 r2 _ _ _, by rw [HX3.out]; unfold den1; rw [if_neg HE1.out]; exact (HD.out.below HBW3.out).set3 r0 r1 r2 _ _ _⟩, ((HBW3.out.setCell (by simp) _).setCell (by simp) _).setCell (by simp) _⟩
 ·have hgb : decide (g = 1) = false := decide_eq_false hg1
  rw [hgb] at HI3
  have HD1 := h0d (divide_any _ _ z.natAbs g w3 (HA.out.below HBW3.out) HR3.out HG0.out hz6 hg6)
  clear hgb hg1
  go_wp2_with (go_at_call 226; refine HI3.out.mono ?_; rintro e w4 ⟨rfl, rfl⟩)
  refine HD1.out.mono ?_
  rintro e w5 ⟨v5, u5, rfl, hr5, hs5, hb5⟩
  obtain ⟨A5, n5, c5, rfl⟩ := hr5.slice
  have HR5 := h0d hr5
  have HB5 : Hid (Below W2.heap.size W2 w5) := HB3.out.trans (hb5.mono HB3.out.size)
  have HBW5 : Hid (Below w.heap.size w w5) := HB2.out.trans (HB5.out.mono HB2.out.size)
  have HR35 := h0d (HR3.out.below hb5)
  obtain ⟨e0, e1, e2, e3⟩ := HARG.out _ HB5.out
  obtain ⟨r0, r1, r2, r3, r4, r5⟩ := HRS.out _ HB5.out
  clear hr5 hs5 hb5 d0 d1 d2 d3
  obtain ⟨W6, hW6⟩ : ∃ W6, W6 = w5.setCell ⟨w.heap.size, 1, none⟩ (.slice A5 n5 c5) := ⟨_, rfl⟩
  have HBW6 : Hid (Below w.heap.size w W6) := by rw [hW6]; exact HBW5.out.setCell (Nat.le_refl _) _
  have HD6 : Hid (RdN W6 (.slice Ad kd cd) D) := by rw [hW6]; exact (HD.out.below HBW5.out).set1 e1 _
  have HG6 : Hid (RdN W6 (.slice A3 n3 c3) g) := by rw [hW6]; exact HR35.out.set1 e1 _
  have HQ6 : Hid (RdN W6 (.slice A5 n5 c5) (z.natAbs / g)) := by rw [hW6]; exact HR5.out.set1 e1 _
  have h6 : W6.cell? ⟨w.heap.size, 0, none⟩ = some (.bool ng) := by rw [hW6, World.cell?_setCell_other w5 ⟨w.heap.size, 1, none⟩ ⟨w.heap.size, 0, none⟩ _ (by intro e; simp at e)]; exact e0
  have h7 : W6.cell? ⟨w.heap.size, 1, none⟩ = some (.slice A5 n5 c5) := by rw [hW6]; exact World.cell?_setCell_same w5 _ _ e1
  have k0 : W6.cell? ⟨w.heap.size + 1, 0, none⟩ = some (.bool false) := by rw [hW6, World.cell?_setCell_other w5 ⟨w.heap.size, 1, none⟩ ⟨w.heap.size + 1, 0, none⟩ _ (by intro e; simp at e)]; exact r0
  have k1 : W6.cell? ⟨w.heap.size + 1, 1, none⟩ = some (.slice none 0 0) := by rw [hW6, World.cell?_setCell_other w5 ⟨w.heap.size, 1, none⟩ ⟨w.heap.size + 1, 1, none⟩ _ (by intro e; simp at e)]; exact r1
  have k2 : W6.cell? ⟨w.heap.size + 1, 2, none⟩ = some (.slice none 0 0) := by rw [hW6, World.cell?_setCell_other w5 ⟨w.heap.size, 1, none⟩ ⟨w.heap.size + 1, 2, none⟩ _ (by intro e; simp at e)]; exact r2
  have k3 : W6.frozen? ⟨w.heap.size + 1, 0, none⟩ = false := by rw [hW6, World.frozen?_setCell]; exact r3
  have k4 : W6.frozen? ⟨w.heap.size + 1, 1, none⟩ = false := by rw [hW6, World.frozen?_setCell]; exact r4
  have k5 : W6.frozen? ⟨w.heap.size + 1, 2, none⟩ = false := by rw [hW6, World.frozen?_setCell]; exact r5
  have hl1 : w.heap.size + 2 ≤ W6.heap.size := by rw [hW6]; have h1 := HSZ.out; have h2 := HB5.out.size; simp; omega
  have HDV := h0d (divide_any _ _ D g W6 HD6.out HG6.out HG0.out hd6 hg6)
  have HW6 := h0d hW6
  have HK : Hid (∀ w', Below W6.heap.size W6 w' → w'.cell? ⟨w.heap.size, 0, none⟩ = some (.bool ng) ∧ w'.cell? ⟨w.heap.size, 1, none⟩ = some (.slice A5 n5 c5) ∧ w'.cell? ⟨w.heap.size + 1, 0, none⟩ = some (.bool false) ∧ w'.cell? ⟨w.heap.size + 1, 1, none⟩ = some (.slice none 0 0) ∧ w'.cell? ⟨w.heap.size + 1, 2, none⟩ = some (.slice none 0 0) ∧ w'.frozen? ⟨w.heap.size + 1, 0, none⟩ = false ∧ w'.frozen? ⟨w.heap.size + 1, 1, none⟩ = false ∧ w'.frozen? ⟨w.heap.size + 1, 2, none⟩ = false) := fun w' h =>
   ⟨(h.cell (p := ⟨w.heap.size, 0, none⟩) (by simp; omega)).trans h6, (h.cell (p := ⟨w.heap.size, 1, none⟩) (by simp; omega)).trans h7, (h.cell (p := ⟨w.heap.size + 1, 0, none⟩) (by simp; omega)).trans k0, (h.cell (p := ⟨w.heap.size + 1, 1, none⟩) (by simp; omega)).trans k1, (h.cell (p := ⟨w.heap.size + 1, 2, none⟩) (by simp; omega)).trans k2,
    (h.frozen (p := ⟨w.heap.size + 1, 0, none⟩) (by simp; omega)).trans k3, (h.frozen (p := ⟨w.heap.size + 1, 1, none⟩) (by simp; omega)).trans k4, (h.frozen (p := ⟨w.heap.size + 1, 2, none⟩) (by simp; omega)).trans k5⟩
  clear r0 r1 r2 r3 r4 r5 h6 h7 k0 k1 k2 k3 k4 k5 hW6
  go_wp2_with fail
  rw [← HW6.out]
  refine HDV.out.mono ?_
  rintro e w7 ⟨v7, u7, rfl, hr7, hs7, hb7⟩
  obtain ⟨A7, n7, c7, rfl⟩ := hr7.slice
  have HR7 := h0d hr7
  have HI7 := h0d (isOne_any _ (D / g) w7 hr7)
  obtain ⟨y0, y1, y2, y3, y4, y5, y6, y7⟩ := HK.out _ hb7
  have HBW7 : Hid (Below w.heap.size w w7) := HBW6.out.trans (hb7.mono HBW6.out.size)
  have HQ7 := h0d (HQ6.out.below hb7)
  rw [← M2.out] at HQ7
  rw [← M3.out] at HI7 HR7
  clear hr7 hs7 hb7 e0 e1 e2 e3
  by_cases hD1 : X.den = 1
  ·have hDb : decide (X.den = 1) = true := decide_eq_true hD1
   have HE1 := h0d hD1
   rw [hDb] at HI7
   clear hDb hD1
   go_wp2_with (go_at_call 226; refine HI7.out.mono ?_; rintro e w4 ⟨rfl, rfl⟩)
   exact bodyPost_ret (v := .agg #[.bool ng, .slice A5 n5 c5, .slice none 0 0]) (by simp [results, Tryz.results163, go_sem, y2, y3, y4]) rfl ⟨⟨_, rfl, _, _, by rw [M1.out], HQ7.out.set3 y2 y3 y4 _ _ _, by rw [HE1.out]; exact RdN.nil_ _⟩, ((HBW7.out.setCell (by simp) _).setCell (by simp) _).setCell (by simp) _⟩
  ·have hDb : decide (X.den = 1) = false := decide_eq_false hD1
   have HE1 := h0d hD1
   rw [hDb] at HI7
   clear hDb hD1
   go_wp2_with (go_at_call 226; refine HI7.out.mono ?_; rintro e w4 ⟨rfl, rfl⟩)
   exact bodyPost_ret (v := .agg #[.bool ng, .slice A5 n5 c5, .slice A7 n7 c7]) (by simp [results, Tryz.results163, go_sem, y2, y3, y4]) rfl ⟨⟨_, rfl, _, _, by rw [M1.out], HQ7.out.set3 y2 y3 y4 _ _ _, by unfold den1; rw [if_neg HE1.out]; exact HR7.out.set3 y2 y3 y4 _ _ _⟩, ((HBW7.out.setCell (by simp) _).setCell (by simp) _).setCell (by simp) _⟩
section
variable {P : Program} {ops : Array Oper} {Q : Exit → Act → World → Prop} {S : World → Prop}
def pull {α : Type} : Nat → List α → List α
 | 0, l => l
 | _ + 1, [] => []
 | n + 1, x :: l => match pull n l with
  | [] => [x]
  | y :: r => y :: x :: r
theorem pull_perm {α : Type} : ∀ (n : Nat) (l : List α), (pull n l).Perm l
 | 0, l => by simp [pull]
 | _ + 1, [] => by simp [pull]
 | n + 1, x :: l => by
  have h := pull_perm n l
  simp only [pull]
  split
  ·rename_i e; rw [e] at h; exact List.Perm.cons x h
  ·rename_i y r e; rw [e] at h; exact (List.Perm.swap x y r).trans (List.Perm.cons x h)
theorem seq_pull {l : List (Nat × Oper)} {a : Act} {w : World} (n : Nat) (h : Seq P ops Q S (pull n l) a w) : Seq P ops Q S l a w := seq_perm (pull_perm n l) h
end
def QS (k : Nat) (x : Rat) : Prop := dl x.num.natAbs ≤ k ∧ dl x.den ≤ k
theorem dl_two (z y : Int) : dl (z + y).natAbs ≤ max (dl z.natAbs) (dl y.natAbs) + 1 := Nat.le_trans (dl_mono (Int.natAbs_add_le z y)) (dl_add _ _)
theorem dl_imul (z : Int) (n : Nat) : dl (z * n).natAbs ≤ dl z.natAbs + dl n := by
 rw [Int.natAbs_mul, Int.natAbs_natCast]; exact dl_mul _ _
set_option maxRecDepth 100000 in
set_option maxHeartbeats 4000000 in
theorem add_any (v u : Value) (x y : Rat) (w : World) (hv : RdQ w v x) (hu : RdQ w u y) (hx6 : QS 100000 x) (hy6 : QS 100000 y) :
  Calls Tryz.prog 77 #[v, u] w fun e w' => (∃ v', e = .returned v' ∧ RdQ w' v' (x + y)) ∧ Below w.heap.size w w' := by
 obtain ⟨a, b, rfl, ha, hb⟩ := hv
 obtain ⟨c, d, rfl, hc, hd⟩ := hu
 obtain ⟨Aa, ka, ca, rfl⟩ := ha.slice
 obtain ⟨Ab, kb, cb, rfl⟩ := hb.slice
 obtain ⟨Ac, kc, cc, rfl⟩ := hc.slice
 obtain ⟨Ad, kd, cd, rfl⟩ := hd.slice
 obtain ⟨hx1, hx2⟩ := hx6
 obtain ⟨hy1, hy2⟩ := hy6
 have hxd := x.den_nz
 have hyd := y.den_nz
 have HADD : Hid (mkRat (x.num * y.den + y.num * x.den) (x.den * y.den) = x + y) := (Rat.add_def' x y).symm
 have HZX : Hid (∀ w', Below w.heap.size w w' → RdZ w' (.agg #[.bool (decide (x.num < 0)), .slice Aa ka ca]) x.num) := fun w' h => ⟨_, rfl, ha.below h⟩
 have HZY : Hid (∀ w', Below w.heap.size w w' → RdZ w' (.agg #[.bool (decide (y.num < 0)), .slice Ac kc cc]) y.num) := fun w' h => ⟨_, rfl, hc.below h⟩
 obtain ⟨ng, hng⟩ : ∃ b, b = decide (x.num < 0) := ⟨_, rfl⟩
 obtain ⟨nh, hnh⟩ : ∃ b, b = decide (y.num < 0) := ⟨_, rfl⟩
 rw [← hng] at HZX ⊢
 rw [← hnh] at HZY ⊢
 have HU1 := h0d (fun w' (h : Below w.heap.size w w') => under_any _ x.den w' hxd (hb.below h))
 have HU2 := h0d (fun w' (h : Below w.heap.size w w') => under_any _ y.den w' hyd (hd.below h))
 have hp1 := dl_imul x.num y.den
 have hp2 := dl_imul y.num x.den
 have hp3 := dl_two (x.num * y.den) (y.num * x.den)
 have hp4 := dl_mul x.den y.den
 have HP : Hid (dl (x.num * y.den).natAbs ≤ 900000 ∧ dl (y.num * x.den).natAbs ≤ 900000 ∧ dl (x.num * y.den + y.num * x.den).natAbs ≤ 900000 ∧ dl (x.den * y.den) ≤ 900000) := ⟨by omega, by omega, by omega, by omega⟩
 have HDE : Hid (x.den * y.den ≠ 0) := Nat.mul_ne_zero hxd hyd
 clear ha hb hc hd hng hnh hp1 hp2 hp3 hp4 hxd hyd
 obtain ⟨W2, hW2⟩ : ∃ W2, W2 = (((w.alloc (Obj.cells #[Value.bool ng, Value.slice Aa ka ca, Value.slice Ab kb cb] 32)).alloc (Obj.cells #[Value.bool nh, Value.slice Ac kc cc, Value.slice Ad kd cd] 32)).alloc (Obj.cells #[Value.bool false, Value.slice none 0 0, Value.slice none 0 0] 32)) := ⟨_, rfl⟩
 have hb2w : Below w.heap.size w W2 := by rw [hW2]; exact (((Below.refl _ w).alloc (by simp <;> omega) _).alloc (by simp <;> omega) _).alloc (by simp <;> omega) _
 have hsz2 : w.heap.size + 3 ≤ W2.heap.size := by rw [hW2]; simp
 have HARG0 : Hid (∀ w', Below W2.heap.size W2 w' → _) := fun w' h => resL (cs := #[Value.bool ng, Value.slice Aa ka ca, Value.slice Ab kb cb]) (b := w.heap.size) (t := 32) (by rw [hW2, Below.heap_alloc _ _ _ (by simp <;> omega), Below.heap_alloc _ _ _ (by simp <;> omega)]; have hx := heap_alloc_new w (.cells #[Value.bool ng, Value.slice Aa ka ca, Value.slice Ab kb cb] 32); simpa using hx) h
 have HARG1 : Hid (∀ w', Below W2.heap.size W2 w' → _) := fun w' h => resL (cs := #[Value.bool nh, Value.slice Ac kc cc, Value.slice Ad kd cd]) (b := w.heap.size + 1) (t := 32) (by rw [hW2, Below.heap_alloc _ _ _ (by simp <;> omega)]; have hx := heap_alloc_new (w.alloc (Obj.cells #[Value.bool ng, Value.slice Aa ka ca, Value.slice Ab kb cb] 32)) (.cells #[Value.bool nh, Value.slice Ac kc cc, Value.slice Ad kd cd] 32); simpa using hx) h
 have HRES0 : Hid (∀ w', Below W2.heap.size W2 w' → _) := fun w' h => resL (cs := #[Value.bool false, Value.slice none 0 0, Value.slice none 0 0]) (b := w.heap.size + 2) (t := 32) (by rw [hW2]; have hx := heap_alloc_new ((w.alloc (Obj.cells #[Value.bool ng, Value.slice Aa ka ca, Value.slice Ab kb cb] 32)).alloc (Obj.cells #[Value.bool nh, Value.slice Ac kc cc, Value.slice Ad kd cd] 32)) (.cells #[Value.bool false, Value.slice none 0 0, Value.slice none 0 0] 32); simpa using hx) h
 have HB2W := h0d hb2w
 have HSZ2 := h0d hsz2
 have HW2 := h0d hW2
 have HBs : Hid (Below W2.heap.size W2 W2) := Below.refl _ _
 clear hW2 hb2w hsz2
 go_enter Tryz.func77, Tryz.ntmps77
 go_wp2_with fail
 rw [← HW2.out]
 have HBD1 : Hid (Below W2.heap.size W2 W2.drew) := HBs.out.drew
 have dd0 := HARG0.out _ HBD1.out
 have dd1 := HARG1.out _ HBD1.out
 refine seq_start (S := fun w' => w'.cell? ⟨w.heap.size, 0, none⟩ = some (Value.bool ng) ∧ w'.cell? ⟨w.heap.size, 1, none⟩ = some (Value.slice Aa ka ca) ∧ w'.cell? ⟨w.heap.size, 2, none⟩ = some (Value.slice Ab kb cb) ∧ w'.cell? ⟨w.heap.size + 1, 0, none⟩ = some (Value.bool nh) ∧ w'.cell? ⟨w.heap.size + 1, 1, none⟩ = some (Value.slice Ac kc cc) ∧ w'.cell? ⟨w.heap.size + 1, 2, none⟩ = some (Value.slice Ad kd cd)) (by kernel_rfl) (by kernel_rfl) (by exact ⟨(dd0 0).1, (dd0 1).1, (dd0 2).1, (dd1 0).1, (dd1 1).1, (dd1 2).1⟩) ?_
 clear dd0 dd1
 repeat (first | refine tk0 (h := ?_) | refine tkG (h := ?_) | refine skG (h := ?_))
 refine seq_pull 1 ?_
 simp only [places, pull]
 (first
  | refine tk0 (h := ?_)
  | refine tkG (h := ?_)
  | refine skG (h := ?_))
 refine seq_pull 1 ?_
 simp only [places, pull]
 (first
  | refine tk0 (h := ?_)
  | refine tkG (h := ?_)
  | refine skG (h := ?_))
 refine seq_op (by kernel_rfl) (by rfl) (fun K hK => ?_)
 go_simp
 refine (HU1.out _ (HB2W.out.trans (HBD1.out.mono HB2W.out.size))).mono ?_
 rintro e w3 ⟨⟨v3, rfl, hr3⟩, hbx⟩
 obtain ⟨A3, n3, c3, rfl⟩ := hr3.slice
 have HR3 := h0d hr3
 have HB_w3 : Hid (Below W2.heap.size W2 w3) := HBD1.out.trans (hbx.mono HBD1.out.size)
 have dd0 := HARG0.out _ HB_w3.out
 have dd1 := HARG1.out _ HB_w3.out
 refine hK.out _ _ (by exact ⟨(dd0 0).1, (dd0 1).1, (dd0 2).1, (dd1 0).1, (dd1 1).1, (dd1 2).1⟩) ?_
 clear hK K dd0 dd1 hbx hr3
 repeat (first | refine tk0 (h := ?_) | refine tkG (h := ?_) | refine skG (h := ?_))
 refine seq_op (by kernel_rfl) (by rfl) (fun K hK => ?_)
 go_simp
 refine (HU2.out _ (HB2W.out.trans (HB_w3.out.mono HB2W.out.size))).mono ?_
 rintro e w4 ⟨⟨v4, rfl, hr4⟩, hbx⟩
 obtain ⟨A4, n4, c4, rfl⟩ := hr4.slice
 have HR4 := h0d hr4
 have HR34 := h0d (HR3.out.below hbx)
 have HB_w4 : Hid (Below W2.heap.size W2 w4) := HB_w3.out.trans (hbx.mono HB_w3.out.size)
 have dd0 := HARG0.out _ HB_w4.out
 have dd1 := HARG1.out _ HB_w4.out
 refine hK.out _ _ (by exact ⟨(dd0 0).1, (dd0 1).1, (dd0 2).1, (dd1 0).1, (dd1 1).1, (dd1 2).1⟩) ?_
 clear hK K dd0 dd1 hbx hr4
 repeat (first | refine tk0 (h := ?_) | refine tkG (h := ?_) | refine skG (h := ?_))
 refine seq_done (by kernel_rfl) ?_
 go_wp2_with fail
 have HBD2 : Hid (Below W2.heap.size W2 w4.drew) := HB_w4.out.drew
 have dd0 := HARG0.out _ HBD2.out
 have dd1 := HARG1.out _ HBD2.out
 refine seq_start (S := fun w' => w'.cell? ⟨w.heap.size, 0, none⟩ = some (Value.bool ng) ∧ w'.cell? ⟨w.heap.size, 1, none⟩ = some (Value.slice Aa ka ca) ∧ w'.cell? ⟨w.heap.size, 2, none⟩ = some (Value.slice Ab kb cb) ∧ w'.cell? ⟨w.heap.size + 1, 0, none⟩ = some (Value.bool nh) ∧ w'.cell? ⟨w.heap.size + 1, 1, none⟩ = some (Value.slice Ac kc cc) ∧ w'.cell? ⟨w.heap.size + 1, 2, none⟩ = some (Value.slice Ad kd cd)) (by kernel_rfl) (by kernel_rfl) (by exact ⟨(dd0 0).1, (dd0 1).1, (dd0 2).1, (dd1 0).1, (dd1 1).1, (dd1 2).1⟩) ?_
 clear dd0 dd1
 repeat (first | refine tk0 (h := ?_) | refine tkG (h := ?_) | refine skG (h := ?_))
 refine seq_pull 1 ?_
 simp only [places, pull]
 (first
  | refine tk0 (h := ?_)
  | refine tkG (h := ?_)
  | refine skG (h := ?_))
 refine seq_pull 1 ?_
 simp only [places, pull]
 (first
  | refine tk0 (h := ?_)
  | refine tkG (h := ?_)
  | refine skG (h := ?_))
 refine seq_pull 1 ?_
 simp only [places, pull]
 (first
  | refine tk0 (h := ?_)
  | refine tkG (h := ?_)
  | refine skG (h := ?_))
 refine seq_pull 3 ?_
 simp only [places, pull]
 (first
  | refine tk0 (h := ?_)
  | refine tkG (h := ?_)
  | refine skG (h := ?_))
 refine seq_pull 3 ?_
 simp only [places, pull]
 (first
  | refine tk0 (h := ?_)
  | refine tkG (h := ?_)
  | refine skG (h := ?_))
 refine seq_op (by kernel_rfl) (by rfl) (fun K hK => ?_)
 go_simp
 refine (scaled_any _ _ x.num y.den _ (HZX.out _ (HB2W.out.trans (HBD2.out.mono HB2W.out.size))) (HR4.out.below (by exact (Below.refl _ w4).drew)) (by omega) (by omega)).mono ?_
 rintro e w5 ⟨⟨v5, rfl, hz5⟩, hbx⟩
 obtain ⟨a5, rfl, hr5⟩ := hz5
 obtain ⟨A5, n5, c5, rfl⟩ := hr5.slice
 have HZ5 := h0d (show RdZ w5 _ (x.num * y.den) from ⟨_, rfl, hr5⟩)
 have HB45 : Hid (Below w4.heap.size w4 w5) := ((Below.refl _ w4).drew).trans hbx
 have HB_w5 : Hid (Below W2.heap.size W2 w5) := HBD2.out.trans (hbx.mono HBD2.out.size)
 have dd0 := HARG0.out _ HB_w5.out
 have dd1 := HARG1.out _ HB_w5.out
 refine hK.out _ _ (by exact ⟨(dd0 0).1, (dd0 1).1, (dd0 2).1, (dd1 0).1, (dd1 1).1, (dd1 2).1⟩) ?_
 clear hK K dd0 dd1 hbx hr5
 repeat (first | refine tk0 (h := ?_) | refine tkG (h := ?_) | refine skG (h := ?_))
 refine seq_op (by kernel_rfl) (by rfl) (fun K hK => ?_)
 go_simp
 refine (scaled_any _ _ y.num x.den _ (HZY.out _ (HB2W.out.trans (HB_w5.out.mono HB2W.out.size))) (HR34.out.below HB45.out) (by omega) (by omega)).mono ?_
 rintro e w6 ⟨⟨v6, rfl, hz6⟩, hbx⟩
 obtain ⟨a6, rfl, hr6⟩ := hz6
 obtain ⟨A6, n6, c6, rfl⟩ := hr6.slice
 have HZ6 := h0d (show RdZ w6 _ (y.num * x.den) from ⟨_, rfl, hr6⟩)
 have HZ56 := h0d (HZ5.out.below hbx)
 have HB46 : Hid (Below w4.heap.size w4 w6) := HB45.out.trans (hbx.mono HB45.out.size)
 have HB_w6 : Hid (Below W2.heap.size W2 w6) := HB_w5.out.trans (hbx.mono HB_w5.out.size)
 have dd0 := HARG0.out _ HB_w6.out
 have dd1 := HARG1.out _ HB_w6.out
 refine hK.out _ _ (by exact ⟨(dd0 0).1, (dd0 1).1, (dd0 2).1, (dd1 0).1, (dd1 1).1, (dd1 2).1⟩) ?_
 clear hK K dd0 dd1 hbx hr6
 repeat (first | refine tk0 (h := ?_) | refine tkG (h := ?_) | refine skG (h := ?_))
 refine seq_op (by kernel_rfl) (by rfl) (fun K hK => ?_)
 go_simp
 refine (iplus_any _ _ _ _ _ HZ56.out HZ6.out HP.out.1 HP.out.2.1).mono ?_
 rintro e w7 ⟨⟨v7, rfl, hz7⟩, hbx⟩
 obtain ⟨a7, rfl, hr7⟩ := hz7
 obtain ⟨A7, n7, c7, rfl⟩ := hr7.slice
 have HZ7 := h0d (show RdZ w7 _ (x.num * y.den + y.num * x.den) from ⟨_, rfl, hr7⟩)
 have HB47 : Hid (Below w4.heap.size w4 w7) := HB46.out.trans (hbx.mono HB46.out.size)
 have HB_w7 : Hid (Below W2.heap.size W2 w7) := HB_w6.out.trans (hbx.mono HB_w6.out.size)
 have dd0 := HARG0.out _ HB_w7.out
 have dd1 := HARG1.out _ HB_w7.out
 refine hK.out _ _ (by exact ⟨(dd0 0).1, (dd0 1).1, (dd0 2).1, (dd1 0).1, (dd1 1).1, (dd1 2).1⟩) ?_
 clear hK K dd0 dd1 hbx hr7
 repeat (first | refine tk0 (h := ?_) | refine tkG (h := ?_) | refine skG (h := ?_))
 refine seq_op (by kernel_rfl) (by rfl) (fun K hK => ?_)
 go_simp
 refine (times_any _ _ x.den y.den _ (HR34.out.below HB47.out) (HR4.out.below HB47.out) (by omega) (by omega)).mono ?_
 rintro e w8 ⟨⟨v8, rfl, hr8⟩, hbx⟩
 obtain ⟨A8, n8, c8, rfl⟩ := hr8.slice
 have HR8 := h0d hr8
 have HZ78 := h0d (HZ7.out.below hbx)
 have HB_w8 : Hid (Below W2.heap.size W2 w8) := HB_w7.out.trans (hbx.mono HB_w7.out.size)
 have dd0 := HARG0.out _ HB_w8.out
 have dd1 := HARG1.out _ HB_w8.out
 refine hK.out _ _ (by exact ⟨(dd0 0).1, (dd0 1).1, (dd0 2).1, (dd1 0).1, (dd1 1).1, (dd1 2).1⟩) ?_
 clear hK K dd0 dd1 hbx hr8
 repeat (first | refine tk0 (h := ?_) | refine tkG (h := ?_) | refine skG (h := ?_))
 refine seq_op (by kernel_rfl) (by rfl) (fun K hK => ?_)
 go_simp
 refine (over_any _ _ _ _ _ HZ78.out HR8.out HDE.out HP.out.2.2.1 HP.out.2.2.2).mono ?_
 rintro e w9 ⟨⟨v9, rfl, hz9⟩, hbx⟩
 rw [HADD.out] at hz9
 obtain ⟨a9, b9, rfl, hr9, hs9⟩ := hz9
 obtain ⟨A9, n9, c9, rfl⟩ := hr9.slice
 obtain ⟨B9, m9, k9, rfl⟩ := hs9.slice
 have HR9 := h0d hr9
 have HS9 := h0d hs9
 have HB_w9 : Hid (Below W2.heap.size W2 w9) := HB_w8.out.trans (hbx.mono HB_w8.out.size)
 have dd0 := HARG0.out _ HB_w9.out
 have dd1 := HARG1.out _ HB_w9.out
 refine hK.out _ _ (by exact ⟨(dd0 0).1, (dd0 1).1, (dd0 2).1, (dd1 0).1, (dd1 1).1, (dd1 2).1⟩) ?_
 clear hK K dd0 dd1 hbx hr9 hs9
 repeat (first | refine tk0 (h := ?_) | refine tkG (h := ?_) | refine skG (h := ?_))
 refine seq_op (by kernel_rfl) (by rfl) (fun K hK => ?_)
 have qq := HRES0.out _ HB_w9.out
 have q0 := (qq 0).1
 have q1 := (qq 1).1
 have q2 := (qq 2).1
 have qf0 := (qq 0).2
 have qf1 := (qq 1).2
 have qf2 := (qq 2).2
 simp only [List.getElem?_toArray, List.getElem?_cons_zero, List.getElem?_cons_succ] at q0 q1 q2
 clear qq
 go_simp
 have dd0 := HARG0.out _ HB_w9.out
 have dd1 := HARG1.out _ HB_w9.out
 refine hK.out _ _ (by go_simp; (first | done | exact ⟨(dd0 0).1, (dd0 1).1, (dd0 2).1, (dd1 0).1, (dd1 1).1, (dd1 2).1⟩)) ?_
 clear hK K dd0 dd1
 repeat (first | refine tk0 (h := ?_) | refine tkG (h := ?_) | refine skG (h := ?_))
 refine seq_done (by kernel_rfl) ?_
 go_wp2_with fail
 have hbw := HB2W.out.trans (HB_w9.out.mono HB2W.out.size)
 exact bodyPost_ret (v := .agg #[.bool (decide ((x + y).num < 0)), .slice A9 n9 c9, .slice B9 m9 k9]) (by simp [results, Tryz.results77, go_sem, q0, q1, q2]) rfl ⟨⟨_, rfl, _, _, rfl, HR9.out.set3 q0 q1 q2 _ _ _, HS9.out.set3 q0 q1 q2 _ _ _⟩, ((hbw.setCell (by simp <;> omega) _).setCell (by simp <;> omega) _).setCell (by simp <;> omega) _⟩
end Go.Proofs.YtodckaioeomccaaGreat
namespace Go.Proofs.YtodckaioeomccaaGreat
open Go.RowKit
set_option linter.unusedVariables false
set_option linter.unusedSimpArgs false
set_option maxRecDepth 100000 in
set_option maxHeartbeats 1000000 in
theorem int_any (n : Int) (w : World) (h1 : -9223372036854775808 ≤ n) (h2 : n ≤ 9223372036854775807) : Calls Tryz.prog 48 #[.int .i64 n] w fun e w' => (∃ v', e = .returned v' ∧ RdQ w' v' (n : Rat)) ∧ Below w.heap.size w w' := by
 have HO := h0d (fun w' => of_any n w' h1 h2)
 have HRS : Hid (∀ w', Below (w.alloc (.cells #[.bool false, .slice none 0 0, .slice none 0 0] 32)).heap.size (w.alloc (.cells #[.bool false, .slice none 0 0, .slice none 0 0] 32)) w' → _) := fun w' h => res3 (heap_alloc_new w _) h
 have HN : Hid ((n : Rat).num = n ∧ (n : Rat).den = 1) := ⟨rfl, rfl⟩
 go_enter Tryz.func48, Tryz.ntmps48
 go_wp2_with (go_at_call 136; refine (HO.out _).mono ?_; rintro e w3 ⟨⟨v3, rfl, hz3⟩, hb3⟩; obtain ⟨a3, rfl, hr3⟩ := hz3; obtain ⟨A3, n3, c3, rfl⟩ := hr3.slice; have HR3 := h0d hr3; have HB3 := h0d hb3; obtain ⟨q0, q1, q2, q3, q4, q5⟩ := HRS.out _ hb3; clear hr3 hb3)
 have hbw : Below w.heap.size w w3 := ((Below.refl _ w).alloc (Nat.le_refl _) _).trans (HB3.out.mono (by simp))
 exact bodyPost_ret (v := .agg #[.bool (decide (n < 0)), .slice A3 n3 c3, .slice none 0 0]) (by simp [results, Tryz.results48, go_sem, q0, q1, q2]) rfl ⟨⟨_, rfl, _, _, by rw [HN.out.1], by rw [HN.out.1]; exact HR3.out.set3 q0 q1 q2 _ _ _, by rw [HN.out.2]; exact RdN.nil_ _⟩, ((hbw.setCell (Nat.le_refl _) _).setCell (Nat.le_refl _) _).setCell (Nat.le_refl _) _⟩
def ratio (n d : Int) : Rat := mkRat (if d < 0 then -n else n) d.natAbs
theorem ratio_signed (n d : Int) (hd : d ≠ 0) : mkRat (signed (decide (n < 0) != decide (d < 0)) n.natAbs) d.natAbs = ratio n d := by
 unfold ratio
 congr 1
 unfold signed
 by_cases h1 : n < 0 <;> by_cases h2 : d < 0 <;> simp [h1, h2] <;> omega
set_option maxRecDepth 100000 in
set_option maxHeartbeats 4000000 in
theorem new_any (n d : Int) (w : World) (h1 : -9223372036854775808 ≤ n) (h2 : n ≤ 9223372036854775807) (h3 : -9223372036854775808 ≤ d) (h4 : d ≤ 9223372036854775807) (hd : d ≠ 0) :
  Calls Tryz.prog 121 #[.int .i64 n, .int .i64 d] w fun e w' => (∃ v', e = .returned (.tuple #[v', .int .i64 0]) ∧ RdQ w' v' (ratio n d)) ∧ Below w.heap.size w w' := by
 have hdb : (d == 0) = false := by simp [hd]
 have HO1 := h0d (fun w' => of_any n w' h1 h2)
 have HO2 := h0d (fun w' => of_any d w' h3 h4)
 have HRQ := h0d (ratio_signed n d hd)
 have HD0 : Hid (d.natAbs ≠ 0) := by show _ ≠ _; omega
 have HN6 : Hid (dl n.natAbs ≤ 900000 ∧ dl d.natAbs ≤ 900000) := ⟨Nat.le_trans (dl_small (by unfold B64; omega)) (by omega), Nat.le_trans (dl_small (by unfold B64; omega)) (by omega)⟩
 have HSA := h0d signed_abs
 obtain ⟨ng, hng⟩ : ∃ b, b = decide (n < 0) := ⟨_, rfl⟩
 obtain ⟨nh, hnh⟩ : ∃ b, b = decide (d < 0) := ⟨_, rfl⟩
 rw [← hng, ← hnh] at HRQ
 obtain ⟨nx, hnx⟩ : ∃ b, b = (ng != nh) := ⟨_, rfl⟩
 rw [← hnx] at HRQ
 have HNG := h0d hng
 have HNH := h0d hnh
 have hnx' : (!(ng == nh)) = nx := hnx.symm
 have HW0 : Hid (Below w.heap.size w (w.alloc (.cells #[.bool false, .slice none 0 0, .slice none 0 0] 32))) := (Below.refl _ w).alloc (Nat.le_refl _) _
 have HRS : Hid (∀ w', Below (w.alloc (.cells #[.bool false, .slice none 0 0, .slice none 0 0] 32)).heap.size (w.alloc (.cells #[.bool false, .slice none 0 0, .slice none 0 0] 32)) w' → _) := fun w' h => res3 (heap_alloc_new w _) h
 clear hng hnh hnx hd
 go_enter Tryz.func121, Tryz.ntmps121
 go_wp2_with fail
 refine (HO1.out _).mono ?_
 rintro e w3 ⟨⟨v3, rfl, hz3⟩, hb3⟩
 obtain ⟨a3, rfl, hr3⟩ := hz3
 obtain ⟨A3, n3, c3, rfl⟩ := hr3.slice
 rw [← HNG.out]
 have HR3 := h0d hr3
 have HB3 := h0d hb3
 clear hr3 hb3
 go_wp2_with fail
 refine (HO2.out _).mono ?_
 rintro e w4 ⟨⟨v4, rfl, hz4⟩, hb4⟩
 obtain ⟨a4, rfl, hr4⟩ := hz4
 obtain ⟨A4, n4, c4, rfl⟩ := hr4.slice
 rw [← HNH.out]
 have HR4 := h0d hr4
 have HR34 := h0d (HR3.out.below hb4)
 have HB4 : Hid (Below (w.alloc (.cells #[.bool false, .slice none 0 0, .slice none 0 0] 32)).heap.size (w.alloc (.cells #[.bool false, .slice none 0 0, .slice none 0 0] 32)) w4) := HB3.out.trans (hb4.mono HB3.out.size)
 clear hr4 hb4
 go_wp2_with fail
 obtain ⟨W2, hW2⟩ : ∃ W2, W2 = ((w4.alloc (Obj.cells #[Value.bool ng, Value.slice A3 n3 c3] 27)).alloc (Obj.cells #[Value.bool nh, Value.slice A4 n4 c4] 27)) := ⟨_, rfl⟩
 have hb2w : Below w4.heap.size w4 W2 := by rw [hW2]; exact ((Below.refl _ w4).alloc (by simp <;> omega) _).alloc (by simp <;> omega) _
 have hsz2 : w4.heap.size + 2 ≤ W2.heap.size := by rw [hW2]; simp
 have HARG0 : Hid (∀ w', Below W2.heap.size W2 w' → _) := fun w' h => resL (cs := #[Value.bool ng, Value.slice A3 n3 c3]) (b := w4.heap.size) (t := 27) (by rw [hW2, Below.heap_alloc _ _ _ (by simp <;> omega)]; have hx := heap_alloc_new w4 (.cells #[Value.bool ng, Value.slice A3 n3 c3] 27); simpa using hx) h
 have HARG1 : Hid (∀ w', Below W2.heap.size W2 w' → _) := fun w' h => resL (cs := #[Value.bool nh, Value.slice A4 n4 c4]) (b := w4.heap.size + 1) (t := 27) (by rw [hW2]; have hx := heap_alloc_new (w4.alloc (Obj.cells #[Value.bool ng, Value.slice A3 n3 c3] 27)) (.cells #[Value.bool nh, Value.slice A4 n4 c4] 27); simpa using hx) h
 have HB2W := h0d hb2w
 have HSZ2 := h0d hsz2
 have HW2 := h0d hW2
 have HBs : Hid (Below W2.heap.size W2 W2) := Below.refl _ _
 clear hW2 hb2w hsz2
 rw [← HW2.out]
 have HRES0 : Hid (∀ w', Below W2.heap.size W2 w' → _) := fun w' h => resL (cs := #[.bool false, .slice none 0 0, .slice none 0 0]) (b := w.heap.size) (t := 32) ((HB2W.out.block _ (by have := HB4.out.size; simp at this; omega)).trans ((HB4.out.block _ (by simp)).trans (heap_alloc_new w _))) h
 have HBW2 : Hid (Below w.heap.size w W2) := HW0.out.trans ((HB4.out.trans (HB2W.out.mono HB4.out.size)).mono HW0.out.size)
 have HBD1 : Hid (Below W2.heap.size W2 W2.drew) := HBs.out.drew
 have dd0 := HARG0.out _ HBD1.out
 have dd1 := HARG1.out _ HBD1.out
 refine seq_start (S := fun w' => w'.cell? ⟨w4.heap.size, 0, none⟩ = some (Value.bool ng) ∧ w'.cell? ⟨w4.heap.size, 1, none⟩ = some (Value.slice A3 n3 c3) ∧ w'.cell? ⟨w4.heap.size + 1, 0, none⟩ = some (Value.bool nh) ∧ w'.cell? ⟨w4.heap.size + 1, 1, none⟩ = some (Value.slice A4 n4 c4)) (by kernel_rfl) (by kernel_rfl) (by exact ⟨(dd0 0).1, (dd0 1).1, (dd1 0).1, (dd1 1).1⟩) ?_
 clear dd0 dd1
 repeat (first | refine tk0 (h := ?_) | refine tkG (h := ?_) | refine skG (h := ?_))
 refine seq_pull 1 ?_
 simp only [places, pull]
 (first
  | refine tk0 (h := ?_)
  | refine tkG (h := ?_)
  | refine skG (h := ?_))
 refine seq_pull 1 ?_
 simp only [places, pull]
 (first
  | refine tk0 (h := ?_)
  | refine tkG (h := ?_)
  | refine skG (h := ?_))
 refine seq_op (by kernel_rfl) (by rfl) (fun K hK => ?_)
 go_simp
 refine (whole_any _ _ _ _ (HR34.out.below (HB2W.out.trans (HBD1.out.mono HB2W.out.size)))).mono ?_
 rintro e w5 ⟨⟨v5, rfl, hz5⟩, hbx⟩
 have HZ5 := h0d hz5
 obtain ⟨a5, rfl, hr5⟩ := hz5
 obtain ⟨A5, n5, c5, rfl⟩ := hr5.slice
 have HB_w5 : Hid (Below W2.heap.size W2 w5) := HBD1.out.trans (hbx.mono HBD1.out.size)
 have dd0 := HARG0.out _ HB_w5.out
 have dd1 := HARG1.out _ HB_w5.out
 refine hK.out _ _ (by exact ⟨(dd0 0).1, (dd0 1).1, (dd1 0).1, (dd1 1).1⟩) ?_
 clear hK K dd0 dd1 hbx hr5
 repeat (first | refine tk0 (h := ?_) | refine tkG (h := ?_) | refine skG (h := ?_))
 refine seq_op (by kernel_rfl) (by rfl) (fun K hK => ?_)
 go_simp
 refine (over_any _ _ _ d.natAbs _ HZ5.out (HR4.out.below (HB2W.out.trans (HB_w5.out.mono HB2W.out.size))) HD0.out (by rw [HSA.out]; exact HN6.out.1) HN6.out.2).mono ?_
 rintro e w9 ⟨⟨v9, rfl, hz9⟩, hbx⟩
 rw [HRQ.out] at hz9
 obtain ⟨a9, b9, rfl, hr9, hs9⟩ := hz9
 obtain ⟨A9, n9, c9, rfl⟩ := hr9.slice
 obtain ⟨B9, m9, k9, rfl⟩ := hs9.slice
 have HR9 := h0d hr9
 have HS9 := h0d hs9
 have HB_w9 : Hid (Below W2.heap.size W2 w9) := HB_w5.out.trans (hbx.mono HB_w5.out.size)
 have dd0 := HARG0.out _ HB_w9.out
 have dd1 := HARG1.out _ HB_w9.out
 refine hK.out _ _ (by exact ⟨(dd0 0).1, (dd0 1).1, (dd1 0).1, (dd1 1).1⟩) ?_
 clear hK K dd0 dd1 hbx hr9 hs9
 repeat (first | refine tk0 (h := ?_) | refine tkG (h := ?_) | refine skG (h := ?_))
 have hl4 : w.heap.size < w4.heap.size := by have := HB4.out.size; simp at this; omega
 have hn1 : w.heap.size ≠ w4.heap.size := by omega
 have hn2 : w4.heap.size ≠ w.heap.size := by omega
 have hn3 : w.heap.size ≠ w4.heap.size + 1 := by omega
 have hn4 : w4.heap.size + 1 ≠ w.heap.size := by omega
 refine seq_op (by kernel_rfl) (by rfl) (fun K hK => ?_)
 have qq := HRES0.out _ HB_w9.out
 have q0 := (qq 0).1
 have q1 := (qq 1).1
 have q2 := (qq 2).1
 have qf0 := (qq 0).2
 have qf1 := (qq 1).2
 have qf2 := (qq 2).2
 simp only [List.getElem?_toArray, List.getElem?_cons_zero, List.getElem?_cons_succ] at q0 q1 q2
 clear qq
 go_simp
 have dd0 := HARG0.out _ HB_w9.out
 have dd1 := HARG1.out _ HB_w9.out
 refine hK.out _ _ (by go_simp; (first | done | exact ⟨(dd0 0).1, (dd0 1).1, (dd1 0).1, (dd1 1).1⟩)) ?_
 clear hK K dd0 dd1
 repeat (first | refine tk0 (h := ?_) | refine tkG (h := ?_) | refine skG (h := ?_))
 refine seq_done (by kernel_rfl) ?_
 go_wp2_with fail
 have hbw := HBW2.out.trans (HB_w9.out.mono HBW2.out.size)
 exact bodyPost_ret (v := .tuple #[.agg #[.bool (decide ((ratio n d).num < 0)), .slice A9 n9 c9, .slice B9 m9 k9], .int .i64 0]) (by simp [results, Tryz.results121, go_sem, q0, q1, q2]) rfl ⟨⟨_, rfl, _, _, rfl, HR9.out.set3 q0 q1 q2 _ _ _, HS9.out.set3 q0 q1 q2 _ _ _⟩, ((hbw.setCell (by simp <;> omega) _).setCell (by simp <;> omega) _).setCell (by simp <;> omega) _⟩
def ofRatio (n d : Int) : Rat := if d = 0 then (n : Rat) else ratio n d
theorem lof_agg (n d : Int) (w : World) (h1 : -9223372036854775808 ≤ n) (h2 : n ≤ 9223372036854775807) (h3 : -9223372036854775808 ≤ d) (h4 : d ≤ 9223372036854775807) :
  Calls Tryz.prog 27 #[.agg #[.int .i64 n, .int .i64 d]] w fun e w' => (∃ v', e = .returned v' ∧ RdQ w' v' (ofRatio n d)) ∧ Below w.heap.size w w' := by
 obtain ⟨W2, hW2⟩ : ∃ W2, W2 = (w.alloc (Obj.cells #[Value.int .i64 n, .int .i64 d] 59)).alloc (Obj.cells #[Value.bool false, Value.slice none 0 0, Value.slice none 0 0] 32) := ⟨_, rfl⟩
 have HB2 : Hid (Below w.heap.size w W2) := by rw [hW2]; exact ((Below.refl _ _).alloc (Nat.le_refl _) _).alloc (by simp) _
 have HRS : Hid (∀ w', Below W2.heap.size W2 w' → _) := fun w' h => res3 (c0 := .bool false) (c1 := .slice none 0 0) (c2 := .slice none 0 0) (b := w.heap.size + 1) (t := 32) (by rw [hW2]; have := heap_alloc_new (w.alloc (Obj.cells #[Value.int .i64 n, .int .i64 d] 59)) (.cells #[Value.bool false, Value.slice none 0 0, Value.slice none 0 0] 32); simpa using this) h
 have HW2 := h0d hW2
 have HO1 := h0d (fun w' => int_any n w' h1 h2)
 clear hW2
 by_cases hd : d = 0
 ·have hdb : (d == 0) = true := by simp [hd]
  have HE : Hid (ofRatio n d = (n : Rat)) := by show _ = _; unfold ofRatio; rw [if_pos hd]
  rw [HE.out]
  clear hd
  go_enter Tryz.func27, Tryz.ntmps27
  go_wp2_with fail
  rw [← HW2.out]
  refine (HO1.out _).mono ?_
  rintro e w3 ⟨⟨v3, rfl, hz3⟩, hb3⟩
  obtain ⟨a3, b3, rfl, hr3, hs3⟩ := hz3
  obtain ⟨A3, n3, c3, rfl⟩ := hr3.slice
  obtain ⟨B3, m3, k3, rfl⟩ := hs3.slice
  obtain ⟨q0, q1, q2, q3, q4, q5⟩ := HRS.out _ hb3
  have HR3 := h0d hr3
  have HS3 := h0d hs3
  have hbw : Below w.heap.size w w3 := HB2.out.trans (hb3.mono HB2.out.size)
  have HBW := h0d hbw
  clear hr3 hs3 hb3 hbw
  go_wp2_with fail
  exact bodyPost_ret (v := .agg #[.bool (decide ((n : Rat).num < 0)), .slice A3 n3 c3, .slice B3 m3 k3]) (by simp [results, Tryz.results27, go_sem, q0, q1, q2]) rfl ⟨⟨_, rfl, _, _, rfl, HR3.out.set3 q0 q1 q2 _ _ _, HS3.out.set3 q0 q1 q2 _ _ _⟩, ((HBW.out.setCell (by simp <;> omega) _).setCell (by simp <;> omega) _).setCell (by simp <;> omega) _⟩
 ·have hdb : (d == 0) = false := by simp [hd]
  have HE : Hid (ofRatio n d = ratio n d) := by show _ = _; unfold ofRatio; rw [if_neg hd]
  rw [HE.out]
  have HO2 := h0d (fun w' => new_any n d w' h1 h2 h3 h4 hd)
  clear hd
  go_enter Tryz.func27, Tryz.ntmps27
  go_wp2_with fail
  rw [← HW2.out]
  refine (HO2.out _).mono ?_
  rintro e w3 ⟨⟨v3, rfl, hz3⟩, hb3⟩
  obtain ⟨a3, b3, rfl, hr3, hs3⟩ := hz3
  obtain ⟨A3, n3, c3, rfl⟩ := hr3.slice
  obtain ⟨B3, m3, k3, rfl⟩ := hs3.slice
  obtain ⟨W4, hW4⟩ : ∃ W4, W4 = w3.alloc (Obj.cells #[Value.bool (decide ((ratio n d).num < 0)), .slice A3 n3 c3, .slice B3 m3 k3] 32) := ⟨_, rfl⟩
  have hb4 : Below W2.heap.size W2 W4 := by rw [hW4]; exact hb3.alloc hb3.size _
  obtain ⟨q0, q1, q2, q3, q4, q5⟩ := HRS.out _ hb4
  have HR3 : Hid (RdN W4 (.slice A3 n3 c3) (ratio n d).num.natAbs) := by rw [hW4]; exact hr3.below ((Below.refl _ _).alloc (Nat.le_refl _) _)
  have HS3 : Hid (RdN W4 (.slice B3 m3 k3) (den1 (ratio n d).den)) := by rw [hW4]; exact hs3.below ((Below.refl _ _).alloc (Nat.le_refl _) _)
  have HBW : Hid (Below w.heap.size w W4) := HB2.out.trans (hb4.mono HB2.out.size)
  rw [hW4] at q0 q1 q2 q3 q4 q5 HR3 HS3 HBW
  clear hr3 hs3 hb3 hb4 hW4
  go_wp2_with fail
  exact bodyPost_ret (v := .agg #[.bool (decide ((ratio n d).num < 0)), .slice A3 n3 c3, .slice B3 m3 k3]) (by simp [results, Tryz.results27, go_sem, q0, q1, q2]) rfl ⟨⟨_, rfl, _, _, rfl, HR3.out.set3 q0 q1 q2 _ _ _, HS3.out.set3 q0 q1 q2 _ _ _⟩, ((HBW.out.setCell (by simp <;> omega) _).setCell (by simp <;> omega) _).setCell (by simp <;> omega) _⟩
end Go.Proofs.YtodckaioeomccaaGreat
namespace Go.Proofs.YtodckaioeomccaaGreat
open Go.RowKit
set_option linter.unusedVariables false
set_option linter.unusedSimpArgs false
def notWB : Value → Bool
 | .int .i64 _ => true
 | .int _ _ => false
 | _ => true
def Wd (w w' : World) : Prop := ∀ (b i : Nat) (u : Value), notWB u = false → w.cell? ⟨b, i, none⟩ = some u → w'.cell? ⟨b, i, none⟩ = some u
theorem Wd.refl (w : World) : Wd w w := fun _ _ _ _ h => h
theorem Wd.trans {a b c : World} (h : Wd a b) (k : Wd b c) : Wd a c := fun x i u hu e => k x i u hu (h x i u hu e)
theorem cell_lt {w : World} {b i : Nat} {u : Value} (h : w.cell? ⟨b, i, none⟩ = some u) : b < w.heap.size := by
 rcases Nat.lt_or_ge b w.heap.size with h' | h'
 ·exact h'
 ·unfold World.cell? at h
  simp [Array.getElem?_eq_none h'] at h
theorem Wd.of_below {w w' : World} (h : Below w.heap.size w w') : Wd w w' := fun b i u _ e => (h.cell (p := ⟨b, i, none⟩) (cell_lt e)).trans e
theorem Rd.wd {α : Type} {f : α → Value} {w w' : World} {S : Nat → Prop} {v : Value} {xs : List α} (hf : ∀ x, notWB (f x) = false) (h : Rd f w S v xs) (hw : Wd w w') : Rd f w' S v xs := by
 obtain ⟨A, cap, rfl, h1, h2, h3⟩ := h
 refine ⟨A, cap, rfl, h1, h2, fun hn => ?_⟩
 obtain ⟨b, off, rfl, hb, hc⟩ := h3 hn
 exact ⟨b, off, rfl, hb, fun i hi => hw _ _ _ (hf _) (hc i hi)⟩
theorem RdN.wd {w w' : World} {v : Value} {n : Nat} (h : RdN w v n) (hw : Wd w w') : RdN w' v n := Rd.wd (fun _ => rfl) h hw
theorem RdZ.wd {w w' : World} {v : Value} {z : Int} (h : RdZ w v z) (hw : Wd w w') : RdZ w' v z := let ⟨a, h1, h2⟩ := h; ⟨a, h1, h2.wd hw⟩
theorem RdQ.wd {w w' : World} {v : Value} {x : Rat} (h : RdQ w v x) (hw : Wd w w') : RdQ w' v x := let ⟨a, b, h1, h2, h3⟩ := h; ⟨a, b, h1, h2.wd hw, h3.wd hw⟩
theorem blk_lt {w : World} {b : Nat} {o : Obj} (h : w.heap[b]? = some o) : b < w.heap.size := (Array.getElem?_eq_some_iff.1 h).1
theorem blk_below {w w' : World} {b : Nat} {o : Obj} (h : w.heap[b]? = some o) (hb : Below w.heap.size w w') : w'.heap[b]? = some o := (hb.block b (blk_lt h)).trans h
theorem blk_cell {w : World} {b t : Nat} {cs : Array Value} (h : w.heap[b]? = some (.cells cs t (0, 0))) (i : Nat) : w.cell? ⟨b, i, none⟩ = cs[i]? := cell_of_row w b i _ t (0, 0) h
theorem blk_free {w : World} {b t : Nat} {cs : Array Value} (h : w.heap[b]? = some (.cells cs t (0, 0))) (i : Nat) : w.frozen? ⟨b, i, none⟩ = false := frozen_of_row w b i _ t h
theorem blk_set {w : World} {b t i : Nat} {cs : Array Value} (u : Value) (h : w.heap[b]? = some (.cells cs t (0, 0))) : (w.setCell ⟨b, i, none⟩ u).heap[b]? = some (.cells (cs.setIfInBounds i u) t (0, 0)) := by
 have hlt := blk_lt h
 have h' : w.heap[b] = .cells cs t (0, 0) := by simpa [Array.getElem?_eq_getElem hlt] using h
 show (w.heap.modify b _)[b]? = _
 rw [Array.getElem?_eq_getElem (by simpa using hlt), Array.getElem_modify_self, h']
 rfl
theorem blk_other {w : World} {b b' i : Nat} {o : Obj} (u : Value) (h : w.heap[b]? = some o) (hne : b ≠ b') : (w.setCell ⟨b', i, none⟩ u).heap[b]? = some o := (Below.heap_setCell w ⟨b', i, none⟩ u b hne).trans h
def NoW (w : World) (b : Nat) : Prop := ∀ (i : Nat) (u : Value), w.cell? ⟨b, i, none⟩ = some u → notWB u = true
theorem NoW.of {w : World} {b t : Nat} {cs : Array Value} (h : w.heap[b]? = some (.cells cs t (0, 0))) (hc : cs.toList.all notWB = true) : NoW w b := fun i u e => by
 rw [blk_cell h i] at e
 exact List.all_eq_true.1 hc u (Array.mem_toList_iff.2 (Array.mem_of_getElem? e))
def Wset (b : Nat) (w w' : World) : Prop := Wd w w' ∧ NoW w' b
theorem Wset.start {w : World} {b : Nat} (h : NoW w b) : Wset b w w := ⟨.refl _, h⟩
theorem Wset.set {w w' : World} {b i : Nat} {u : Value} (h : Wset b w w') (hu : notWB u = true) : Wset b w (w'.setCell ⟨b, i, none⟩ u) := by
 refine ⟨h.1.trans fun b' i' x hx e => ?_, fun i' x e => ?_⟩
 ·by_cases hp : (⟨b', i', none⟩ : Addr) = ⟨b, i, none⟩
  ·simp only [Addr.mk.injEq] at hp
   obtain ⟨rfl, rfl, _⟩ := hp
   have := h.2 _ _ e
   rw [hx] at this; cases this
  ·rw [World.cell?_setCell_other w' ⟨b, i, none⟩ ⟨b', i', none⟩ u (fun e => hp e.symm)]; exact e
 ·by_cases hp : i' = i
  ·subst hp
   obtain ⟨y, hy⟩ : ∃ y, w'.cell? ⟨b, i', none⟩ = some y := by
    unfold World.cell? World.setCell at e
    unfold World.cell?
    simp only [Array.getElem?_modify, if_true] at e
    generalize w'.heap[b]? = q at e ⊢
    match q, e with
    | some (.cells c t m), e =>
     simp only [Option.map_some, Option.isSome_none, Bool.false_eq_true, if_false] at e ⊢
     rcases Nat.lt_or_ge i' c.size with h1 | h1
     ·exact ⟨_, Array.getElem?_eq_getElem h1⟩
     ·rw [Array.getElem?_eq_none (by simpa using h1)] at e; cases e
   rw [World.cell?_setCell_same _ _ _ hy] at e
   exact (Option.some.inj e) ▸ hu
  ·rw [World.cell?_setCell_other w' ⟨b, i, none⟩ ⟨b, i', none⟩ u (fun e => hp (by simp only [Addr.mk.injEq] at e; exact e.2.1.symm))] at e
   exact h.2 _ _ e
def setsW (w : World) (b o : Nat) : List Value → World
 | [] => w
 | v :: vs => setsW (w.setCell ⟨b, o, none⟩ v) b (o + 1) vs
theorem sets_wset {b : Nat} {w : World} : ∀ {vs : List Value} {o : Nat} {w' : World}, Wset b w w' → vs.all notWB = true → Wset b w (setsW w' b o vs)
 | [], _, _, h, _ => h
 | v :: vs, o, w', h, hv => by
  simp only [List.all_cons, Bool.and_eq_true] at hv
  exact sets_wset (vs := vs) (h.set hv.1) hv.2
theorem sets_wd {b o : Nat} {w : World} {vs : List Value} (h : NoW w b) (hv : vs.all notWB = true) : Wd w (setsW w b o vs) := (sets_wset (.start h) hv).1
theorem sets_other {b b' : Nat} {ob : Obj} : ∀ {vs : List Value} {o : Nat} {w : World}, w.heap[b]? = some ob → b ≠ b' → (setsW w b' o vs).heap[b]? = some ob
 | [], _, _, h, _ => h
 | v :: vs, o, w, h, hne => sets_other (vs := vs) (blk_other v h hne) hne
theorem sets_size {b : Nat} : ∀ {vs : List Value} {o : Nat} {w : World}, (setsW w b o vs).heap.size = w.heap.size
 | [], _, _ => rfl
 | v :: vs, o, w => (sets_size (vs := vs)).trans (by simp [World.setCell])
theorem sets_below {b B : Nat} {w : World} (hb : B ≤ b) : ∀ {vs : List Value} {o : Nat} {w' : World}, Below B w w' → Below B w (setsW w' b o vs)
 | [], _, _, h => h
 | v :: vs, o, w', h => sets_below hb (vs := vs) (h.setCell hb v)
theorem sets_blk {b t : Nat} : ∀ {vs p q r : List Value} {w : World}, w.heap[b]? = some (.cells (p ++ q ++ r).toArray t (0, 0)) → q.length = vs.length → (setsW w b p.length vs).heap[b]? = some (.cells (p ++ vs ++ r).toArray t (0, 0))
 | [], p, q, r, w, h, hl => by
  rw [List.length_eq_zero_iff.1 hl] at h
  exact h
 | v :: vs, p, q, r, w, h, hl => by
  match q, hl with
  | x :: q, hl =>
   have h1 := blk_set (i := p.length) v h
   have e : (p ++ x :: q ++ r).toArray.setIfInBounds p.length v = ((p ++ [v]) ++ q ++ r).toArray := by
    simp [List.setIfInBounds_toArray]
   rw [e] at h1
   have := sets_blk (vs := vs) h1 (by simpa using hl)
   rw [show (p ++ [v]).length = p.length + 1 by simp] at this
   show (setsW (w.setCell ⟨b, p.length, none⟩ v) b (p.length + 1) vs).heap[b]? = _
   simpa using this
theorem RdN.open {w : World} {v : Value} {n : Nat} (h : RdN w v n) : ∃ A k c, v = .slice A k c ∧ RdN w (.slice A k c) n := by
 obtain ⟨A, k, c, rfl⟩ := h.slice
 exact ⟨_, _, _, rfl, h⟩
theorem RdZ.open {w : World} {v : Value} {z : Int} (h : RdZ w v z) : ∃ g A k c, v = .agg #[.bool g, .slice A k c] ∧ RdZ w (.agg #[.bool g, .slice A k c]) z := by
 obtain ⟨a, rfl, ha⟩ := h
 obtain ⟨A, k, c, rfl⟩ := ha.slice
 exact ⟨_, _, _, _, rfl, _, rfl, ha⟩
theorem RdZ.sign {w : World} {g : Bool} {s : Value} {z : Int} (h : RdZ w (.agg #[.bool g, s]) z) : g = decide (z < 0) := by
 obtain ⟨a, e, _⟩ := h
 injection e with e; injection e with e; simp at e; exact e.1
theorem RdZ.abs {w : World} {g : Bool} {s : Value} {z : Int} (h : RdZ w (.agg #[.bool g, s]) z) : RdN w s z.natAbs := by
 obtain ⟨a, e, ha⟩ := h
 injection e with e; injection e with e; simp at e; exact e.2 ▸ ha
theorem RdZ.mk {w : World} {g : Bool} {s : Value} {z : Int} (hg : g = decide (z < 0)) (h : RdN w s z.natAbs) : RdZ w (.agg #[.bool g, s]) z := ⟨s, by rw [hg], h⟩
theorem RdQ.open {w : World} {v : Value} {x : Rat} (h : RdQ w v x) : ∃ g A k c B m d, v = .agg #[.bool g, .slice A k c, .slice B m d] ∧ RdQ w (.agg #[.bool g, .slice A k c, .slice B m d]) x := by
 obtain ⟨a, b, rfl, ha, hb⟩ := h
 obtain ⟨A, k, c, rfl⟩ := ha.slice
 obtain ⟨B, m, d, rfl⟩ := hb.slice
 exact ⟨_, _, _, _, _, _, _, rfl, _, _, rfl, ha, hb⟩
theorem RdQ.num {w : World} {g : Bool} {s t : Value} {x : Rat} (h : RdQ w (.agg #[.bool g, s, t]) x) : RdZ w (.agg #[.bool g, s]) x.num := by
 obtain ⟨a, b, e, ha, hb⟩ := h
 injection e with e; injection e with e; simp at e
 obtain ⟨rfl, rfl, rfl⟩ := e
 exact ⟨_, rfl, ha⟩
theorem RdQ.den {w : World} {g : Bool} {s t : Value} {x : Rat} (h : RdQ w (.agg #[.bool g, s, t]) x) : RdN w t (den1 x.den) := by
 obtain ⟨a, b, e, ha, hb⟩ := h
 injection e with e; injection e with e; simp at e
 obtain ⟨rfl, rfl, rfl⟩ := e
 exact hb
theorem RdQ.mk {w : World} {g : Bool} {s t : Value} {x : Rat} (h : RdZ w (.agg #[.bool g, s]) x.num) (k : RdN w t (den1 x.den)) : RdQ w (.agg #[.bool g, s, t]) x := ⟨_, _, by rw [h.sign], h.abs, k⟩
class WdSt (p : Prop) (w w' : World) (q : outParam Prop) : Prop where
 st : Wd w w' → p → q
theorem kW {p q : Prop} {w w' : World} [WdSt p w w' q] (hT : Wd w w') (h : Hid p) : Hid q := WdSt.st hT h.out
instance wdRdN (w w' : World) (v : Value) (n : Nat) : WdSt (RdN w v n) w w' (RdN w' v n) := ⟨fun hT h => h.wd hT⟩
instance wdRdZ (w w' : World) (v : Value) (z : Int) : WdSt (RdZ w v z) w w' (RdZ w' v z) := ⟨fun hT h => h.wd hT⟩
instance wdRdQ (w w' : World) (v : Value) (x : Rat) : WdSt (RdQ w v x) w w' (RdQ w' v x) := ⟨fun hT h => h.wd hT⟩
theorem st_al0 (w : World) (cs : Array Value) (t : TypeId) : ∃ W, Hid (W = w.alloc (.cells cs t)) ∧ Hid (W.heap[w.heap.size]? = some (.cells cs t (0, 0))) ∧ Hid (W.heap.size = w.heap.size + 1) ∧ Below w.heap.size w W :=
 ⟨_, rfl, heap_alloc_new w _, by show _ = _; simp, (Below.refl _ _).alloc (Nat.le_refl _) _⟩
theorem st_alk {w w0 : World} (k k' : Nat) (cs : Array Value) (t : TypeId) (hs : Hid (w.heap.size = w0.heap.size + k)) (hk : k' = k + 1) :
  ∃ W, Hid (W = w.alloc (.cells cs t)) ∧ Hid (W.heap[w0.heap.size + k]? = some (.cells cs t (0, 0))) ∧ Hid (W.heap.size = w0.heap.size + k') ∧ Below w.heap.size w W := by
 refine ⟨_, rfl, ?_, ?_, (Below.refl _ _).alloc (Nat.le_refl _) _⟩
 ·show _ = _; rw [← hs.out]; exact heap_alloc_new w _
 ·show _ = _; have := hs.out; simp; omega
theorem kB {w w' : World} {b : Nat} {o : Obj} (h : Hid (w.heap[b]? = some o)) (hb : Below w.heap.size w w') : Hid (w'.heap[b]? = some o) := blk_below h hb
theorem kU {a w w' : World} (h : Hid (Below a.heap.size a w)) (k : Below w.heap.size w w') : Hid (Below a.heap.size a w') := h.out.trans (k.mono h.out.size)
theorem kM1 {w W : World} {b o : Nat} {v : Value} (h : Hid (W = w.setCell ⟨b, o, none⟩ v)) : W = setsW w b o [v] := h
theorem kN {w W : World} {b o t : Nat} {cs : Array Value} {vs : List Value} (hS : W = setsW w b o vs) (h : Hid (w.heap[b]? = some (.cells cs t (0, 0)))) (h1 : cs.toList.all notWB = true) (h2 : vs.all notWB = true) : Wd w W := by
 rw [hS]; exact sets_wd (NoW.of h.out h1) h2
theorem kO {w W : World} {b b' o : Nat} {ob : Obj} {vs : List Value} (hS : W = setsW w b' o vs) (h : Hid (w.heap[b]? = some ob)) (hne : b ≠ b') : Hid (W.heap[b]? = some ob) := by
 rw [hS]; exact sets_other h.out hne
def putL (o : Nat) (vs cs : List Value) : List Value := cs.take o ++ vs ++ cs.drop (o + vs.length)
theorem kP {w W : World} {b o t : Nat} {vs cs ds : List Value} (hS : W = setsW w b o vs) (h : Hid (w.heap[b]? = some (.cells cs.toArray t (0, 0)))) (h1 : Nat.ble (o + vs.length) cs.length = true) (h2 : putL o vs cs = ds) :
  Hid (W.heap[b]? = some (.cells ds.toArray t (0, 0))) := by
 have h1 := Nat.le_of_ble_eq_true h1
 have e : cs = cs.take o ++ (cs.drop o).take vs.length ++ cs.drop (o + vs.length) := by
  rw [← List.drop_drop, List.append_assoc, List.take_append_drop, List.take_append_drop]
 have h' := h.out
 rw [e] at h'
 have := sets_blk (vs := vs) h' (by rw [List.length_take, List.length_drop]; omega)
 rw [List.length_take, Nat.min_eq_left (by omega)] at this
 show _ = _
 rw [hS, ← h2]
 exact this
theorem kPf {w W : World} {b t : Nat} {vs cs : List Value} (hS : W = setsW w b 0 vs) (h : Hid (w.heap[b]? = some (.cells cs.toArray t (0, 0)))) (hl : cs.length = vs.length) : Hid (W.heap[b]? = some (.cells vs.toArray t (0, 0))) :=
 kP hS h (Nat.ble_eq_true_of_le (by omega)) (by unfold putL; rw [List.take_zero, List.nil_append, Nat.zero_add, ← hl, List.drop_length, List.append_nil])
theorem tt {a b c : World} (h : Below a.heap.size a b) (k : Below b.heap.size b c) : Below a.heap.size a c := h.trans (k.mono h.size)
theorem klt {w : World} {b : Nat} {o : Obj} (h : Hid (w.heap[b]? = some o)) : Hid (b < w.heap.size) := blk_lt h.out
theorem ksz {a w : World} (h : Hid (Below a.heap.size a w)) : Hid (a.heap.size ≤ w.heap.size) := h.out.size
theorem nlt {a b : Nat} (h : Nat.ble (a + 1) b = true := by rfl) : a < b := Nat.le_of_ble_eq_true h
theorem mV {P : Program} {f : FuncId} {ar : Array Value} {w : World} {v : Value} {K : Ending → World → Prop} (h : Calls P f ar w fun e w' => e = .returned v ∧ Below w.heap.size w w') (k : ∀ w', Below w.heap.size w w' → K (.returned v) w') : Calls P f ar w K :=
 h.mono fun e w' ⟨he, hb⟩ => by subst he; exact k w' hb
theorem mN {P : Program} {f : FuncId} {ar : Array Value} {w : World} {R : World → Value → Prop} {K : Ending → World → Prop} (h : Calls P f ar w fun e w' => (∃ v', e = .returned v' ∧ R w' v') ∧ Below w.heap.size w w')
  (k : ∀ w' A0 k0 c0, Hid (R w' (.slice A0 k0 c0)) → Below w.heap.size w w' → K (.returned (.slice A0 k0 c0)) w') (ho : ∀ w v, R w v → ∃ A0 k0 c0, v = .slice A0 k0 c0 ∧ R w (.slice A0 k0 c0) := by exact fun _ _ h => h.open) : Calls P f ar w K :=
 h.mono fun e w' ⟨⟨v, he, hr⟩, hb⟩ => by
  obtain ⟨A0, k0, c0, hv, hq⟩ := ho _ _ hr
  subst he hv
  exact k w' A0 k0 c0 hq hb
theorem mZ {P : Program} {f : FuncId} {ar : Array Value} {w : World} {R : World → Value → Prop} {K : Ending → World → Prop} (h : Calls P f ar w fun e w' => (∃ v', e = .returned v' ∧ R w' v') ∧ Below w.heap.size w w')
  (k : ∀ w' g0 A0 k0 c0, Hid (R w' (.agg #[.bool g0, .slice A0 k0 c0])) → Below w.heap.size w w' → K (.returned (.agg #[.bool g0, .slice A0 k0 c0])) w') (ho : ∀ w v, R w v → ∃ g0 A0 k0 c0, v = .agg #[.bool g0, .slice A0 k0 c0] ∧ R w (.agg #[.bool g0, .slice A0 k0 c0]) := by exact fun _ _ h => h.open) : Calls P f ar w K :=
 h.mono fun e w' ⟨⟨v, he, hr⟩, hb⟩ => by
  obtain ⟨g0, A0, k0, c0, hv, hq⟩ := ho _ _ hr
  subst he hv
  exact k w' g0 A0 k0 c0 hq hb
theorem mQ {P : Program} {f : FuncId} {ar : Array Value} {w : World} {R : World → Value → Prop} {K : Ending → World → Prop} (h : Calls P f ar w fun e w' => (∃ v', e = .returned v' ∧ R w' v') ∧ Below w.heap.size w w')
  (k : ∀ w' g0 A0 k0 c0 A1 k1 c1, Hid (R w' (.agg #[.bool g0, .slice A0 k0 c0, .slice A1 k1 c1])) → Below w.heap.size w w' → K (.returned (.agg #[.bool g0, .slice A0 k0 c0, .slice A1 k1 c1])) w') (ho : ∀ w v, R w v → ∃ g0 A0 k0 c0 A1 k1 c1, v = .agg #[.bool g0, .slice A0 k0 c0, .slice A1 k1 c1] ∧ R w (.agg #[.bool g0, .slice A0 k0 c0, .slice A1 k1 c1]) := by exact fun _ _ h => h.open) : Calls P f ar w K :=
 h.mono fun e w' ⟨⟨v, he, hr⟩, hb⟩ => by
  obtain ⟨g0, A0, k0, c0, A1, k1, c1, hv, hq⟩ := ho _ _ hr
  subst he hv
  exact k w' g0 A0 k0 c0 A1 k1 c1 hq hb
theorem mS {P : Program} {f : FuncId} {ar : Array Value} {w : World} {R : World → Value → Prop} {K : Ending → World → Prop} (h : Calls P f ar w fun e w' => (∃ v', e = .returned v' ∧ R w' v') ∧ Below w.heap.size w w')
  (k : ∀ w' g0 A0 k0 c0 g1 A1 k1 c1 g2 A2 k2 c2 g3 A3 k3 c3 A4 k4 c4, Hid (R w' (.agg #[.bool g0, .slice A0 k0 c0, .bool g1, .slice A1 k1 c1, .bool g2, .slice A2 k2 c2, .bool g3, .slice A3 k3 c3, .slice A4 k4 c4])) → Below w.heap.size w w' → K (.returned (.agg #[.bool g0, .slice A0 k0 c0, .bool g1, .slice A1 k1 c1, .bool g2, .slice A2 k2 c2, .bool g3, .slice A3 k3 c3, .slice A4 k4 c4])) w') (ho : ∀ w v, R w v → ∃ g0 A0 k0 c0 g1 A1 k1 c1 g2 A2 k2 c2 g3 A3 k3 c3 A4 k4 c4, v = .agg #[.bool g0, .slice A0 k0 c0, .bool g1, .slice A1 k1 c1, .bool g2, .slice A2 k2 c2, .bool g3, .slice A3 k3 c3, .slice A4 k4 c4] ∧ R w (.agg #[.bool g0, .slice A0 k0 c0, .bool g1, .slice A1 k1 c1, .bool g2, .slice A2 k2 c2, .bool g3, .slice A3 k3 c3, .slice A4 k4 c4]) := by exact fun _ _ h => h.open) : Calls P f ar w K :=
 h.mono fun e w' ⟨⟨v, he, hr⟩, hb⟩ => by
  obtain ⟨g0, A0, k0, c0, g1, A1, k1, c1, g2, A2, k2, c2, g3, A3, k3, c3, A4, k4, c4, hv, hq⟩ := ho _ _ hr
  subst he hv
  exact k w' g0 A0 k0 c0 g1 A1 k1 c1 g2 A2 k2 c2 g3 A3 k3 c3 A4 k4 c4 hq hb
theorem kS {a w W : World} {b o : Nat} {vs : List Value} (hS : W = setsW w b o vs) (hle : Hid (a.heap.size ≤ b)) (h : Hid (Below a.heap.size a w)) : Hid (Below a.heap.size a W) := by
 show Below _ _ _; rw [hS]; exact sets_below hle.out h.out
theorem kZ {w W : World} {b o : Nat} {vs : List Value} (hS : W = setsW w b o vs) : Hid (W.heap.size = w.heap.size) := by show _ = _; rw [hS]; exact sets_size
theorem kC {w : World} {b t : Nat} {cs : List Value} {v : Value} (h : Hid (w.heap[b]? = some (.cells cs.toArray t (0, 0)))) (i : Nat) (hv : cs[i]? = some v) : w.cell? ⟨b, i, none⟩ = some v := by
 rw [blk_cell h.out]; simpa using hv
theorem kD {w : World} {b t : Nat} {cs : Array Value} (h : Hid (w.heap[b]? = some (.cells cs t (0, 0)))) (i : Nat) : w.cell? ⟨b, i, none⟩ = cs[i]? := blk_cell h.out i
theorem kF {w : World} {b t : Nat} {cs : Array Value} (h : Hid (w.heap[b]? = some (.cells cs t (0, 0)))) (i : Nat) : w.frozen? ⟨b, i, none⟩ = false := blk_free h.out i
end Go.Proofs.YtodckaioeomccaaGreat
namespace Go.Proofs.YtodckaioeomccaaGreat
open Go.RowKit
set_option linter.unusedVariables false
theorem kV {p q : Prop} {w w' : World} [WdSt p w w' q] (hb : Below w.heap.size w w') (h : Hid p) : Hid q := kW (Wd.of_below hb) h
section
variable {P : Program} {ops : Array Oper} {Q : Exit → Act → World → Prop} {S : World → Prop}
theorem plq {l m : List (Nat × Oper)} {a : Act} {w : World} (n : Nat) (hm : pull n l = m := by first | (simp only [places, pull]; rfl) | rfl) (h : Seq P ops Q S m a w) : Seq P ops Q S l a w := by
 subst hm
 exact seq_pull n h
end
end Go.Proofs.YtodckaioeomccaaGreat
