/- Numbers with roots in memory: four integers over a denominator. -/
import Derived.Test.YtodckaioeomccaaGreatPart32
import Derived.Test.YtodckaioeomccaaGreatPart02
namespace Go.Proofs.YtodckaioeomccaaGreat
open Go.RowKit Go.Proofs.S4P
set_option linter.unusedVariables false
set_option linter.unusedSimpArgs false
/-- Four integers. -/
def RdA (w : World) (v : Value) (n0 n1 n2 n3 : Int) : Prop := ∃ (g0 g1 g2 g3 : Bool) (s0 s1 s2 s3 : Value), v = .agg #[.bool g0, s0, .bool g1, s1, .bool g2, s2, .bool g3, s3] ∧
  RdZ w (.agg #[.bool g0, s0]) n0 ∧ RdZ w (.agg #[.bool g1, s1]) n1 ∧ RdZ w (.agg #[.bool g2, s2]) n2 ∧ RdZ w (.agg #[.bool g3, s3]) n3
/-- Four integers and a denominator. -/
def RdSn (w : World) (v : Value) (n0 n1 n2 n3 : Int) (d : Nat) : Prop := ∃ (g0 g1 g2 g3 : Bool) (s0 s1 s2 s3 t : Value), v = .agg #[.bool g0, s0, .bool g1, s1, .bool g2, s2, .bool g3, s3, t] ∧
  RdZ w (.agg #[.bool g0, s0]) n0 ∧ RdZ w (.agg #[.bool g1, s1]) n1 ∧ RdZ w (.agg #[.bool g2, s2]) n2 ∧ RdZ w (.agg #[.bool g3, s3]) n3 ∧ RdN w t (den1 d)
theorem RdA.wd {w w' : World} {v : Value} {n0 n1 n2 n3 : Int} (h : RdA w v n0 n1 n2 n3) (hw : Wd w w') : RdA w' v n0 n1 n2 n3 := by
  obtain ⟨g0, g1, g2, g3, s0, s1, s2, s3, rfl, h0, h1, h2, h3⟩ := h
  exact ⟨_, _, _, _, _, _, _, _, rfl, h0.wd hw, h1.wd hw, h2.wd hw, h3.wd hw⟩
theorem RdSn.wd {w w' : World} {v : Value} {n0 n1 n2 n3 : Int} {d : Nat} (h : RdSn w v n0 n1 n2 n3 d) (hw : Wd w w') : RdSn w' v n0 n1 n2 n3 d := by
  obtain ⟨g0, g1, g2, g3, s0, s1, s2, s3, t, rfl, h0, h1, h2, h3, h4⟩ := h
  exact ⟨_, _, _, _, _, _, _, _, _, rfl, h0.wd hw, h1.wd hw, h2.wd hw, h3.wd hw, h4.wd hw⟩
theorem RdZ.shape {w : World} {g : Bool} {s : Value} {z : Int} (h : RdZ w (.agg #[.bool g, s]) z) : ∃ A k c, s = .slice A k c := h.abs.slice
theorem RdA.open {w : World} {v : Value} {n0 n1 n2 n3 : Int} (h : RdA w v n0 n1 n2 n3) : ∃ g0 A0 k0 c0 g1 A1 k1 c1 g2 A2 k2 c2 g3 A3 k3 c3,
    v = .agg #[.bool g0, .slice A0 k0 c0, .bool g1, .slice A1 k1 c1, .bool g2, .slice A2 k2 c2, .bool g3, .slice A3 k3 c3] ∧ RdA w (.agg #[.bool g0, .slice A0 k0 c0, .bool g1, .slice A1 k1 c1, .bool g2, .slice A2 k2 c2, .bool g3, .slice A3 k3 c3]) n0 n1 n2 n3 := by
  obtain ⟨g0, g1, g2, g3, s0, s1, s2, s3, rfl, h0, h1, h2, h3⟩ := h
  obtain ⟨_, _, _, rfl⟩ := h0.shape
  obtain ⟨_, _, _, rfl⟩ := h1.shape
  obtain ⟨_, _, _, rfl⟩ := h2.shape
  obtain ⟨_, _, _, rfl⟩ := h3.shape
  exact ⟨_, _, _, _, _, _, _, _, _, _, _, _, _, _, _, _, rfl, _, _, _, _, _, _, _, _, rfl, h0, h1, h2, h3⟩
theorem RdSn.open {w : World} {v : Value} {n0 n1 n2 n3 : Int} {d : Nat} (h : RdSn w v n0 n1 n2 n3 d) : ∃ g0 A0 k0 c0 g1 A1 k1 c1 g2 A2 k2 c2 g3 A3 k3 c3 B m e,
    v = .agg #[.bool g0, .slice A0 k0 c0, .bool g1, .slice A1 k1 c1, .bool g2, .slice A2 k2 c2, .bool g3, .slice A3 k3 c3, .slice B m e] ∧ RdSn w (.agg #[.bool g0, .slice A0 k0 c0, .bool g1, .slice A1 k1 c1, .bool g2, .slice A2 k2 c2, .bool g3, .slice A3 k3 c3, .slice B m e]) n0 n1 n2 n3 d := by
  obtain ⟨g0, g1, g2, g3, s0, s1, s2, s3, t, rfl, h0, h1, h2, h3, h4⟩ := h
  obtain ⟨_, _, _, rfl⟩ := h0.shape
  obtain ⟨_, _, _, rfl⟩ := h1.shape
  obtain ⟨_, _, _, rfl⟩ := h2.shape
  obtain ⟨_, _, _, rfl⟩ := h3.shape
  obtain ⟨_, _, _, rfl⟩ := h4.slice
  exact ⟨_, _, _, _, _, _, _, _, _, _, _, _, _, _, _, _, _, _, _, rfl, _, _, _, _, _, _, _, _, _, rfl, h0, h1, h2, h3, h4⟩
theorem RdA.parts {w : World} {g0 g1 g2 g3 : Bool} {s0 s1 s2 s3 : Value} {n0 n1 n2 n3 : Int} (h : RdA w (.agg #[.bool g0, s0, .bool g1, s1, .bool g2, s2, .bool g3, s3]) n0 n1 n2 n3) :
    RdZ w (.agg #[.bool g0, s0]) n0 ∧ RdZ w (.agg #[.bool g1, s1]) n1 ∧ RdZ w (.agg #[.bool g2, s2]) n2 ∧ RdZ w (.agg #[.bool g3, s3]) n3 := by
  obtain ⟨a0, a1, a2, a3, b0, b1, b2, b3, e, h⟩ := h
  injection e with e; injection e with e; simp at e
  obtain ⟨rfl, rfl, rfl, rfl, rfl, rfl, rfl, rfl⟩ := e
  exact h
theorem RdSn.parts {w : World} {g0 g1 g2 g3 : Bool} {s0 s1 s2 s3 t : Value} {n0 n1 n2 n3 : Int} {d : Nat} (h : RdSn w (.agg #[.bool g0, s0, .bool g1, s1, .bool g2, s2, .bool g3, s3, t]) n0 n1 n2 n3 d) :
    RdZ w (.agg #[.bool g0, s0]) n0 ∧ RdZ w (.agg #[.bool g1, s1]) n1 ∧ RdZ w (.agg #[.bool g2, s2]) n2 ∧ RdZ w (.agg #[.bool g3, s3]) n3 ∧ RdN w t (den1 d) := by
  obtain ⟨a0, a1, a2, a3, b0, b1, b2, b3, c, e, h⟩ := h
  injection e with e; injection e with e; simp at e
  obtain ⟨rfl, rfl, rfl, rfl, rfl, rfl, rfl, rfl, rfl⟩ := e
  exact h
theorem RdA.z0 {w : World} {g0 g1 g2 g3 : Bool} {s0 s1 s2 s3 : Value} {n0 n1 n2 n3 : Int} (h : RdA w (.agg #[.bool g0, s0, .bool g1, s1, .bool g2, s2, .bool g3, s3]) n0 n1 n2 n3) : RdZ w (.agg #[.bool g0, s0]) n0 := h.parts.1
theorem RdA.z1 {w : World} {g0 g1 g2 g3 : Bool} {s0 s1 s2 s3 : Value} {n0 n1 n2 n3 : Int} (h : RdA w (.agg #[.bool g0, s0, .bool g1, s1, .bool g2, s2, .bool g3, s3]) n0 n1 n2 n3) : RdZ w (.agg #[.bool g1, s1]) n1 := h.parts.2.1
theorem RdA.z2 {w : World} {g0 g1 g2 g3 : Bool} {s0 s1 s2 s3 : Value} {n0 n1 n2 n3 : Int} (h : RdA w (.agg #[.bool g0, s0, .bool g1, s1, .bool g2, s2, .bool g3, s3]) n0 n1 n2 n3) : RdZ w (.agg #[.bool g2, s2]) n2 := h.parts.2.2.1
theorem RdA.z3 {w : World} {g0 g1 g2 g3 : Bool} {s0 s1 s2 s3 : Value} {n0 n1 n2 n3 : Int} (h : RdA w (.agg #[.bool g0, s0, .bool g1, s1, .bool g2, s2, .bool g3, s3]) n0 n1 n2 n3) : RdZ w (.agg #[.bool g3, s3]) n3 := h.parts.2.2.2
theorem RdSn.z0 {w : World} {g0 g1 g2 g3 : Bool} {s0 s1 s2 s3 t : Value} {n0 n1 n2 n3 : Int} {d : Nat} (h : RdSn w (.agg #[.bool g0, s0, .bool g1, s1, .bool g2, s2, .bool g3, s3, t]) n0 n1 n2 n3 d) : RdZ w (.agg #[.bool g0, s0]) n0 := h.parts.1
theorem RdSn.z1 {w : World} {g0 g1 g2 g3 : Bool} {s0 s1 s2 s3 t : Value} {n0 n1 n2 n3 : Int} {d : Nat} (h : RdSn w (.agg #[.bool g0, s0, .bool g1, s1, .bool g2, s2, .bool g3, s3, t]) n0 n1 n2 n3 d) : RdZ w (.agg #[.bool g1, s1]) n1 := h.parts.2.1
theorem RdSn.z2 {w : World} {g0 g1 g2 g3 : Bool} {s0 s1 s2 s3 t : Value} {n0 n1 n2 n3 : Int} {d : Nat} (h : RdSn w (.agg #[.bool g0, s0, .bool g1, s1, .bool g2, s2, .bool g3, s3, t]) n0 n1 n2 n3 d) : RdZ w (.agg #[.bool g2, s2]) n2 := h.parts.2.2.1
theorem RdSn.z3 {w : World} {g0 g1 g2 g3 : Bool} {s0 s1 s2 s3 t : Value} {n0 n1 n2 n3 : Int} {d : Nat} (h : RdSn w (.agg #[.bool g0, s0, .bool g1, s1, .bool g2, s2, .bool g3, s3, t]) n0 n1 n2 n3 d) : RdZ w (.agg #[.bool g3, s3]) n3 := h.parts.2.2.2.1
theorem RdSn.den {w : World} {g0 g1 g2 g3 : Bool} {s0 s1 s2 s3 t : Value} {n0 n1 n2 n3 : Int} {d : Nat} (h : RdSn w (.agg #[.bool g0, s0, .bool g1, s1, .bool g2, s2, .bool g3, s3, t]) n0 n1 n2 n3 d) : RdN w t (den1 d) := h.parts.2.2.2.2
theorem RdA.mk {w : World} {g0 g1 g2 g3 : Bool} {s0 s1 s2 s3 : Value} {n0 n1 n2 n3 : Int} (h0 : RdZ w (.agg #[.bool g0, s0]) n0) (h1 : RdZ w (.agg #[.bool g1, s1]) n1) (h2 : RdZ w (.agg #[.bool g2, s2]) n2) (h3 : RdZ w (.agg #[.bool g3, s3]) n3) :
    RdA w (.agg #[.bool g0, s0, .bool g1, s1, .bool g2, s2, .bool g3, s3]) n0 n1 n2 n3 := ⟨_, _, _, _, _, _, _, _, rfl, h0, h1, h2, h3⟩
theorem RdSn.mk {w : World} {g0 g1 g2 g3 : Bool} {s0 s1 s2 s3 t : Value} {n0 n1 n2 n3 : Int} {d : Nat} (h0 : RdZ w (.agg #[.bool g0, s0]) n0) (h1 : RdZ w (.agg #[.bool g1, s1]) n1) (h2 : RdZ w (.agg #[.bool g2, s2]) n2) (h3 : RdZ w (.agg #[.bool g3, s3]) n3) (h4 : RdN w t (den1 d)) :
    RdSn w (.agg #[.bool g0, s0, .bool g1, s1, .bool g2, s2, .bool g3, s3, t]) n0 n1 n2 n3 d := ⟨_, _, _, _, _, _, _, _, _, rfl, h0, h1, h2, h3, h4⟩
/-- Zero, where nothing is stored. -/
theorem RdN.nil0 (w : World) : RdN w (.slice none 0 0) 0 := by
  unfold RdN RdW
  rw [digs_zero]
  exact ⟨none, 0, rfl, Nat.le_refl _, by unfold maxLen; omega, fun h => absurd rfl h⟩
theorem RdZ.nil0 (w : World) : RdZ w (.agg #[.bool false, .slice none 0 0]) 0 := .mk rfl (RdN.nil0 w)
theorem den1_ne {d : Nat} (h : d ≠ 1) : den1 d = d := if_neg h
/-- What number four integers over a denominator are, and their sizes. -/
def Sx (x : S4) (n0 n1 n2 n3 : Int) (d K : Nat) : Prop := d ≠ 0 ∧ (x.a * d = n0 ∧ x.b * d = n1 ∧ x.c * d = n2 ∧ x.e * d = n3) ∧ (dl n0.natAbs ≤ K ∧ dl n1.natAbs ≤ K ∧ dl n2.natAbs ≤ K ∧ dl n3.natAbs ≤ K) ∧ dl d ≤ K
/-- A number in memory. -/
def RdS (w : World) (v : Value) (x : S4) (K : Nat) : Prop := ∃ n0 n1 n2 n3 d, RdSn w v n0 n1 n2 n3 d ∧ Sx x n0 n1 n2 n3 d K
theorem RdS.wd {w w' : World} {v : Value} {x : S4} {K : Nat} (h : RdS w v x K) (hw : Wd w w') : RdS w' v x K := by
  obtain ⟨n0, n1, n2, n3, d, h1, h2⟩ := h
  exact ⟨_, _, _, _, _, h1.wd hw, h2⟩
theorem Sx.mono {x : S4} {n0 n1 n2 n3 : Int} {d K L : Nat} (h : Sx x n0 n1 n2 n3 d K) (hl : K ≤ L) : Sx x n0 n1 n2 n3 d L := by
  obtain ⟨h1, h2, ⟨a, b, c, e⟩, f⟩ := h
  exact ⟨h1, h2, ⟨by omega, by omega, by omega, by omega⟩, by omega⟩
theorem RdS.mono {w : World} {v : Value} {x : S4} {K L : Nat} (h : RdS w v x K) (hl : K ≤ L) : RdS w v x L := by
  obtain ⟨n0, n1, n2, n3, d, h1, h2⟩ := h
  exact ⟨_, _, _, _, _, h1, h2.mono hl⟩
theorem RdS.open {w : World} {v : Value} {x : S4} {K : Nat} (h : RdS w v x K) : ∃ g0 A0 k0 c0 g1 A1 k1 c1 g2 A2 k2 c2 g3 A3 k3 c3 B m e,
    v = .agg #[.bool g0, .slice A0 k0 c0, .bool g1, .slice A1 k1 c1, .bool g2, .slice A2 k2 c2, .bool g3, .slice A3 k3 c3, .slice B m e] ∧ RdS w (.agg #[.bool g0, .slice A0 k0 c0, .bool g1, .slice A1 k1 c1, .bool g2, .slice A2 k2 c2, .bool g3, .slice A3 k3 c3, .slice B m e]) x K := by
  obtain ⟨n0, n1, n2, n3, d, h1, h2⟩ := h
  obtain ⟨g0, A0, k0, c0, g1, A1, k1, c1, g2, A2, k2, c2, g3, A3, k3, c3, B, m, e, rfl, h1⟩ := h1.open
  exact ⟨_, _, _, _, _, _, _, _, _, _, _, _, _, _, _, _, _, _, _, rfl, _, _, _, _, _, h1, h2⟩
theorem div_part {q : Rat} {z : Int} {d g : Nat} (hg : g ≠ 0) (hd : g ∣ d) (hz : (g : Int) ∣ z) (h : q * d = z) : q * ((d / g : Nat) : Rat) = ((z / g : Int) : Rat) := by
  obtain ⟨d', rfl⟩ := hd
  obtain ⟨z', rfl⟩ := hz
  rw [Nat.mul_div_cancel_left _ (Nat.pos_of_ne_zero hg), Int.mul_ediv_cancel_left _ (by omega)]
  rw [Rat.natCast_mul, Rat.intCast_mul, Rat.intCast_natCast] at h
  have : (g : Rat) ≠ 0 := fun e => hg (by exact_mod_cast e)
  grind
theorem ediv_abs {z : Int} {g : Nat} (hz : (g : Int) ∣ z) : (z / g).natAbs = z.natAbs / g := by
  rw [Int.natAbs_ediv_of_dvd hz, Int.natAbs_natCast]
theorem ediv_sign {z : Int} {g : Nat} (hg : g ≠ 0) (hz : (g : Int) ∣ z) : decide (z / g < 0) = decide (z < 0) := by
  obtain ⟨z', rfl⟩ := hz
  rw [Int.mul_ediv_cancel_left _ (by omega), Bool.eq_iff_iff, decide_eq_true_iff, decide_eq_true_iff]
  constructor
  · intro h; exact Int.mul_neg_of_pos_of_neg (by omega) h
  · intro h; refine Int.not_le.1 fun h2 => ?_; have := Int.mul_nonneg (a := (g : Int)) (by omega) h2; omega
theorem Sx.div {x : S4} {z0 z1 z2 z3 : Int} {d K g : Nat} (h : Sx x z0 z1 z2 z3 d K) (hg : g ≠ 0) (hd : g ∣ d) (h0 : (g : Int) ∣ z0) (h1 : (g : Int) ∣ z1) (h2 : (g : Int) ∣ z2) (h3 : (g : Int) ∣ z3) : Sx x (z0 / g) (z1 / g) (z2 / g) (z3 / g) (d / g) K := by
  obtain ⟨k0, ⟨a, b, c, e⟩, ⟨p, q, r, s⟩, t⟩ := h
  refine ⟨fun hz => ?_, ⟨div_part hg hd h0 a, div_part hg hd h1 b, div_part hg hd h2 c, div_part hg hd h3 e⟩, ⟨?_, ?_, ?_, ?_⟩, ?_⟩
  · obtain ⟨d', rfl⟩ := hd
    rw [Nat.mul_div_cancel_left _ (Nat.pos_of_ne_zero hg)] at hz
    exact k0 (by rw [hz]; rfl)
  · rw [ediv_abs h0]; exact Nat.le_trans (dl_mono (Nat.div_le_self _ _)) p
  · rw [ediv_abs h1]; exact Nat.le_trans (dl_mono (Nat.div_le_self _ _)) q
  · rw [ediv_abs h2]; exact Nat.le_trans (dl_mono (Nat.div_le_self _ _)) r
  · rw [ediv_abs h3]; exact Nat.le_trans (dl_mono (Nat.div_le_self _ _)) s
  · exact Nat.le_trans (dl_mono (Nat.div_le_self _ _)) t
theorem RdZ.div {w : World} {g0 : Bool} {s s' : Value} {z : Int} {g : Nat} (h : RdZ w (.agg #[.bool g0, s]) z) (hg : g ≠ 0) (hz : (g : Int) ∣ z) (hs : RdN w s' (z.natAbs / g)) : RdZ w (.agg #[.bool g0, s']) (z / g) :=
  .mk (by rw [ediv_sign hg hz]; exact h.sign) (by rw [ediv_abs hz]; exact hs)
theorem isOne_yes (v : Value) (n : Nat) (w : World) (h : RdN w v n) (h1 : n = 1) :
    Calls Tryz.prog 226 #[v] w fun e w' => e = .returned (.bool true) ∧ w = w' := by
  have := isOne_any v n w h
  rwa [decide_eq_true h1] at this
theorem isOne_no (v : Value) (n : Nat) (w : World) (h : RdN w v n) (h1 : n ≠ 1) :
    Calls Tryz.prog 226 #[v] w fun e w' => e = .returned (.bool false) ∧ w = w' := by
  have := isOne_any v n w h
  rwa [decide_eq_false h1] at this
theorem divPair (va vb : Value) (m n : Nat) (w : World) (hP : RdN w va m) (hQ : RdN w vb n) (hn0 : n ≠ 0) (hm6 : dl m ≤ 900000) (hn6 : dl n ≤ 900000) :
    Calls Tryz.prog 227 #[va, vb] w fun e w' => (∃ v1 v2, e = .returned (.tuple #[v1, v2]) ∧ RdN w' v1 (m / n) ∧ RdN w' v2 (m % n)) ∧ Below w.heap.size w w' :=
  (divide_any va vb m n w hP hQ hn0 hm6 hn6).mono fun e w' ⟨v1, v2, h1, h2, h3, h4⟩ => ⟨⟨v1, v2, h1, h2, h3⟩, h4⟩
instance wdRdA (w w' : World) (v : Value) (a b c d : Int) : WdSt (RdA w v a b c d) w w' (RdA w' v a b c d) := ⟨fun hT h => h.wd hT⟩
instance wdRdSn (w w' : World) (v : Value) (a b c d : Int) (e : Nat) : WdSt (RdSn w v a b c d e) w w' (RdSn w' v a b c d e) := ⟨fun hT h => h.wd hT⟩
instance wdRdS (w w' : World) (v : Value) (x : S4) (K : Nat) : WdSt (RdS w v x K) w w' (RdS w' v x K) := ⟨fun hT h => h.wd hT⟩
end Go.Proofs.YtodckaioeomccaaGreat
