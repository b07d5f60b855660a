/- Numbers with roots in memory: four integers over a denominator. Walks of numbers with roots: surd. -/
import Derived.Test.YtodckaioeomccaaGreatPart22
import Derived.Test.YtodckaioeomccaaGreatPart02
namespace Go.Proofs.YtodckaioeomccaaGreat
open Go.RowKit Go.Proofs.S4P
set_option linter.unusedVariables false
set_option linter.unusedSimpArgs false
def RdA (w : World) (v : Value) (n0 n1 n2 n3 : Int) : Prop := ∃ (g0 g1 g2 g3 : Bool) (s0 s1 s2 s3 : Value), v = .agg #[.bool g0, s0, .bool g1, s1, .bool g2, s2, .bool g3, s3] ∧
 RdZ w (.agg #[.bool g0, s0]) n0 ∧ RdZ w (.agg #[.bool g1, s1]) n1 ∧ RdZ w (.agg #[.bool g2, s2]) n2 ∧ RdZ w (.agg #[.bool g3, s3]) n3
def RdSn (w : World) (v : Value) (n0 n1 n2 n3 : Int) (d : Nat) : Prop := ∃ (g0 g1 g2 g3 : Bool) (s0 s1 s2 s3 t : Value), v = .agg #[.bool g0, s0, .bool g1, s1, .bool g2, s2, .bool g3, s3, t] ∧
 RdZ w (.agg #[.bool g0, s0]) n0 ∧ RdZ w (.agg #[.bool g1, s1]) n1 ∧ RdZ w (.agg #[.bool g2, s2]) n2 ∧ RdZ w (.agg #[.bool g3, s3]) n3 ∧ RdN w t (den1 d)
theorem RdA.wd {w w' : World} {v : Value} {n0 n1 n2 n3 : Int} (h : RdA w v n0 n1 n2 n3) (hw : Wd w w') : RdA w' v n0 n1 n2 n3 := by
 obtain ⟨g0, g1, g2, g3, s0, s1, s2, s3, rfl, h0, h1, h2, h3⟩ := h
 exact ⟨_, _, _, _, _, _, _, _, rfl, h0.wd hw, h1.wd hw, h2.wd hw, h3.wd hw⟩
theorem RdSn.wd {w w' : World} {v : Value} {n0 n1 n2 n3 : Int} {d : Nat} (h : RdSn w v n0 n1 n2 n3 d) (hw : Wd w w') : RdSn w' v n0 n1 n2 n3 d := by
 obtain ⟨g0, g1, g2, g3, s0, s1, s2, s3, t, rfl, h0, h1, h2, h3, h4⟩ := h
 exact ⟨_, _, _, _, _, _, _, _, _, rfl, h0.wd hw, h1.wd hw, h2.wd hw, h3.wd hw, h4.wd hw⟩
theorem RdZ.shape {w : World} {g : Bool} {s : Value} {z : Int} (h : RdZ w (.agg #[.bool g, s]) z) : ∃ A k c, s = .slice A k c := h.abs.slice
theorem RdA.open {w : World} {v : Value} {n0 n1 n2 n3 : Int} (h : RdA w v n0 n1 n2 n3) : ∃ g0 A0 k0 c0 g1 A1 k1 c1 g2 A2 k2 c2 g3 A3 k3 c3,
  v = .agg #[.bool g0, .slice A0 k0 c0, .bool g1, .slice A1 k1 c1, .bool g2, .slice A2 k2 c2, .bool g3, .slice A3 k3 c3] ∧ RdA w (.agg #[.bool g0, .slice A0 k0 c0, .bool g1, .slice A1 k1 c1, .bool g2, .slice A2 k2 c2, .bool g3, .slice A3 k3 c3]) n0 n1 n2 n3 := by
 obtain ⟨g0, g1, g2, g3, s0, s1, s2, s3, rfl, h0, h1, h2, h3⟩ := h
 obtain ⟨_, _, _, rfl⟩ := h0.shape
 obtain ⟨_, _, _, rfl⟩ := h1.shape
 obtain ⟨_, _, _, rfl⟩ := h2.shape
 obtain ⟨_, _, _, rfl⟩ := h3.shape
 exact ⟨_, _, _, _, _, _, _, _, _, _, _, _, _, _, _, _, rfl, _, _, _, _, _, _, _, _, rfl, h0, h1, h2, h3⟩
theorem RdSn.open {w : World} {v : Value} {n0 n1 n2 n3 : Int} {d : Nat} (h : RdSn w v n0 n1 n2 n3 d) : ∃ g0 A0 k0 c0 g1 A1 k1 c1 g2 A2 k2 c2 g3 A3 k3 c3 B m e,
  v = .agg #[.bool g0, .slice A0 k0 c0, .bool g1, .slice A1 k1 c1, .bool g2, .slice A2 k2 c2, .bool g3, .slice A3 k3 c3, .slice B m e] ∧ RdSn w (.agg #[.bool g0, .slice A0 k0 c0, .bool g1, .slice A1 k1 c1, .bool g2, .slice A2 k2 c2, .bool g3, .slice A3 k3 c3, .slice B m e]) n0 n1 n2 n3 d := by
 obtain ⟨g0, g1, g2, g3, s0, s1, s2, s3, t, rfl, h0, h1, h2, h3, h4⟩ := h
 obtain ⟨_, _, _, rfl⟩ := h0.shape
 obtain ⟨_, _, _, rfl⟩ := h1.shape
 obtain ⟨_, _, _, rfl⟩ := h2.shape
 obtain ⟨_, _, _, rfl⟩ := h3.shape
 obtain ⟨_, _, _, rfl⟩ := h4.slice
 exact ⟨_, _, _, _, _, _, _, _, _, _, _, _, _, _, _, _, _, _, _, rfl, _, _, _, _, _, _, _, _, _, rfl, h0, h1, h2, h3, h4⟩
theorem RdA.parts {w : World} {g0 g1 g2 g3 : Bool} {s0 s1 s2 s3 : Value} {n0 n1 n2 n3 : Int} (h : RdA w (.agg #[.bool g0, s0, .bool g1, s1, .bool g2, s2, .bool g3, s3]) n0 n1 n2 n3) :
  RdZ w (.agg #[.bool g0, s0]) n0 ∧ RdZ w (.agg #[.bool g1, s1]) n1 ∧ RdZ w (.agg #[.bool g2, s2]) n2 ∧ RdZ w (.agg #[.bool g3, s3]) n3 := by
 obtain ⟨a0, a1, a2, a3, b0, b1, b2, b3, e, h⟩ := h
 injection e with e; injection e with e; simp at e
 obtain ⟨rfl, rfl, rfl, rfl, rfl, rfl, rfl, rfl⟩ := e
 exact h
theorem RdSn.parts {w : World} {g0 g1 g2 g3 : Bool} {s0 s1 s2 s3 t : Value} {n0 n1 n2 n3 : Int} {d : Nat} (h : RdSn w (.agg #[.bool g0, s0, .bool g1, s1, .bool g2, s2, .bool g3, s3, t]) n0 n1 n2 n3 d) :
  RdZ w (.agg #[.bool g0, s0]) n0 ∧ RdZ w (.agg #[.bool g1, s1]) n1 ∧ RdZ w (.agg #[.bool g2, s2]) n2 ∧ RdZ w (.agg #[.bool g3, s3]) n3 ∧ RdN w t (den1 d) := by
 obtain ⟨a0, a1, a2, a3, b0, b1, b2, b3, c, e, h⟩ := h
 injection e with e; injection e with e; simp at e
 obtain ⟨rfl, rfl, rfl, rfl, rfl, rfl, rfl, rfl, rfl⟩ := e
 exact h
theorem RdA.z0 {w : World} {g0 g1 g2 g3 : Bool} {s0 s1 s2 s3 : Value} {n0 n1 n2 n3 : Int} (h : RdA w (.agg #[.bool g0, s0, .bool g1, s1, .bool g2, s2, .bool g3, s3]) n0 n1 n2 n3) : RdZ w (.agg #[.bool g0, s0]) n0 := h.parts.1
theorem RdA.z1 {w : World} {g0 g1 g2 g3 : Bool} {s0 s1 s2 s3 : Value} {n0 n1 n2 n3 : Int} (h : RdA w (.agg #[.bool g0, s0, .bool g1, s1, .bool g2, s2, .bool g3, s3]) n0 n1 n2 n3) : RdZ w (.agg #[.bool g1, s1]) n1 := h.parts.2.1
theorem RdA.z2 {w : World} {g0 g1 g2 g3 : Bool} {s0 s1 s2 s3 : Value} {n0 n1 n2 n3 : Int} (h : RdA w (.agg #[.bool g0, s0, .bool g1, s1, .bool g2, s2, .bool g3, s3]) n0 n1 n2 n3) : RdZ w (.agg #[.bool g2, s2]) n2 := h.parts.2.2.1
theorem RdA.z3 {w : World} {g0 g1 g2 g3 : Bool} {s0 s1 s2 s3 : Value} {n0 n1 n2 n3 : Int} (h : RdA w (.agg #[.bool g0, s0, .bool g1, s1, .bool g2, s2, .bool g3, s3]) n0 n1 n2 n3) : RdZ w (.agg #[.bool g3, s3]) n3 := h.parts.2.2.2
theorem RdSn.z0 {w : World} {g0 g1 g2 g3 : Bool} {s0 s1 s2 s3 t : Value} {n0 n1 n2 n3 : Int} {d : Nat} (h : RdSn w (.agg #[.bool g0, s0, .bool g1, s1, .bool g2, s2, .bool g3, s3, t]) n0 n1 n2 n3 d) : RdZ w (.agg #[.bool g0, s0]) n0 := h.parts.1
theorem RdSn.z1 {w : World} {g0 g1 g2 g3 : Bool} {s0 s1 s2 s3 t : Value} {n0 n1 n2 n3 : Int} {d : Nat} (h : RdSn w (.agg #[.bool g0, s0, .bool g1, s1, .bool g2, s2, .bool g3, s3, t]) n0 n1 n2 n3 d) : RdZ w (.agg #[.bool g1, s1]) n1 := h.parts.2.1
theorem RdSn.z2 {w : World} {g0 g1 g2 g3 : Bool} {s0 s1 s2 s3 t : Value} {n0 n1 n2 n3 : Int} {d : Nat} (h : RdSn w (.agg #[.bool g0, s0, .bool g1, s1, .bool g2, s2, .bool g3, s3, t]) n0 n1 n2 n3 d) : RdZ w (.agg #[.bool g2, s2]) n2 := h.parts.2.2.1
theorem RdSn.z3 {w : World} {g0 g1 g2 g3 : Bool} {s0 s1 s2 s3 t : Value} {n0 n1 n2 n3 : Int} {d : Nat} (h : RdSn w (.agg #[.bool g0, s0, .bool g1, s1, .bool g2, s2, .bool g3, s3, t]) n0 n1 n2 n3 d) : RdZ w (.agg #[.bool g3, s3]) n3 := h.parts.2.2.2.1
theorem RdSn.den {w : World} {g0 g1 g2 g3 : Bool} {s0 s1 s2 s3 t : Value} {n0 n1 n2 n3 : Int} {d : Nat} (h : RdSn w (.agg #[.bool g0, s0, .bool g1, s1, .bool g2, s2, .bool g3, s3, t]) n0 n1 n2 n3 d) : RdN w t (den1 d) := h.parts.2.2.2.2
theorem RdA.mk {w : World} {g0 g1 g2 g3 : Bool} {s0 s1 s2 s3 : Value} {n0 n1 n2 n3 : Int} (h0 : RdZ w (.agg #[.bool g0, s0]) n0) (h1 : RdZ w (.agg #[.bool g1, s1]) n1) (h2 : RdZ w (.agg #[.bool g2, s2]) n2) (h3 : RdZ w (.agg #[.bool g3, s3]) n3) :
  RdA w (.agg #[.bool g0, s0, .bool g1, s1, .bool g2, s2, .bool g3, s3]) n0 n1 n2 n3 := ⟨_, _, _, _, _, _, _, _, rfl, h0, h1, h2, h3⟩
theorem RdSn.mk {w : World} {g0 g1 g2 g3 : Bool} {s0 s1 s2 s3 t : Value} {n0 n1 n2 n3 : Int} {d : Nat} (h0 : RdZ w (.agg #[.bool g0, s0]) n0) (h1 : RdZ w (.agg #[.bool g1, s1]) n1) (h2 : RdZ w (.agg #[.bool g2, s2]) n2) (h3 : RdZ w (.agg #[.bool g3, s3]) n3) (h4 : RdN w t (den1 d)) :
  RdSn w (.agg #[.bool g0, s0, .bool g1, s1, .bool g2, s2, .bool g3, s3, t]) n0 n1 n2 n3 d := ⟨_, _, _, _, _, _, _, _, _, rfl, h0, h1, h2, h3, h4⟩
theorem RdN.nil0 (w : World) : RdN w (.slice none 0 0) 0 := by
 unfold RdN RdW
 rw [digs_zero]
 exact ⟨none, 0, rfl, Nat.le_refl _, by unfold maxLen; omega, fun h => absurd rfl h⟩
theorem RdZ.nil0 (w : World) : RdZ w (.agg #[.bool false, .slice none 0 0]) 0 := .mk rfl (RdN.nil0 w)
theorem den1_ne {d : Nat} (h : d ≠ 1) : den1 d = d := if_neg h
def Sx (x : S4) (n0 n1 n2 n3 : Int) (d K : Nat) : Prop := d ≠ 0 ∧ (x.a * d = n0 ∧ x.b * d = n1 ∧ x.c * d = n2 ∧ x.e * d = n3) ∧ (dl n0.natAbs ≤ K ∧ dl n1.natAbs ≤ K ∧ dl n2.natAbs ≤ K ∧ dl n3.natAbs ≤ K) ∧ dl d ≤ K
def RdS (w : World) (v : Value) (x : S4) (K : Nat) : Prop := ∃ n0 n1 n2 n3 d, RdSn w v n0 n1 n2 n3 d ∧ Sx x n0 n1 n2 n3 d K
theorem RdS.wd {w w' : World} {v : Value} {x : S4} {K : Nat} (h : RdS w v x K) (hw : Wd w w') : RdS w' v x K := by
 obtain ⟨n0, n1, n2, n3, d, h1, h2⟩ := h
 exact ⟨_, _, _, _, _, h1.wd hw, h2⟩
theorem Sx.mono {x : S4} {n0 n1 n2 n3 : Int} {d K L : Nat} (h : Sx x n0 n1 n2 n3 d K) (hl : K ≤ L) : Sx x n0 n1 n2 n3 d L := by
 obtain ⟨h1, h2, ⟨a, b, c, e⟩, f⟩ := h
 exact ⟨h1, h2, ⟨by omega, by omega, by omega, by omega⟩, by omega⟩
theorem RdS.mono {w : World} {v : Value} {x : S4} {K L : Nat} (h : RdS w v x K) (hl : K ≤ L) : RdS w v x L := by
 obtain ⟨n0, n1, n2, n3, d, h1, h2⟩ := h
 exact ⟨_, _, _, _, _, h1, h2.mono hl⟩
theorem RdS.open {w : World} {v : Value} {x : S4} {K : Nat} (h : RdS w v x K) : ∃ g0 A0 k0 c0 g1 A1 k1 c1 g2 A2 k2 c2 g3 A3 k3 c3 B m e,
  v = .agg #[.bool g0, .slice A0 k0 c0, .bool g1, .slice A1 k1 c1, .bool g2, .slice A2 k2 c2, .bool g3, .slice A3 k3 c3, .slice B m e] ∧ RdS w (.agg #[.bool g0, .slice A0 k0 c0, .bool g1, .slice A1 k1 c1, .bool g2, .slice A2 k2 c2, .bool g3, .slice A3 k3 c3, .slice B m e]) x K := by
 obtain ⟨n0, n1, n2, n3, d, h1, h2⟩ := h
 obtain ⟨g0, A0, k0, c0, g1, A1, k1, c1, g2, A2, k2, c2, g3, A3, k3, c3, B, m, e, rfl, h1⟩ := h1.open
 exact ⟨_, _, _, _, _, _, _, _, _, _, _, _, _, _, _, _, _, _, _, rfl, _, _, _, _, _, h1, h2⟩
theorem div_part {q : Rat} {z : Int} {d g : Nat} (hg : g ≠ 0) (hd : g ∣ d) (hz : (g : Int) ∣ z) (h : q * d = z) : q * ((d / g : Nat) : Rat) = ((z / g : Int) : Rat) := by
 obtain ⟨d', rfl⟩ := hd
 obtain ⟨z', rfl⟩ := hz
 rw [Nat.mul_div_cancel_left _ (Nat.pos_of_ne_zero hg), Int.mul_ediv_cancel_left _ (by omega)]
 rw [Rat.natCast_mul, Rat.intCast_mul, Rat.intCast_natCast] at h
 have : (g : Rat) ≠ 0 := fun e => hg (by exact_mod_cast e)
 grind
theorem ediv_abs {z : Int} {g : Nat} (hz : (g : Int) ∣ z) : (z / g).natAbs = z.natAbs / g := by
 rw [Int.natAbs_ediv_of_dvd hz, Int.natAbs_natCast]
theorem ediv_sign {z : Int} {g : Nat} (hg : g ≠ 0) (hz : (g : Int) ∣ z) : decide (z / g < 0) = decide (z < 0) := by
 obtain ⟨z', rfl⟩ := hz
 rw [Int.mul_ediv_cancel_left _ (by omega), Bool.eq_iff_iff, decide_eq_true_iff, decide_eq_true_iff]
 constructor
 ·intro h; exact Int.mul_neg_of_pos_of_neg (by omega) h
 ·intro h; refine Int.not_le.1 fun h2 => ?_; have := Int.mul_nonneg (a := (g : Int)) (by omega) h2; omega
theorem Sx.div {x : S4} {z0 z1 z2 z3 : Int} {d K g : Nat} (h : Sx x z0 z1 z2 z3 d K) (hg : g ≠ 0) (hd : g ∣ d) (h0 : (g : Int) ∣ z0) (h1 : (g : Int) ∣ z1) (h2 : (g : Int) ∣ z2) (h3 : (g : Int) ∣ z3) : Sx x (z0 / g) (z1 / g) (z2 / g) (z3 / g) (d / g) K := by
 obtain ⟨k0, ⟨a, b, c, e⟩, ⟨p, q, r, s⟩, t⟩ := h
 refine ⟨fun hz => ?_, ⟨div_part hg hd h0 a, div_part hg hd h1 b, div_part hg hd h2 c, div_part hg hd h3 e⟩, ⟨?_, ?_, ?_, ?_⟩, ?_⟩
 ·obtain ⟨d', rfl⟩ := hd
  rw [Nat.mul_div_cancel_left _ (Nat.pos_of_ne_zero hg)] at hz
  exact k0 (by rw [hz]; rfl)
 ·rw [ediv_abs h0]; exact Nat.le_trans (dl_mono (Nat.div_le_self _ _)) p
 ·rw [ediv_abs h1]; exact Nat.le_trans (dl_mono (Nat.div_le_self _ _)) q
 ·rw [ediv_abs h2]; exact Nat.le_trans (dl_mono (Nat.div_le_self _ _)) r
 ·rw [ediv_abs h3]; exact Nat.le_trans (dl_mono (Nat.div_le_self _ _)) s
 ·exact Nat.le_trans (dl_mono (Nat.div_le_self _ _)) t
theorem RdZ.div {w : World} {g0 : Bool} {s s' : Value} {z : Int} {g : Nat} (h : RdZ w (.agg #[.bool g0, s]) z) (hg : g ≠ 0) (hz : (g : Int) ∣ z) (hs : RdN w s' (z.natAbs / g)) : RdZ w (.agg #[.bool g0, s']) (z / g) :=
 .mk (by rw [ediv_sign hg hz]; exact h.sign) (by rw [ediv_abs hz]; exact hs)
theorem isOne_yes (v : Value) (n : Nat) (w : World) (h : RdN w v n) (h1 : n = 1) :
  Calls Tryz.prog 226 #[v] w fun e w' => e = .returned (.bool true) ∧ w = w' := by
 have := isOne_any v n w h
 rwa [decide_eq_true h1] at this
theorem isOne_no (v : Value) (n : Nat) (w : World) (h : RdN w v n) (h1 : n ≠ 1) :
  Calls Tryz.prog 226 #[v] w fun e w' => e = .returned (.bool false) ∧ w = w' := by
 have := isOne_any v n w h
 rwa [decide_eq_false h1] at this
theorem divPair (va vb : Value) (m n : Nat) (w : World) (hP : RdN w va m) (hQ : RdN w vb n) (hn0 : n ≠ 0) (hm6 : dl m ≤ 900000) (hn6 : dl n ≤ 900000) :
  Calls Tryz.prog 227 #[va, vb] w fun e w' => (∃ v1 v2, e = .returned (.tuple #[v1, v2]) ∧ RdN w' v1 (m / n) ∧ RdN w' v2 (m % n)) ∧ Below w.heap.size w w' :=
 (divide_any va vb m n w hP hQ hn0 hm6 hn6).mono fun e w' ⟨v1, v2, h1, h2, h3, h4⟩ => ⟨⟨v1, v2, h1, h2, h3⟩, h4⟩
instance wdRdA (w w' : World) (v : Value) (a b c d : Int) : WdSt (RdA w v a b c d) w w' (RdA w' v a b c d) := ⟨fun hT h => h.wd hT⟩
instance wdRdSn (w w' : World) (v : Value) (a b c d : Int) (e : Nat) : WdSt (RdSn w v a b c d e) w w' (RdSn w' v a b c d e) := ⟨fun hT h => h.wd hT⟩
instance wdRdS (w w' : World) (v : Value) (x : S4) (K : Nat) : WdSt (RdS w v x K) w w' (RdS w' v x K) := ⟨fun hT h => h.wd hT⟩
end Go.Proofs.YtodckaioeomccaaGreat
namespace Go.Proofs.YtodckaioeomccaaGreat
open Go.RowKit Go.Proofs.S4P
set_option linter.unusedVariables false
set_option linter.unusedSimpArgs false
set_option maxRecDepth 100000
set_option maxHeartbeats 4000000
def gAll (z0 z1 z2 z3 : Int) (d : Nat) : Nat := Nat.gcd (Nat.gcd (Nat.gcd (Nat.gcd d z0.natAbs) z1.natAbs) z2.natAbs) z3.natAbs
theorem gAll_dvd (z0 z1 z2 z3 : Int) (d : Nat) : gAll z0 z1 z2 z3 d ∣ d ∧ ((gAll z0 z1 z2 z3 d : Nat) : Int) ∣ z0 ∧ ((gAll z0 z1 z2 z3 d : Nat) : Int) ∣ z1 ∧ ((gAll z0 z1 z2 z3 d : Nat) : Int) ∣ z2 ∧ ((gAll z0 z1 z2 z3 d : Nat) : Int) ∣ z3 := by
 unfold gAll
 have a3 := Nat.gcd_dvd_left (Nat.gcd (Nat.gcd (Nat.gcd d z0.natAbs) z1.natAbs) z2.natAbs) z3.natAbs
 have b3 := Nat.gcd_dvd_right (Nat.gcd (Nat.gcd (Nat.gcd d z0.natAbs) z1.natAbs) z2.natAbs) z3.natAbs
 have a2 := Nat.gcd_dvd_left (Nat.gcd (Nat.gcd d z0.natAbs) z1.natAbs) z2.natAbs
 have b2 := Nat.gcd_dvd_right (Nat.gcd (Nat.gcd d z0.natAbs) z1.natAbs) z2.natAbs
 have a1 := Nat.gcd_dvd_left (Nat.gcd d z0.natAbs) z1.natAbs
 have b1 := Nat.gcd_dvd_right (Nat.gcd d z0.natAbs) z1.natAbs
 have a0 := Nat.gcd_dvd_left d z0.natAbs
 have b0 := Nat.gcd_dvd_right d z0.natAbs
 exact ⟨Nat.dvd_trans (Nat.dvd_trans (Nat.dvd_trans a3 a2) a1) a0, Int.ofNat_dvd_left.2 (Nat.dvd_trans (Nat.dvd_trans (Nat.dvd_trans a3 a2) a1) b0), Int.ofNat_dvd_left.2 (Nat.dvd_trans (Nat.dvd_trans a3 a2) b1), Int.ofNat_dvd_left.2 (Nat.dvd_trans a3 b2), Int.ofNat_dvd_left.2 b3⟩
theorem gcd_dl {m n K : Nat} (hm : m ≠ 0) (h : dl m ≤ K) : dl (Nat.gcd m n) ≤ K ∧ Nat.gcd m n ≠ 0 := ⟨Nat.le_trans (dl_mono (Nat.le_of_dvd (Nat.pos_of_ne_zero hm) (Nat.gcd_dvd_left _ _))) h, fun e => hm (Nat.eq_zero_of_gcd_eq_zero_left e)⟩
theorem surd_gd (v vd : Value) (x : S4) (z0 z1 z2 z3 : Int) (d K : Nat) (w : World) (hv : RdA w v z0 z1 z2 z3) (hd : RdN w vd d) (hx : Sx x z0 z1 z2 z3 d K) (hK : K ≤ 800000) (hg : gAll z0 z1 z2 z3 d = 1) (h1 : d = 1) :
  Calls Tryz.prog 205 #[v, vd] w fun e w' => (∃ v', e = .returned v' ∧ RdS w' v' x K) ∧ Below w.heap.size w w' := by
 have HSX := h0d hx
 have HK := h0d hK
 have HG : Hid ((dl (Nat.gcd d z0.natAbs) ≤ K ∧ Nat.gcd d z0.natAbs ≠ 0) ∧ (dl (Nat.gcd (Nat.gcd d z0.natAbs) z1.natAbs) ≤ K ∧ Nat.gcd (Nat.gcd d z0.natAbs) z1.natAbs ≠ 0) ∧ (dl (Nat.gcd (Nat.gcd (Nat.gcd d z0.natAbs) z1.natAbs) z2.natAbs) ≤ K ∧ Nat.gcd (Nat.gcd (Nat.gcd d z0.natAbs) z1.natAbs) z2.natAbs ≠ 0) ∧ dl (gAll z0 z1 z2 z3 d) ≤ K ∧ gAll z0 z1 z2 z3 d ≠ 0) := by
  have e0 := gcd_dl (n := z0.natAbs) hx.1 hx.2.2.2
  have e1 := gcd_dl (n := z1.natAbs) e0.2 e0.1
  have e2 := gcd_dl (n := z2.natAbs) e1.2 e1.1
  have e3 := gcd_dl (n := z3.natAbs) e2.2 e2.1
  exact ⟨e0, e1, e2, e3.1, e3.2⟩
 have HDV := h0d (gAll_dvd z0 z1 z2 z3 d)
 have HG1 := h0d hg
 have HD1 := h0d h1
 clear hx hg h1
 obtain ⟨gp0a, Ap0a, kp0a, cp0a, gp0b, Ap0b, kp0b, cp0b, gp0c, Ap0c, kp0c, cp0c, gp0d, Ap0d, kp0d, cp0d, rfl, hv⟩ := hv.open
 have HX0 := h0d hv
 clear hv
 obtain ⟨Ap1, kp1, cp1, rfl, hd⟩ := hd.open
 have HX1 := h0d hd
 clear hd
 go_enter Tryz.func205, Tryz.ntmps205
 obtain ⟨W1, HW1, HB2, s1w, j1⟩ := st_al0 w #[.bool gp0a, .slice Ap0a kp0a cp0a, .bool gp0b, .slice Ap0b kp0b cp0b, .bool gp0c, .slice Ap0c kp0c cp0c, .bool gp0d, .slice Ap0d kp0d cp0d] 28
 have HBw := h0d j1
 obtain ⟨W3, HW3, HB4, s3w, j2⟩ := st_alk 1 2 #[.bool false, .slice none 0 0, .bool false, .slice none 0 0, .bool false, .slice none 0 0, .bool false, .slice none 0 0, .slice none 0 0] 30 s1w rfl
 have l4b : Hid (w.heap.size ≤ w.heap.size + 1) := by show _ ≤ _; omega
 go_wp2_with fail
 rw [← HW1.out, ← HW3.out]
 refine wp_loop_rounds 5 ?_
 rw [rounds_succ]
 have ix5 : ∀ w, (Instr.index 28 (.agg #[.bool gp0a, .slice Ap0a kp0a cp0a, .bool gp0b, .slice Ap0b kp0b cp0b, .bool gp0c, .slice Ap0c kp0c cp0c, .bool gp0d, .slice Ap0d kp0d cp0d]) (.int .i64 0)).run Tryz.prog w = .ok (.agg #[.bool gp0a, .slice Ap0a kp0a cp0a]) w := fun _ => by kernel_rfl
 obtain ⟨W6, HW6, HB7, s6w, j3⟩ := st_al0 W3 #[.bool gp0a, .slice Ap0a kp0a cp0a] 27
 go_wp2_with fail
 rw [← HW6.out]
 clear ix5
 have jm1 := tt j2 j3
 replace HBw := kU HBw jm1
 replace HX1 := kV HBw.out HX1
 replace HX0 := kV HBw.out HX0
 refine mN (gcd_any _ _ d z0.natAbs _ HX1.out HX0.out.z0.abs (by have := HSX.out.2.2.2; omega) (by have := HSX.out.2.2.1.1; omega)) fun w1 A1 k1 c1 HR1 j1c => ?_
 go_wp2_with fail
 rw [rounds_succ]
 have ix8 : ∀ w, (Instr.index 28 (.agg #[.bool gp0a, .slice Ap0a kp0a cp0a, .bool gp0b, .slice Ap0b kp0b cp0b, .bool gp0c, .slice Ap0c kp0c cp0c, .bool gp0d, .slice Ap0d kp0d cp0d]) (.int .i64 1)).run Tryz.prog w = .ok (.agg #[.bool gp0b, .slice Ap0b kp0b cp0b]) w := fun _ => by kernel_rfl
 obtain ⟨W9, HW9, HB10, s9w, j4⟩ := st_al0 w1 #[.bool gp0b, .slice Ap0b kp0b cp0b] 27
 go_wp2_with fail
 rw [← HW9.out]
 clear ix8
 replace HR1 := kV j4 HR1
 have jm2 := tt j1c j4
 replace HX0 := kV jm2 HX0
 refine mN (gcd_any _ _ _ z1.natAbs _ HR1.out HX0.out.z1.abs (by have := HG.out.1.1; omega) (by have := HSX.out.2.2.1.2.1; omega)) fun w2 A2 k2 c2 HR2 j2c => ?_
 go_wp2_with fail
 rw [rounds_succ]
 have ix11 : ∀ w, (Instr.index 28 (.agg #[.bool gp0a, .slice Ap0a kp0a cp0a, .bool gp0b, .slice Ap0b kp0b cp0b, .bool gp0c, .slice Ap0c kp0c cp0c, .bool gp0d, .slice Ap0d kp0d cp0d]) (.int .i64 2)).run Tryz.prog w = .ok (.agg #[.bool gp0c, .slice Ap0c kp0c cp0c]) w := fun _ => by kernel_rfl
 obtain ⟨W12, HW12, HB13, s12w, j5⟩ := st_al0 w2 #[.bool gp0c, .slice Ap0c kp0c cp0c] 27
 go_wp2_with fail
 rw [← HW12.out]
 clear ix11
 replace HR2 := kV j5 HR2
 have jm3 := tt j2c j5
 replace HX0 := kV jm3 HX0
 refine mN (gcd_any _ _ _ z2.natAbs _ HR2.out HX0.out.z2.abs (by have := HG.out.2.1.1; omega) (by have := HSX.out.2.2.1.2.2.1; omega)) fun w3 A3 k3 c3 HR3 j3c => ?_
 go_wp2_with fail
 rw [rounds_succ]
 have ix14 : ∀ w, (Instr.index 28 (.agg #[.bool gp0a, .slice Ap0a kp0a cp0a, .bool gp0b, .slice Ap0b kp0b cp0b, .bool gp0c, .slice Ap0c kp0c cp0c, .bool gp0d, .slice Ap0d kp0d cp0d]) (.int .i64 3)).run Tryz.prog w = .ok (.agg #[.bool gp0d, .slice Ap0d kp0d cp0d]) w := fun _ => by kernel_rfl
 obtain ⟨W15, HW15, HB16, s15w, j6⟩ := st_al0 w3 #[.bool gp0d, .slice Ap0d kp0d cp0d] 27
 go_wp2_with fail
 rw [← HW15.out]
 clear ix14
 replace HR3 := kV j6 HR3
 have jm4 := tt j3c j6
 replace HX0 := kV jm4 HX0
 refine mN (gcd_any _ _ _ z3.natAbs _ HR3.out HX0.out.z3.abs (by have := HG.out.2.2.1.1; omega) (by have := HSX.out.2.2.1.2.2.2; omega)) fun w4 A4 k4 c4 HR4 j4c => ?_
 go_wp2_with fail
 rw [rounds_succ]
 go_wp2_with fail
 refine (isOne_yes _ (gAll z0 z1 z2 z3 d) _ HR4.out HG1.out).mono ?_
 rintro e w5 ⟨rfl, rfl⟩
 go_wp2_with fail
 have jm5 := tt (tt (tt (tt (tt jm2 j2c) j5) j3c) j6) j4c
 replace HX1 := kV jm5 HX1
 refine (isOne_yes _ d _ HX1.out HD1.out).mono ?_
 rintro e w6 ⟨rfl, rfl⟩
 have jm6 := tt (tt (tt (tt (tt (tt (tt jm1 j1c) j4) j2c) j5) j3c) j6) j4c
 replace HB2 := kB HB2 jm6
 have c17 := kC HB2 0 rfl
 have c18 := kC HB2 1 rfl
 have c19 := kC HB2 2 rfl
 have c20 := kC HB2 3 rfl
 have c21 := kC HB2 4 rfl
 have c22 := kC HB2 5 rfl
 have c23 := kC HB2 6 rfl
 have c24 := kC HB2 7 rfl
 have jm7 := tt j3 jm5
 replace HB4 := kB HB4 jm7
 have c25 := kC HB4 0 rfl
 have c26 := kF HB4 0
 have c27 := kC HB4 1 rfl
 have c28 := kF HB4 1
 have c29 := kC HB4 2 rfl
 have c30 := kF HB4 2
 have c31 := kC HB4 3 rfl
 have c32 := kF HB4 3
 have c33 := kC HB4 4 rfl
 have c34 := kF HB4 4
 have c35 := kC HB4 5 rfl
 have c36 := kF HB4 5
 have c37 := kC HB4 6 rfl
 have c38 := kF HB4 6
 have c39 := kC HB4 7 rfl
 have c40 := kF HB4 7
 have c41 := kC HB4 8 rfl
 have c42 := kF HB4 8
 obtain ⟨W43, HW43⟩ : ∃ W, Hid (W = (((((((((w4.setCell ⟨w.heap.size + 1, 0, none⟩ (.bool gp0a)).setCell ⟨w.heap.size + 1, 1, none⟩ (.slice Ap0a kp0a cp0a)).setCell ⟨w.heap.size + 1, 2, none⟩ (.bool gp0b)).setCell ⟨w.heap.size + 1, 3, none⟩ (.slice Ap0b kp0b cp0b)).setCell ⟨w.heap.size + 1, 4, none⟩ (.bool gp0c)).setCell ⟨w.heap.size + 1, 5, none⟩ (.slice Ap0c kp0c cp0c)).setCell ⟨w.heap.size + 1, 6, none⟩ (.bool gp0d)).setCell ⟨w.heap.size + 1, 7, none⟩ (.slice Ap0d kp0d cp0d)).setCell ⟨w.heap.size + 1, 8, none⟩ (.slice none 0 0))) := ⟨_, rfl⟩
 have SW43 : Hid (W43 = setsW w4 (w.heap.size + 1) 0 [.bool gp0a, .slice Ap0a kp0a cp0a, .bool gp0b, .slice Ap0b kp0b cp0b, .bool gp0c, .slice Ap0c kp0c cp0c, .bool gp0d, .slice Ap0d kp0d cp0d, .slice none 0 0]) := HW43.out
 have TW43 := kN (SW43.out) HB4 rfl rfl
 replace HB4 := kP (ds := [.bool gp0a, .slice Ap0a kp0a cp0a, .bool gp0b, .slice Ap0b kp0b cp0b, .bool gp0c, .slice Ap0c kp0c cp0c, .bool gp0d, .slice Ap0d kp0d cp0d, .slice none 0 0]) (SW43.out) HB4 rfl rfl
 go_wp2_with fail
 rw [← HW43.out]
 clear c17 c18 c19 c20 c21 c22 c23 c24 c25 c26 c27 c28 c29 c30 c31 c32 c33 c34 c35 c36 c37 c38 c39 c40 c41 c42
 have c44 := kC HB4 0 rfl
 have c45 := kC HB4 1 rfl
 have c46 := kC HB4 2 rfl
 have c47 := kC HB4 3 rfl
 have c48 := kC HB4 4 rfl
 have c49 := kC HB4 5 rfl
 have c50 := kC HB4 6 rfl
 have c51 := kC HB4 7 rfl
 have c52 := kC HB4 8 rfl
 replace HX0 := kW TW43 (kV j4c HX0)
 replace HBw := kS (SW43.out) l4b (kU HBw jm5)
 exact bodyPost_ret (v := .agg #[.bool gp0a, .slice Ap0a kp0a cp0a, .bool gp0b, .slice Ap0b kp0b cp0b, .bool gp0c, .slice Ap0c kp0c cp0c, .bool gp0d, .slice Ap0d kp0d cp0d, .slice none 0 0]) (by simp [results, Tryz.results205, go_sem, c44, c45, c46, c47, c48, c49, c50, c51, c52]) rfl ⟨⟨_, rfl, (show RdS _ _ x K from ⟨z0, z1, z2, z3, d, RdSn.mk HX0.out.z0 HX0.out.z1 HX0.out.z2 HX0.out.z3 (by rw [HD1.out]; exact RdN.nil0 _), HSX.out⟩)⟩, HBw.out⟩
theorem surd_gn (v vd : Value) (x : S4) (z0 z1 z2 z3 : Int) (d K : Nat) (w : World) (hv : RdA w v z0 z1 z2 z3) (hd : RdN w vd d) (hx : Sx x z0 z1 z2 z3 d K) (hK : K ≤ 800000) (hg : gAll z0 z1 z2 z3 d = 1) (h1 : d ≠ 1) :
  Calls Tryz.prog 205 #[v, vd] w fun e w' => (∃ v', e = .returned v' ∧ RdS w' v' x K) ∧ Below w.heap.size w w' := by
 have HSX := h0d hx
 have HK := h0d hK
 have HG : Hid ((dl (Nat.gcd d z0.natAbs) ≤ K ∧ Nat.gcd d z0.natAbs ≠ 0) ∧ (dl (Nat.gcd (Nat.gcd d z0.natAbs) z1.natAbs) ≤ K ∧ Nat.gcd (Nat.gcd d z0.natAbs) z1.natAbs ≠ 0) ∧ (dl (Nat.gcd (Nat.gcd (Nat.gcd d z0.natAbs) z1.natAbs) z2.natAbs) ≤ K ∧ Nat.gcd (Nat.gcd (Nat.gcd d z0.natAbs) z1.natAbs) z2.natAbs ≠ 0) ∧ dl (gAll z0 z1 z2 z3 d) ≤ K ∧ gAll z0 z1 z2 z3 d ≠ 0) := by
  have e0 := gcd_dl (n := z0.natAbs) hx.1 hx.2.2.2
  have e1 := gcd_dl (n := z1.natAbs) e0.2 e0.1
  have e2 := gcd_dl (n := z2.natAbs) e1.2 e1.1
  have e3 := gcd_dl (n := z3.natAbs) e2.2 e2.1
  exact ⟨e0, e1, e2, e3.1, e3.2⟩
 have HDV := h0d (gAll_dvd z0 z1 z2 z3 d)
 have HG1 := h0d hg
 have HD1 := h0d h1
 clear hx hg h1
 obtain ⟨gp0a, Ap0a, kp0a, cp0a, gp0b, Ap0b, kp0b, cp0b, gp0c, Ap0c, kp0c, cp0c, gp0d, Ap0d, kp0d, cp0d, rfl, hv⟩ := hv.open
 have HX0 := h0d hv
 clear hv
 obtain ⟨Ap1, kp1, cp1, rfl, hd⟩ := hd.open
 have HX1 := h0d hd
 clear hd
 go_enter Tryz.func205, Tryz.ntmps205
 obtain ⟨W1, HW1, HB2, s1w, j1⟩ := st_al0 w #[.bool gp0a, .slice Ap0a kp0a cp0a, .bool gp0b, .slice Ap0b kp0b cp0b, .bool gp0c, .slice Ap0c kp0c cp0c, .bool gp0d, .slice Ap0d kp0d cp0d] 28
 have HBw := h0d j1
 obtain ⟨W3, HW3, HB4, s3w, j2⟩ := st_alk 1 2 #[.bool false, .slice none 0 0, .bool false, .slice none 0 0, .bool false, .slice none 0 0, .bool false, .slice none 0 0, .slice none 0 0] 30 s1w rfl
 have l4b : Hid (w.heap.size ≤ w.heap.size + 1) := by show _ ≤ _; omega
 go_wp2_with fail
 rw [← HW1.out, ← HW3.out]
 refine wp_loop_rounds 5 ?_
 rw [rounds_succ]
 have ix5 : ∀ w, (Instr.index 28 (.agg #[.bool gp0a, .slice Ap0a kp0a cp0a, .bool gp0b, .slice Ap0b kp0b cp0b, .bool gp0c, .slice Ap0c kp0c cp0c, .bool gp0d, .slice Ap0d kp0d cp0d]) (.int .i64 0)).run Tryz.prog w = .ok (.agg #[.bool gp0a, .slice Ap0a kp0a cp0a]) w := fun _ => by kernel_rfl
 obtain ⟨W6, HW6, HB7, s6w, j3⟩ := st_al0 W3 #[.bool gp0a, .slice Ap0a kp0a cp0a] 27
 go_wp2_with fail
 rw [← HW6.out]
 clear ix5
 have jm1 := tt j2 j3
 replace HBw := kU HBw jm1
 replace HX1 := kV HBw.out HX1
 replace HX0 := kV HBw.out HX0
 refine mN (gcd_any _ _ d z0.natAbs _ HX1.out HX0.out.z0.abs (by have := HSX.out.2.2.2; omega) (by have := HSX.out.2.2.1.1; omega)) fun w1 A1 k1 c1 HR1 j1c => ?_
 go_wp2_with fail
 rw [rounds_succ]
 have ix8 : ∀ w, (Instr.index 28 (.agg #[.bool gp0a, .slice Ap0a kp0a cp0a, .bool gp0b, .slice Ap0b kp0b cp0b, .bool gp0c, .slice Ap0c kp0c cp0c, .bool gp0d, .slice Ap0d kp0d cp0d]) (.int .i64 1)).run Tryz.prog w = .ok (.agg #[.bool gp0b, .slice Ap0b kp0b cp0b]) w := fun _ => by kernel_rfl
 obtain ⟨W9, HW9, HB10, s9w, j4⟩ := st_al0 w1 #[.bool gp0b, .slice Ap0b kp0b cp0b] 27
 go_wp2_with fail
 rw [← HW9.out]
 clear ix8
 replace HR1 := kV j4 HR1
 have jm2 := tt j1c j4
 replace HX0 := kV jm2 HX0
 refine mN (gcd_any _ _ _ z1.natAbs _ HR1.out HX0.out.z1.abs (by have := HG.out.1.1; omega) (by have := HSX.out.2.2.1.2.1; omega)) fun w2 A2 k2 c2 HR2 j2c => ?_
 go_wp2_with fail
 rw [rounds_succ]
 have ix11 : ∀ w, (Instr.index 28 (.agg #[.bool gp0a, .slice Ap0a kp0a cp0a, .bool gp0b, .slice Ap0b kp0b cp0b, .bool gp0c, .slice Ap0c kp0c cp0c, .bool gp0d, .slice Ap0d kp0d cp0d]) (.int .i64 2)).run Tryz.prog w = .ok (.agg #[.bool gp0c, .slice Ap0c kp0c cp0c]) w := fun _ => by kernel_rfl
 obtain ⟨W12, HW12, HB13, s12w, j5⟩ := st_al0 w2 #[.bool gp0c, .slice Ap0c kp0c cp0c] 27
 go_wp2_with fail
 rw [← HW12.out]
 clear ix11
 replace HR2 := kV j5 HR2
 have jm3 := tt j2c j5
 replace HX0 := kV jm3 HX0
 refine mN (gcd_any _ _ _ z2.natAbs _ HR2.out HX0.out.z2.abs (by have := HG.out.2.1.1; omega) (by have := HSX.out.2.2.1.2.2.1; omega)) fun w3 A3 k3 c3 HR3 j3c => ?_
 go_wp2_with fail
 rw [rounds_succ]
 have ix14 : ∀ w, (Instr.index 28 (.agg #[.bool gp0a, .slice Ap0a kp0a cp0a, .bool gp0b, .slice Ap0b kp0b cp0b, .bool gp0c, .slice Ap0c kp0c cp0c, .bool gp0d, .slice Ap0d kp0d cp0d]) (.int .i64 3)).run Tryz.prog w = .ok (.agg #[.bool gp0d, .slice Ap0d kp0d cp0d]) w := fun _ => by kernel_rfl
 obtain ⟨W15, HW15, HB16, s15w, j6⟩ := st_al0 w3 #[.bool gp0d, .slice Ap0d kp0d cp0d] 27
 go_wp2_with fail
 rw [← HW15.out]
 clear ix14
 replace HR3 := kV j6 HR3
 have jm4 := tt j3c j6
 replace HX0 := kV jm4 HX0
 refine mN (gcd_any _ _ _ z3.natAbs _ HR3.out HX0.out.z3.abs (by have := HG.out.2.2.1.1; omega) (by have := HSX.out.2.2.1.2.2.2; omega)) fun w4 A4 k4 c4 HR4 j4c => ?_
 go_wp2_with fail
 rw [rounds_succ]
 go_wp2_with fail
 refine (isOne_yes _ (gAll z0 z1 z2 z3 d) _ HR4.out HG1.out).mono ?_
 rintro e w5 ⟨rfl, rfl⟩
 go_wp2_with fail
 have jm5 := tt (tt (tt (tt (tt jm2 j2c) j5) j3c) j6) j4c
 replace HX1 := kV jm5 HX1
 refine (isOne_no _ d _ HX1.out HD1.out).mono ?_
 rintro e w6 ⟨rfl, rfl⟩
 have jm6 := tt (tt (tt (tt (tt (tt (tt jm1 j1c) j4) j2c) j5) j3c) j6) j4c
 replace HB2 := kB HB2 jm6
 have c17 := kC HB2 0 rfl
 have c18 := kC HB2 1 rfl
 have c19 := kC HB2 2 rfl
 have c20 := kC HB2 3 rfl
 have c21 := kC HB2 4 rfl
 have c22 := kC HB2 5 rfl
 have c23 := kC HB2 6 rfl
 have c24 := kC HB2 7 rfl
 have jm7 := tt j3 jm5
 replace HB4 := kB HB4 jm7
 have c25 := kC HB4 0 rfl
 have c26 := kF HB4 0
 have c27 := kC HB4 1 rfl
 have c28 := kF HB4 1
 have c29 := kC HB4 2 rfl
 have c30 := kF HB4 2
 have c31 := kC HB4 3 rfl
 have c32 := kF HB4 3
 have c33 := kC HB4 4 rfl
 have c34 := kF HB4 4
 have c35 := kC HB4 5 rfl
 have c36 := kF HB4 5
 have c37 := kC HB4 6 rfl
 have c38 := kF HB4 6
 have c39 := kC HB4 7 rfl
 have c40 := kF HB4 7
 have c41 := kC HB4 8 rfl
 have c42 := kF HB4 8
 obtain ⟨W43, HW43⟩ : ∃ W, Hid (W = (((((((((w4.setCell ⟨w.heap.size + 1, 0, none⟩ (.bool gp0a)).setCell ⟨w.heap.size + 1, 1, none⟩ (.slice Ap0a kp0a cp0a)).setCell ⟨w.heap.size + 1, 2, none⟩ (.bool gp0b)).setCell ⟨w.heap.size + 1, 3, none⟩ (.slice Ap0b kp0b cp0b)).setCell ⟨w.heap.size + 1, 4, none⟩ (.bool gp0c)).setCell ⟨w.heap.size + 1, 5, none⟩ (.slice Ap0c kp0c cp0c)).setCell ⟨w.heap.size + 1, 6, none⟩ (.bool gp0d)).setCell ⟨w.heap.size + 1, 7, none⟩ (.slice Ap0d kp0d cp0d)).setCell ⟨w.heap.size + 1, 8, none⟩ (.slice Ap1 kp1 cp1))) := ⟨_, rfl⟩
 have SW43 : Hid (W43 = setsW w4 (w.heap.size + 1) 0 [.bool gp0a, .slice Ap0a kp0a cp0a, .bool gp0b, .slice Ap0b kp0b cp0b, .bool gp0c, .slice Ap0c kp0c cp0c, .bool gp0d, .slice Ap0d kp0d cp0d, .slice Ap1 kp1 cp1]) := HW43.out
 have TW43 := kN (SW43.out) HB4 rfl rfl
 replace HB4 := kP (ds := [.bool gp0a, .slice Ap0a kp0a cp0a, .bool gp0b, .slice Ap0b kp0b cp0b, .bool gp0c, .slice Ap0c kp0c cp0c, .bool gp0d, .slice Ap0d kp0d cp0d, .slice Ap1 kp1 cp1]) (SW43.out) HB4 rfl rfl
 go_wp2_with fail
 rw [← HW43.out]
 clear c17 c18 c19 c20 c21 c22 c23 c24 c25 c26 c27 c28 c29 c30 c31 c32 c33 c34 c35 c36 c37 c38 c39 c40 c41 c42
 have c44 := kC HB4 0 rfl
 have c45 := kC HB4 1 rfl
 have c46 := kC HB4 2 rfl
 have c47 := kC HB4 3 rfl
 have c48 := kC HB4 4 rfl
 have c49 := kC HB4 5 rfl
 have c50 := kC HB4 6 rfl
 have c51 := kC HB4 7 rfl
 have c52 := kC HB4 8 rfl
 replace HX0 := kW TW43 (kV j4c HX0)
 replace HX1 := kW TW43 HX1
 replace HBw := kS (SW43.out) l4b (kU HBw jm5)
 exact bodyPost_ret (v := .agg #[.bool gp0a, .slice Ap0a kp0a cp0a, .bool gp0b, .slice Ap0b kp0b cp0b, .bool gp0c, .slice Ap0c kp0c cp0c, .bool gp0d, .slice Ap0d kp0d cp0d, .slice Ap1 kp1 cp1]) (by simp [results, Tryz.results205, go_sem, c44, c45, c46, c47, c48, c49, c50, c51, c52]) rfl ⟨⟨_, rfl, (show RdS _ _ x K from ⟨z0, z1, z2, z3, d, RdSn.mk HX0.out.z0 HX0.out.z1 HX0.out.z2 HX0.out.z3 (by rw [den1_ne HD1.out]; exact HX1.out), HSX.out⟩)⟩, HBw.out⟩
theorem surd_nd (v vd : Value) (x : S4) (z0 z1 z2 z3 : Int) (d K : Nat) (w : World) (hv : RdA w v z0 z1 z2 z3) (hd : RdN w vd d) (hx : Sx x z0 z1 z2 z3 d K) (hK : K ≤ 800000) (hg : gAll z0 z1 z2 z3 d ≠ 1) (h1 : d / gAll z0 z1 z2 z3 d = 1) :
  Calls Tryz.prog 205 #[v, vd] w fun e w' => (∃ v', e = .returned v' ∧ RdS w' v' x K) ∧ Below w.heap.size w w' := by
 have HSX := h0d hx
 have HK := h0d hK
 have HG : Hid ((dl (Nat.gcd d z0.natAbs) ≤ K ∧ Nat.gcd d z0.natAbs ≠ 0) ∧ (dl (Nat.gcd (Nat.gcd d z0.natAbs) z1.natAbs) ≤ K ∧ Nat.gcd (Nat.gcd d z0.natAbs) z1.natAbs ≠ 0) ∧ (dl (Nat.gcd (Nat.gcd (Nat.gcd d z0.natAbs) z1.natAbs) z2.natAbs) ≤ K ∧ Nat.gcd (Nat.gcd (Nat.gcd d z0.natAbs) z1.natAbs) z2.natAbs ≠ 0) ∧ dl (gAll z0 z1 z2 z3 d) ≤ K ∧ gAll z0 z1 z2 z3 d ≠ 0) := by
  have e0 := gcd_dl (n := z0.natAbs) hx.1 hx.2.2.2
  have e1 := gcd_dl (n := z1.natAbs) e0.2 e0.1
  have e2 := gcd_dl (n := z2.natAbs) e1.2 e1.1
  have e3 := gcd_dl (n := z3.natAbs) e2.2 e2.1
  exact ⟨e0, e1, e2, e3.1, e3.2⟩
 have HDV := h0d (gAll_dvd z0 z1 z2 z3 d)
 have HG1 := h0d hg
 have HD1 := h0d h1
 clear hx hg h1
 obtain ⟨gp0a, Ap0a, kp0a, cp0a, gp0b, Ap0b, kp0b, cp0b, gp0c, Ap0c, kp0c, cp0c, gp0d, Ap0d, kp0d, cp0d, rfl, hv⟩ := hv.open
 have HX0 := h0d hv
 clear hv
 obtain ⟨Ap1, kp1, cp1, rfl, hd⟩ := hd.open
 have HX1 := h0d hd
 clear hd
 go_enter Tryz.func205, Tryz.ntmps205
 obtain ⟨W1, HW1, HB2, s1w, j1⟩ := st_al0 w #[.bool gp0a, .slice Ap0a kp0a cp0a, .bool gp0b, .slice Ap0b kp0b cp0b, .bool gp0c, .slice Ap0c kp0c cp0c, .bool gp0d, .slice Ap0d kp0d cp0d] 28
 have l2b : Hid (w.heap.size ≤ w.heap.size) := by show _ ≤ _; omega
 have HBw := h0d j1
 obtain ⟨W3, HW3, HB4, s3w, j2⟩ := st_alk 1 2 #[.bool false, .slice none 0 0, .bool false, .slice none 0 0, .bool false, .slice none 0 0, .bool false, .slice none 0 0, .slice none 0 0] 30 s1w rfl
 have n2b4 : Hid (w.heap.size ≠ w.heap.size + 1) := by show _ ≠ _; omega
 have l4b : Hid (w.heap.size ≤ w.heap.size + 1) := by show _ ≤ _; omega
 go_wp2_with fail
 rw [← HW1.out, ← HW3.out]
 refine wp_loop_rounds 5 ?_
 rw [rounds_succ]
 have ix5 : ∀ w, (Instr.index 28 (.agg #[.bool gp0a, .slice Ap0a kp0a cp0a, .bool gp0b, .slice Ap0b kp0b cp0b, .bool gp0c, .slice Ap0c kp0c cp0c, .bool gp0d, .slice Ap0d kp0d cp0d]) (.int .i64 0)).run Tryz.prog w = .ok (.agg #[.bool gp0a, .slice Ap0a kp0a cp0a]) w := fun _ => by kernel_rfl
 obtain ⟨W6, HW6, HB7, s6w, j3⟩ := st_al0 W3 #[.bool gp0a, .slice Ap0a kp0a cp0a] 27
 go_wp2_with fail
 rw [← HW6.out]
 clear ix5
 have jm1 := tt j2 j3
 replace HBw := kU HBw jm1
 replace HX1 := kV HBw.out HX1
 replace HX0 := kV HBw.out HX0
 refine mN (gcd_any _ _ d z0.natAbs _ HX1.out HX0.out.z0.abs (by have := HSX.out.2.2.2; omega) (by have := HSX.out.2.2.1.1; omega)) fun w1 A1 k1 c1 HR1 j1c => ?_
 go_wp2_with fail
 rw [rounds_succ]
 have ix8 : ∀ w, (Instr.index 28 (.agg #[.bool gp0a, .slice Ap0a kp0a cp0a, .bool gp0b, .slice Ap0b kp0b cp0b, .bool gp0c, .slice Ap0c kp0c cp0c, .bool gp0d, .slice Ap0d kp0d cp0d]) (.int .i64 1)).run Tryz.prog w = .ok (.agg #[.bool gp0b, .slice Ap0b kp0b cp0b]) w := fun _ => by kernel_rfl
 obtain ⟨W9, HW9, HB10, s9w, j4⟩ := st_al0 w1 #[.bool gp0b, .slice Ap0b kp0b cp0b] 27
 go_wp2_with fail
 rw [← HW9.out]
 clear ix8
 replace HR1 := kV j4 HR1
 have jm2 := tt j1c j4
 replace HX0 := kV jm2 HX0
 refine mN (gcd_any _ _ _ z1.natAbs _ HR1.out HX0.out.z1.abs (by have := HG.out.1.1; omega) (by have := HSX.out.2.2.1.2.1; omega)) fun w2 A2 k2 c2 HR2 j2c => ?_
 go_wp2_with fail
 rw [rounds_succ]
 have ix11 : ∀ w, (Instr.index 28 (.agg #[.bool gp0a, .slice Ap0a kp0a cp0a, .bool gp0b, .slice Ap0b kp0b cp0b, .bool gp0c, .slice Ap0c kp0c cp0c, .bool gp0d, .slice Ap0d kp0d cp0d]) (.int .i64 2)).run Tryz.prog w = .ok (.agg #[.bool gp0c, .slice Ap0c kp0c cp0c]) w := fun _ => by kernel_rfl
 obtain ⟨W12, HW12, HB13, s12w, j5⟩ := st_al0 w2 #[.bool gp0c, .slice Ap0c kp0c cp0c] 27
 go_wp2_with fail
 rw [← HW12.out]
 clear ix11
 replace HR2 := kV j5 HR2
 have jm3 := tt j2c j5
 replace HX0 := kV jm3 HX0
 refine mN (gcd_any _ _ _ z2.natAbs _ HR2.out HX0.out.z2.abs (by have := HG.out.2.1.1; omega) (by have := HSX.out.2.2.1.2.2.1; omega)) fun w3 A3 k3 c3 HR3 j3c => ?_
 go_wp2_with fail
 rw [rounds_succ]
 have ix14 : ∀ w, (Instr.index 28 (.agg #[.bool gp0a, .slice Ap0a kp0a cp0a, .bool gp0b, .slice Ap0b kp0b cp0b, .bool gp0c, .slice Ap0c kp0c cp0c, .bool gp0d, .slice Ap0d kp0d cp0d]) (.int .i64 3)).run Tryz.prog w = .ok (.agg #[.bool gp0d, .slice Ap0d kp0d cp0d]) w := fun _ => by kernel_rfl
 obtain ⟨W15, HW15, HB16, s15w, j6⟩ := st_al0 w3 #[.bool gp0d, .slice Ap0d kp0d cp0d] 27
 go_wp2_with fail
 rw [← HW15.out]
 clear ix14
 replace HR3 := kV j6 HR3
 have jm4 := tt j3c j6
 replace HX0 := kV jm4 HX0
 refine mN (gcd_any _ _ _ z3.natAbs _ HR3.out HX0.out.z3.abs (by have := HG.out.2.2.1.1; omega) (by have := HSX.out.2.2.1.2.2.2; omega)) fun w4 A4 k4 c4 HR4 j4c => ?_
 go_wp2_with fail
 rw [rounds_succ]
 go_wp2_with fail
 refine (isOne_no _ (gAll z0 z1 z2 z3 d) _ HR4.out HG1.out).mono ?_
 rintro e w5 ⟨rfl, rfl⟩
 go_wp2_with fail
 refine wp_loop_rounds 5 ?_
 rw [rounds_succ]
 have jm5 := tt (tt (tt (tt (tt (tt (tt jm1 j1c) j4) j2c) j5) j3c) j6) j4c
 replace HB2 := kB HB2 jm5
 have c17 := kC HB2 1 rfl
 go_wp2_with fail
 clear c17
 replace HX0 := kV j4c HX0
 refine (divPair _ _ z0.natAbs (gAll z0 z1 z2 z3 d) _ HX0.out.z0.abs HR4.out HG.out.2.2.2.2 (by have := HSX.out.2.2.1.1; omega) (by have := HG.out.2.2.2.1; omega)).mono ?_
 rintro e w6 ⟨⟨vx, vy, rfl, hr, hr2⟩, j6c⟩
 obtain ⟨A6a, k6a, c6a, rfl, hr⟩ := hr.open
 obtain ⟨A6b, k6b, c6b, rfl, hr2⟩ := hr2.open
 have HR6 := h0d hr
 have HR6b := h0d hr2
 clear hr2
 clear hr
 replace HB2 := kB HB2 j6c
 have c18 := kC HB2 1 rfl
 have c19 := kF HB2 1
 obtain ⟨W20, HW20⟩ : ∃ W, Hid (W = (w6.setCell ⟨w.heap.size, 1, none⟩ (.slice A6a k6a c6a))) := ⟨_, rfl⟩
 have TW20 := kN (kM1 HW20) HB2 rfl rfl
 replace HB2 := kP (ds := [.bool gp0a, .slice A6a k6a c6a, .bool gp0b, .slice Ap0b kp0b cp0b, .bool gp0c, .slice Ap0c kp0c cp0c, .bool gp0d, .slice Ap0d kp0d cp0d]) (kM1 HW20) HB2 rfl rfl
 go_wp2_with fail
 rw [← HW20.out]
 clear c18 c19
 rw [rounds_succ]
 have c21 := kC HB2 3 rfl
 go_wp2_with fail
 clear c21
 replace HX0 := kW TW20 (kV j6c HX0)
 replace HR4 := kW TW20 (kV j6c HR4)
 refine (divPair _ _ z1.natAbs (gAll z0 z1 z2 z3 d) _ HX0.out.z1.abs HR4.out HG.out.2.2.2.2 (by have := HSX.out.2.2.1.2.1; omega) (by have := HG.out.2.2.2.1; omega)).mono ?_
 rintro e w7 ⟨⟨vx, vy, rfl, hr, hr2⟩, j7c⟩
 obtain ⟨A7a, k7a, c7a, rfl, hr⟩ := hr.open
 obtain ⟨A7b, k7b, c7b, rfl, hr2⟩ := hr2.open
 have HR7 := h0d hr
 have HR7b := h0d hr2
 clear hr2
 clear hr
 replace HB2 := kB HB2 j7c
 have c22 := kC HB2 3 rfl
 have c23 := kF HB2 3
 obtain ⟨W24, HW24⟩ : ∃ W, Hid (W = (w7.setCell ⟨w.heap.size, 3, none⟩ (.slice A7a k7a c7a))) := ⟨_, rfl⟩
 have TW24 := kN (kM1 HW24) HB2 rfl rfl
 replace HB2 := kP (ds := [.bool gp0a, .slice A6a k6a c6a, .bool gp0b, .slice A7a k7a c7a, .bool gp0c, .slice Ap0c kp0c cp0c, .bool gp0d, .slice Ap0d kp0d cp0d]) (kM1 HW24) HB2 rfl rfl
 go_wp2_with fail
 rw [← HW24.out]
 clear c22 c23
 rw [rounds_succ]
 have c25 := kC HB2 5 rfl
 go_wp2_with fail
 clear c25
 replace HX0 := kW TW24 (kV j7c HX0)
 replace HR4 := kW TW24 (kV j7c HR4)
 refine (divPair _ _ z2.natAbs (gAll z0 z1 z2 z3 d) _ HX0.out.z2.abs HR4.out HG.out.2.2.2.2 (by have := HSX.out.2.2.1.2.2.1; omega) (by have := HG.out.2.2.2.1; omega)).mono ?_
 rintro e w8 ⟨⟨vx, vy, rfl, hr, hr2⟩, j8c⟩
 obtain ⟨A8a, k8a, c8a, rfl, hr⟩ := hr.open
 obtain ⟨A8b, k8b, c8b, rfl, hr2⟩ := hr2.open
 have HR8 := h0d hr
 have HR8b := h0d hr2
 clear hr2
 clear hr
 replace HB2 := kB HB2 j8c
 have c26 := kC HB2 5 rfl
 have c27 := kF HB2 5
 obtain ⟨W28, HW28⟩ : ∃ W, Hid (W = (w8.setCell ⟨w.heap.size, 5, none⟩ (.slice A8a k8a c8a))) := ⟨_, rfl⟩
 have TW28 := kN (kM1 HW28) HB2 rfl rfl
 replace HB2 := kP (ds := [.bool gp0a, .slice A6a k6a c6a, .bool gp0b, .slice A7a k7a c7a, .bool gp0c, .slice A8a k8a c8a, .bool gp0d, .slice Ap0d kp0d cp0d]) (kM1 HW28) HB2 rfl rfl
 go_wp2_with fail
 rw [← HW28.out]
 clear c26 c27
 rw [rounds_succ]
 have c29 := kC HB2 7 rfl
 go_wp2_with fail
 clear c29
 replace HX0 := kW TW28 (kV j8c HX0)
 replace HR4 := kW TW28 (kV j8c HR4)
 refine (divPair _ _ z3.natAbs (gAll z0 z1 z2 z3 d) _ HX0.out.z3.abs HR4.out HG.out.2.2.2.2 (by have := HSX.out.2.2.1.2.2.2; omega) (by have := HG.out.2.2.2.1; omega)).mono ?_
 rintro e w9 ⟨⟨vx, vy, rfl, hr, hr2⟩, j9c⟩
 obtain ⟨A9a, k9a, c9a, rfl, hr⟩ := hr.open
 obtain ⟨A9b, k9b, c9b, rfl, hr2⟩ := hr2.open
 have HR9 := h0d hr
 have HR9b := h0d hr2
 clear hr2
 clear hr
 replace HB2 := kB HB2 j9c
 have c30 := kC HB2 7 rfl
 have c31 := kF HB2 7
 obtain ⟨W32, HW32⟩ : ∃ W, Hid (W = (w9.setCell ⟨w.heap.size, 7, none⟩ (.slice A9a k9a c9a))) := ⟨_, rfl⟩
 have TW32 := kN (kM1 HW32) HB2 rfl rfl
 replace HB2 := kP (ds := [.bool gp0a, .slice A6a k6a c6a, .bool gp0b, .slice A7a k7a c7a, .bool gp0c, .slice A8a k8a c8a, .bool gp0d, .slice A9a k9a c9a]) (kM1 HW32) HB2 rfl rfl
 go_wp2_with fail
 rw [← HW32.out]
 clear c30 c31
 rw [rounds_succ]
 go_wp2_with fail
 have jm6 := tt (tt (tt (tt (tt (tt jm2 j2c) j5) j3c) j6) j4c) j6c
 replace HX1 := kW TW32 (kV j9c (kW TW28 (kV j8c (kW TW24 (kV j7c (kW TW20 (kV jm6 HX1)))))))
 replace HR4 := kW TW32 (kV j9c HR4)
 refine (divPair _ _ d (gAll z0 z1 z2 z3 d) _ HX1.out HR4.out HG.out.2.2.2.2 (by have := HSX.out.2.2.2; omega) (by have := HG.out.2.2.2.1; omega)).mono ?_
 rintro e w10 ⟨⟨vx, vy, rfl, hr, hr2⟩, j10c⟩
 obtain ⟨A10a, k10a, c10a, rfl, hr⟩ := hr.open
 obtain ⟨A10b, k10b, c10b, rfl, hr2⟩ := hr2.open
 have HR10 := h0d hr
 have HR10b := h0d hr2
 clear hr2
 clear hr
 go_wp2_with fail
 refine (isOne_yes _ (d / gAll z0 z1 z2 z3 d) _ HR10.out HD1.out).mono ?_
 rintro e w11 ⟨rfl, rfl⟩
 replace HB2 := kB HB2 j10c
 have c33 := kC HB2 0 rfl
 have c34 := kC HB2 1 rfl
 have c35 := kC HB2 2 rfl
 have c36 := kC HB2 3 rfl
 have c37 := kC HB2 4 rfl
 have c38 := kC HB2 5 rfl
 have c39 := kC HB2 6 rfl
 have c40 := kC HB2 7 rfl
 have jm7 := tt j3 jm6
 replace HB4 := kB (kO (kM1 HW32) (kB (kO (kM1 HW28) (kB (kO (kM1 HW24) (kB (kO (kM1 HW20) (kB HB4 jm7) n2b4.out.symm) j7c) n2b4.out.symm) j8c) n2b4.out.symm) j9c) n2b4.out.symm) j10c
 have c41 := kC HB4 0 rfl
 have c42 := kF HB4 0
 have c43 := kC HB4 1 rfl
 have c44 := kF HB4 1
 have c45 := kC HB4 2 rfl
 have c46 := kF HB4 2
 have c47 := kC HB4 3 rfl
 have c48 := kF HB4 3
 have c49 := kC HB4 4 rfl
 have c50 := kF HB4 4
 have c51 := kC HB4 5 rfl
 have c52 := kF HB4 5
 have c53 := kC HB4 6 rfl
 have c54 := kF HB4 6
 have c55 := kC HB4 7 rfl
 have c56 := kF HB4 7
 have c57 := kC HB4 8 rfl
 have c58 := kF HB4 8
 obtain ⟨W59, HW59⟩ : ∃ W, Hid (W = (((((((((w10.setCell ⟨w.heap.size + 1, 0, none⟩ (.bool gp0a)).setCell ⟨w.heap.size + 1, 1, none⟩ (.slice A6a k6a c6a)).setCell ⟨w.heap.size + 1, 2, none⟩ (.bool gp0b)).setCell ⟨w.heap.size + 1, 3, none⟩ (.slice A7a k7a c7a)).setCell ⟨w.heap.size + 1, 4, none⟩ (.bool gp0c)).setCell ⟨w.heap.size + 1, 5, none⟩ (.slice A8a k8a c8a)).setCell ⟨w.heap.size + 1, 6, none⟩ (.bool gp0d)).setCell ⟨w.heap.size + 1, 7, none⟩ (.slice A9a k9a c9a)).setCell ⟨w.heap.size + 1, 8, none⟩ (.slice none 0 0))) := ⟨_, rfl⟩
 have SW59 : Hid (W59 = setsW w10 (w.heap.size + 1) 0 [.bool gp0a, .slice A6a k6a c6a, .bool gp0b, .slice A7a k7a c7a, .bool gp0c, .slice A8a k8a c8a, .bool gp0d, .slice A9a k9a c9a, .slice none 0 0]) := HW59.out
 have TW59 := kN (SW59.out) HB4 rfl rfl
 replace HB4 := kP (ds := [.bool gp0a, .slice A6a k6a c6a, .bool gp0b, .slice A7a k7a c7a, .bool gp0c, .slice A8a k8a c8a, .bool gp0d, .slice A9a k9a c9a, .slice none 0 0]) (SW59.out) HB4 rfl rfl
 go_wp2_with fail
 rw [← HW59.out]
 clear c33 c34 c35 c36 c37 c38 c39 c40 c41 c42 c43 c44 c45 c46 c47 c48 c49 c50 c51 c52 c53 c54 c55 c56 c57 c58
 have c60 := kC HB4 0 rfl
 have c61 := kC HB4 1 rfl
 have c62 := kC HB4 2 rfl
 have c63 := kC HB4 3 rfl
 have c64 := kC HB4 4 rfl
 have c65 := kC HB4 5 rfl
 have c66 := kC HB4 6 rfl
 have c67 := kC HB4 7 rfl
 have c68 := kC HB4 8 rfl
 replace HX0 := kW TW59 (kV j10c (kW TW32 (kV j9c HX0)))
 replace HR6 := kW TW59 (kV j10c (kW TW32 (kV j9c (kW TW28 (kV j8c (kW TW24 (kV j7c (kW TW20 HR6))))))))
 replace HR7 := kW TW59 (kV j10c (kW TW32 (kV j9c (kW TW28 (kV j8c (kW TW24 HR7))))))
 replace HR8 := kW TW59 (kV j10c (kW TW32 (kV j9c (kW TW28 HR8))))
 replace HR9 := kW TW59 (kV j10c (kW TW32 HR9))
 replace HBw := kS (SW59.out) l4b (kU (kS (kM1 HW32) l2b (kU (kS (kM1 HW28) l2b (kU (kS (kM1 HW24) l2b (kU (kS (kM1 HW20) l2b (kU HBw jm6)) j7c)) j8c)) j9c)) j10c)
 exact bodyPost_ret (v := .agg #[.bool gp0a, .slice A6a k6a c6a, .bool gp0b, .slice A7a k7a c7a, .bool gp0c, .slice A8a k8a c8a, .bool gp0d, .slice A9a k9a c9a, .slice none 0 0]) (by simp [results, Tryz.results205, go_sem, c60, c61, c62, c63, c64, c65, c66, c67, c68]) rfl ⟨⟨_, rfl, (show RdS _ _ x K from ⟨_, _, _, _, _, RdSn.mk (HX0.out.z0.div HG.out.2.2.2.2 HDV.out.2.1 HR6.out) (HX0.out.z1.div HG.out.2.2.2.2 HDV.out.2.2.1 HR7.out) (HX0.out.z2.div HG.out.2.2.2.2 HDV.out.2.2.2.1 HR8.out) (HX0.out.z3.div HG.out.2.2.2.2 HDV.out.2.2.2.2 HR9.out) (by rw [HD1.out]; exact RdN.nil0 _), HSX.out.div HG.out.2.2.2.2 HDV.out.1 HDV.out.2.1 HDV.out.2.2.1 HDV.out.2.2.2.1 HDV.out.2.2.2.2⟩)⟩, HBw.out⟩
theorem surd_nn (v vd : Value) (x : S4) (z0 z1 z2 z3 : Int) (d K : Nat) (w : World) (hv : RdA w v z0 z1 z2 z3) (hd : RdN w vd d) (hx : Sx x z0 z1 z2 z3 d K) (hK : K ≤ 800000) (hg : gAll z0 z1 z2 z3 d ≠ 1) (h1 : d / gAll z0 z1 z2 z3 d ≠ 1) :
  Calls Tryz.prog 205 #[v, vd] w fun e w' => (∃ v', e = .returned v' ∧ RdS w' v' x K) ∧ Below w.heap.size w w' := by
 have HSX := h0d hx
 have HK := h0d hK
 have HG : Hid ((dl (Nat.gcd d z0.natAbs) ≤ K ∧ Nat.gcd d z0.natAbs ≠ 0) ∧ (dl (Nat.gcd (Nat.gcd d z0.natAbs) z1.natAbs) ≤ K ∧ Nat.gcd (Nat.gcd d z0.natAbs) z1.natAbs ≠ 0) ∧ (dl (Nat.gcd (Nat.gcd (Nat.gcd d z0.natAbs) z1.natAbs) z2.natAbs) ≤ K ∧ Nat.gcd (Nat.gcd (Nat.gcd d z0.natAbs) z1.natAbs) z2.natAbs ≠ 0) ∧ dl (gAll z0 z1 z2 z3 d) ≤ K ∧ gAll z0 z1 z2 z3 d ≠ 0) := by
  have e0 := gcd_dl (n := z0.natAbs) hx.1 hx.2.2.2
  have e1 := gcd_dl (n := z1.natAbs) e0.2 e0.1
  have e2 := gcd_dl (n := z2.natAbs) e1.2 e1.1
  have e3 := gcd_dl (n := z3.natAbs) e2.2 e2.1
  exact ⟨e0, e1, e2, e3.1, e3.2⟩
 have HDV := h0d (gAll_dvd z0 z1 z2 z3 d)
 have HG1 := h0d hg
 have HD1 := h0d h1
 clear hx hg h1
 obtain ⟨gp0a, Ap0a, kp0a, cp0a, gp0b, Ap0b, kp0b, cp0b, gp0c, Ap0c, kp0c, cp0c, gp0d, Ap0d, kp0d, cp0d, rfl, hv⟩ := hv.open
 have HX0 := h0d hv
 clear hv
 obtain ⟨Ap1, kp1, cp1, rfl, hd⟩ := hd.open
 have HX1 := h0d hd
 clear hd
 go_enter Tryz.func205, Tryz.ntmps205
 obtain ⟨W1, HW1, HB2, s1w, j1⟩ := st_al0 w #[.bool gp0a, .slice Ap0a kp0a cp0a, .bool gp0b, .slice Ap0b kp0b cp0b, .bool gp0c, .slice Ap0c kp0c cp0c, .bool gp0d, .slice Ap0d kp0d cp0d] 28
 have l2b : Hid (w.heap.size ≤ w.heap.size) := by show _ ≤ _; omega
 have HBw := h0d j1
 obtain ⟨W3, HW3, HB4, s3w, j2⟩ := st_alk 1 2 #[.bool false, .slice none 0 0, .bool false, .slice none 0 0, .bool false, .slice none 0 0, .bool false, .slice none 0 0, .slice none 0 0] 30 s1w rfl
 have n2b4 : Hid (w.heap.size ≠ w.heap.size + 1) := by show _ ≠ _; omega
 have l4b : Hid (w.heap.size ≤ w.heap.size + 1) := by show _ ≤ _; omega
 go_wp2_with fail
 rw [← HW1.out, ← HW3.out]
 refine wp_loop_rounds 5 ?_
 rw [rounds_succ]
 have ix5 : ∀ w, (Instr.index 28 (.agg #[.bool gp0a, .slice Ap0a kp0a cp0a, .bool gp0b, .slice Ap0b kp0b cp0b, .bool gp0c, .slice Ap0c kp0c cp0c, .bool gp0d, .slice Ap0d kp0d cp0d]) (.int .i64 0)).run Tryz.prog w = .ok (.agg #[.bool gp0a, .slice Ap0a kp0a cp0a]) w := fun _ => by kernel_rfl
 obtain ⟨W6, HW6, HB7, s6w, j3⟩ := st_al0 W3 #[.bool gp0a, .slice Ap0a kp0a cp0a] 27
 go_wp2_with fail
 rw [← HW6.out]
 clear ix5
 have jm1 := tt j2 j3
 replace HBw := kU HBw jm1
 replace HX1 := kV HBw.out HX1
 replace HX0 := kV HBw.out HX0
 refine mN (gcd_any _ _ d z0.natAbs _ HX1.out HX0.out.z0.abs (by have := HSX.out.2.2.2; omega) (by have := HSX.out.2.2.1.1; omega)) fun w1 A1 k1 c1 HR1 j1c => ?_
 go_wp2_with fail
 rw [rounds_succ]
 have ix8 : ∀ w, (Instr.index 28 (.agg #[.bool gp0a, .slice Ap0a kp0a cp0a, .bool gp0b, .slice Ap0b kp0b cp0b, .bool gp0c, .slice Ap0c kp0c cp0c, .bool gp0d, .slice Ap0d kp0d cp0d]) (.int .i64 1)).run Tryz.prog w = .ok (.agg #[.bool gp0b, .slice Ap0b kp0b cp0b]) w := fun _ => by kernel_rfl
 obtain ⟨W9, HW9, HB10, s9w, j4⟩ := st_al0 w1 #[.bool gp0b, .slice Ap0b kp0b cp0b] 27
 go_wp2_with fail
 rw [← HW9.out]
 clear ix8
 replace HR1 := kV j4 HR1
 have jm2 := tt j1c j4
 replace HX0 := kV jm2 HX0
 refine mN (gcd_any _ _ _ z1.natAbs _ HR1.out HX0.out.z1.abs (by have := HG.out.1.1; omega) (by have := HSX.out.2.2.1.2.1; omega)) fun w2 A2 k2 c2 HR2 j2c => ?_
 go_wp2_with fail
 rw [rounds_succ]
 have ix11 : ∀ w, (Instr.index 28 (.agg #[.bool gp0a, .slice Ap0a kp0a cp0a, .bool gp0b, .slice Ap0b kp0b cp0b, .bool gp0c, .slice Ap0c kp0c cp0c, .bool gp0d, .slice Ap0d kp0d cp0d]) (.int .i64 2)).run Tryz.prog w = .ok (.agg #[.bool gp0c, .slice Ap0c kp0c cp0c]) w := fun _ => by kernel_rfl
 obtain ⟨W12, HW12, HB13, s12w, j5⟩ := st_al0 w2 #[.bool gp0c, .slice Ap0c kp0c cp0c] 27
 go_wp2_with fail
 rw [← HW12.out]
 clear ix11
 replace HR2 := kV j5 HR2
 have jm3 := tt j2c j5
 replace HX0 := kV jm3 HX0
 refine mN (gcd_any _ _ _ z2.natAbs _ HR2.out HX0.out.z2.abs (by have := HG.out.2.1.1; omega) (by have := HSX.out.2.2.1.2.2.1; omega)) fun w3 A3 k3 c3 HR3 j3c => ?_
 go_wp2_with fail
 rw [rounds_succ]
 have ix14 : ∀ w, (Instr.index 28 (.agg #[.bool gp0a, .slice Ap0a kp0a cp0a, .bool gp0b, .slice Ap0b kp0b cp0b, .bool gp0c, .slice Ap0c kp0c cp0c, .bool gp0d, .slice Ap0d kp0d cp0d]) (.int .i64 3)).run Tryz.prog w = .ok (.agg #[.bool gp0d, .slice Ap0d kp0d cp0d]) w := fun _ => by kernel_rfl
 obtain ⟨W15, HW15, HB16, s15w, j6⟩ := st_al0 w3 #[.bool gp0d, .slice Ap0d kp0d cp0d] 27
 go_wp2_with fail
 rw [← HW15.out]
 clear ix14
 replace HR3 := kV j6 HR3
 have jm4 := tt j3c j6
 replace HX0 := kV jm4 HX0
 refine mN (gcd_any _ _ _ z3.natAbs _ HR3.out HX0.out.z3.abs (by have := HG.out.2.2.1.1; omega) (by have := HSX.out.2.2.1.2.2.2; omega)) fun w4 A4 k4 c4 HR4 j4c => ?_
 go_wp2_with fail
 rw [rounds_succ]
 go_wp2_with fail
 refine (isOne_no _ (gAll z0 z1 z2 z3 d) _ HR4.out HG1.out).mono ?_
 rintro e w5 ⟨rfl, rfl⟩
 go_wp2_with fail
 refine wp_loop_rounds 5 ?_
 rw [rounds_succ]
 have jm5 := tt (tt (tt (tt (tt (tt (tt jm1 j1c) j4) j2c) j5) j3c) j6) j4c
 replace HB2 := kB HB2 jm5
 have c17 := kC HB2 1 rfl
 go_wp2_with fail
 clear c17
 replace HX0 := kV j4c HX0
 refine (divPair _ _ z0.natAbs (gAll z0 z1 z2 z3 d) _ HX0.out.z0.abs HR4.out HG.out.2.2.2.2 (by have := HSX.out.2.2.1.1; omega) (by have := HG.out.2.2.2.1; omega)).mono ?_
 rintro e w6 ⟨⟨vx, vy, rfl, hr, hr2⟩, j6c⟩
 obtain ⟨A6a, k6a, c6a, rfl, hr⟩ := hr.open
 obtain ⟨A6b, k6b, c6b, rfl, hr2⟩ := hr2.open
 have HR6 := h0d hr
 have HR6b := h0d hr2
 clear hr2
 clear hr
 replace HB2 := kB HB2 j6c
 have c18 := kC HB2 1 rfl
 have c19 := kF HB2 1
 obtain ⟨W20, HW20⟩ : ∃ W, Hid (W = (w6.setCell ⟨w.heap.size, 1, none⟩ (.slice A6a k6a c6a))) := ⟨_, rfl⟩
 have TW20 := kN (kM1 HW20) HB2 rfl rfl
 replace HB2 := kP (ds := [.bool gp0a, .slice A6a k6a c6a, .bool gp0b, .slice Ap0b kp0b cp0b, .bool gp0c, .slice Ap0c kp0c cp0c, .bool gp0d, .slice Ap0d kp0d cp0d]) (kM1 HW20) HB2 rfl rfl
 go_wp2_with fail
 rw [← HW20.out]
 clear c18 c19
 rw [rounds_succ]
 have c21 := kC HB2 3 rfl
 go_wp2_with fail
 clear c21
 replace HX0 := kW TW20 (kV j6c HX0)
 replace HR4 := kW TW20 (kV j6c HR4)
 refine (divPair _ _ z1.natAbs (gAll z0 z1 z2 z3 d) _ HX0.out.z1.abs HR4.out HG.out.2.2.2.2 (by have := HSX.out.2.2.1.2.1; omega) (by have := HG.out.2.2.2.1; omega)).mono ?_
 rintro e w7 ⟨⟨vx, vy, rfl, hr, hr2⟩, j7c⟩
 obtain ⟨A7a, k7a, c7a, rfl, hr⟩ := hr.open
 obtain ⟨A7b, k7b, c7b, rfl, hr2⟩ := hr2.open
 have HR7 := h0d hr
 have HR7b := h0d hr2
 clear hr2
 clear hr
 replace HB2 := kB HB2 j7c
 have c22 := kC HB2 3 rfl
 have c23 := kF HB2 3
 obtain ⟨W24, HW24⟩ : ∃ W, Hid (W = (w7.setCell ⟨w.heap.size, 3, none⟩ (.slice A7a k7a c7a))) := ⟨_, rfl⟩
 have TW24 := kN (kM1 HW24) HB2 rfl rfl
 replace HB2 := kP (ds := [.bool gp0a, .slice A6a k6a c6a, .bool gp0b, .slice A7a k7a c7a, .bool gp0c, .slice Ap0c kp0c cp0c, .bool gp0d, .slice Ap0d kp0d cp0d]) (kM1 HW24) HB2 rfl rfl
 go_wp2_with fail
 rw [← HW24.out]
 clear c22 c23
 rw [rounds_succ]
 have c25 := kC HB2 5 rfl
 go_wp2_with fail
 clear c25
 replace HX0 := kW TW24 (kV j7c HX0)
 replace HR4 := kW TW24 (kV j7c HR4)
 refine (divPair _ _ z2.natAbs (gAll z0 z1 z2 z3 d) _ HX0.out.z2.abs HR4.out HG.out.2.2.2.2 (by have := HSX.out.2.2.1.2.2.1; omega) (by have := HG.out.2.2.2.1; omega)).mono ?_
 rintro e w8 ⟨⟨vx, vy, rfl, hr, hr2⟩, j8c⟩
 obtain ⟨A8a, k8a, c8a, rfl, hr⟩ := hr.open
 obtain ⟨A8b, k8b, c8b, rfl, hr2⟩ := hr2.open
 have HR8 := h0d hr
 have HR8b := h0d hr2
 clear hr2
 clear hr
 replace HB2 := kB HB2 j8c
 have c26 := kC HB2 5 rfl
 have c27 := kF HB2 5
 obtain ⟨W28, HW28⟩ : ∃ W, Hid (W = (w8.setCell ⟨w.heap.size, 5, none⟩ (.slice A8a k8a c8a))) := ⟨_, rfl⟩
 have TW28 := kN (kM1 HW28) HB2 rfl rfl
 replace HB2 := kP (ds := [.bool gp0a, .slice A6a k6a c6a, .bool gp0b, .slice A7a k7a c7a, .bool gp0c, .slice A8a k8a c8a, .bool gp0d, .slice Ap0d kp0d cp0d]) (kM1 HW28) HB2 rfl rfl
 go_wp2_with fail
 rw [← HW28.out]
 clear c26 c27
 rw [rounds_succ]
 have c29 := kC HB2 7 rfl
 go_wp2_with fail
 clear c29
 replace HX0 := kW TW28 (kV j8c HX0)
 replace HR4 := kW TW28 (kV j8c HR4)
 refine (divPair _ _ z3.natAbs (gAll z0 z1 z2 z3 d) _ HX0.out.z3.abs HR4.out HG.out.2.2.2.2 (by have := HSX.out.2.2.1.2.2.2; omega) (by have := HG.out.2.2.2.1; omega)).mono ?_
 rintro e w9 ⟨⟨vx, vy, rfl, hr, hr2⟩, j9c⟩
 obtain ⟨A9a, k9a, c9a, rfl, hr⟩ := hr.open
 obtain ⟨A9b, k9b, c9b, rfl, hr2⟩ := hr2.open
 have HR9 := h0d hr
 have HR9b := h0d hr2
 clear hr2
 clear hr
 replace HB2 := kB HB2 j9c
 have c30 := kC HB2 7 rfl
 have c31 := kF HB2 7
 obtain ⟨W32, HW32⟩ : ∃ W, Hid (W = (w9.setCell ⟨w.heap.size, 7, none⟩ (.slice A9a k9a c9a))) := ⟨_, rfl⟩
 have TW32 := kN (kM1 HW32) HB2 rfl rfl
 replace HB2 := kP (ds := [.bool gp0a, .slice A6a k6a c6a, .bool gp0b, .slice A7a k7a c7a, .bool gp0c, .slice A8a k8a c8a, .bool gp0d, .slice A9a k9a c9a]) (kM1 HW32) HB2 rfl rfl
 go_wp2_with fail
 rw [← HW32.out]
 clear c30 c31
 rw [rounds_succ]
 go_wp2_with fail
 have jm6 := tt (tt (tt (tt (tt (tt jm2 j2c) j5) j3c) j6) j4c) j6c
 replace HX1 := kW TW32 (kV j9c (kW TW28 (kV j8c (kW TW24 (kV j7c (kW TW20 (kV jm6 HX1)))))))
 replace HR4 := kW TW32 (kV j9c HR4)
 refine (divPair _ _ d (gAll z0 z1 z2 z3 d) _ HX1.out HR4.out HG.out.2.2.2.2 (by have := HSX.out.2.2.2; omega) (by have := HG.out.2.2.2.1; omega)).mono ?_
 rintro e w10 ⟨⟨vx, vy, rfl, hr, hr2⟩, j10c⟩
 obtain ⟨A10a, k10a, c10a, rfl, hr⟩ := hr.open
 obtain ⟨A10b, k10b, c10b, rfl, hr2⟩ := hr2.open
 have HR10 := h0d hr
 have HR10b := h0d hr2
 clear hr2
 clear hr
 go_wp2_with fail
 refine (isOne_no _ (d / gAll z0 z1 z2 z3 d) _ HR10.out HD1.out).mono ?_
 rintro e w11 ⟨rfl, rfl⟩
 replace HB2 := kB HB2 j10c
 have c33 := kC HB2 0 rfl
 have c34 := kC HB2 1 rfl
 have c35 := kC HB2 2 rfl
 have c36 := kC HB2 3 rfl
 have c37 := kC HB2 4 rfl
 have c38 := kC HB2 5 rfl
 have c39 := kC HB2 6 rfl
 have c40 := kC HB2 7 rfl
 have jm7 := tt j3 jm6
 replace HB4 := kB (kO (kM1 HW32) (kB (kO (kM1 HW28) (kB (kO (kM1 HW24) (kB (kO (kM1 HW20) (kB HB4 jm7) n2b4.out.symm) j7c) n2b4.out.symm) j8c) n2b4.out.symm) j9c) n2b4.out.symm) j10c
 have c41 := kC HB4 0 rfl
 have c42 := kF HB4 0
 have c43 := kC HB4 1 rfl
 have c44 := kF HB4 1
 have c45 := kC HB4 2 rfl
 have c46 := kF HB4 2
 have c47 := kC HB4 3 rfl
 have c48 := kF HB4 3
 have c49 := kC HB4 4 rfl
 have c50 := kF HB4 4
 have c51 := kC HB4 5 rfl
 have c52 := kF HB4 5
 have c53 := kC HB4 6 rfl
 have c54 := kF HB4 6
 have c55 := kC HB4 7 rfl
 have c56 := kF HB4 7
 have c57 := kC HB4 8 rfl
 have c58 := kF HB4 8
 obtain ⟨W59, HW59⟩ : ∃ W, Hid (W = (((((((((w10.setCell ⟨w.heap.size + 1, 0, none⟩ (.bool gp0a)).setCell ⟨w.heap.size + 1, 1, none⟩ (.slice A6a k6a c6a)).setCell ⟨w.heap.size + 1, 2, none⟩ (.bool gp0b)).setCell ⟨w.heap.size + 1, 3, none⟩ (.slice A7a k7a c7a)).setCell ⟨w.heap.size + 1, 4, none⟩ (.bool gp0c)).setCell ⟨w.heap.size + 1, 5, none⟩ (.slice A8a k8a c8a)).setCell ⟨w.heap.size + 1, 6, none⟩ (.bool gp0d)).setCell ⟨w.heap.size + 1, 7, none⟩ (.slice A9a k9a c9a)).setCell ⟨w.heap.size + 1, 8, none⟩ (.slice A10a k10a c10a))) := ⟨_, rfl⟩
 have SW59 : Hid (W59 = setsW w10 (w.heap.size + 1) 0 [.bool gp0a, .slice A6a k6a c6a, .bool gp0b, .slice A7a k7a c7a, .bool gp0c, .slice A8a k8a c8a, .bool gp0d, .slice A9a k9a c9a, .slice A10a k10a c10a]) := HW59.out
 have TW59 := kN (SW59.out) HB4 rfl rfl
 replace HB4 := kP (ds := [.bool gp0a, .slice A6a k6a c6a, .bool gp0b, .slice A7a k7a c7a, .bool gp0c, .slice A8a k8a c8a, .bool gp0d, .slice A9a k9a c9a, .slice A10a k10a c10a]) (SW59.out) HB4 rfl rfl
 go_wp2_with fail
 rw [← HW59.out]
 clear c33 c34 c35 c36 c37 c38 c39 c40 c41 c42 c43 c44 c45 c46 c47 c48 c49 c50 c51 c52 c53 c54 c55 c56 c57 c58
 have c60 := kC HB4 0 rfl
 have c61 := kC HB4 1 rfl
 have c62 := kC HB4 2 rfl
 have c63 := kC HB4 3 rfl
 have c64 := kC HB4 4 rfl
 have c65 := kC HB4 5 rfl
 have c66 := kC HB4 6 rfl
 have c67 := kC HB4 7 rfl
 have c68 := kC HB4 8 rfl
 replace HX0 := kW TW59 (kV j10c (kW TW32 (kV j9c HX0)))
 replace HR6 := kW TW59 (kV j10c (kW TW32 (kV j9c (kW TW28 (kV j8c (kW TW24 (kV j7c (kW TW20 HR6))))))))
 replace HR7 := kW TW59 (kV j10c (kW TW32 (kV j9c (kW TW28 (kV j8c (kW TW24 HR7))))))
 replace HR8 := kW TW59 (kV j10c (kW TW32 (kV j9c (kW TW28 HR8))))
 replace HR9 := kW TW59 (kV j10c (kW TW32 HR9))
 replace HR10 := kW TW59 HR10
 replace HBw := kS (SW59.out) l4b (kU (kS (kM1 HW32) l2b (kU (kS (kM1 HW28) l2b (kU (kS (kM1 HW24) l2b (kU (kS (kM1 HW20) l2b (kU HBw jm6)) j7c)) j8c)) j9c)) j10c)
 exact bodyPost_ret (v := .agg #[.bool gp0a, .slice A6a k6a c6a, .bool gp0b, .slice A7a k7a c7a, .bool gp0c, .slice A8a k8a c8a, .bool gp0d, .slice A9a k9a c9a, .slice A10a k10a c10a]) (by simp [results, Tryz.results205, go_sem, c60, c61, c62, c63, c64, c65, c66, c67, c68]) rfl ⟨⟨_, rfl, (show RdS _ _ x K from ⟨_, _, _, _, _, RdSn.mk (HX0.out.z0.div HG.out.2.2.2.2 HDV.out.2.1 HR6.out) (HX0.out.z1.div HG.out.2.2.2.2 HDV.out.2.2.1 HR7.out) (HX0.out.z2.div HG.out.2.2.2.2 HDV.out.2.2.2.1 HR8.out) (HX0.out.z3.div HG.out.2.2.2.2 HDV.out.2.2.2.2 HR9.out) (by rw [den1_ne HD1.out]; exact HR10.out), HSX.out.div HG.out.2.2.2.2 HDV.out.1 HDV.out.2.1 HDV.out.2.2.1 HDV.out.2.2.2.1 HDV.out.2.2.2.2⟩)⟩, HBw.out⟩
theorem surd_any (v vd : Value) (x : S4) (z0 z1 z2 z3 : Int) (d K : Nat) (w : World) (hv : RdA w v z0 z1 z2 z3) (hd : RdN w vd d) (hx : Sx x z0 z1 z2 z3 d K) (hK : K ≤ 800000) :
  Calls Tryz.prog 205 #[v, vd] w fun e w' => (∃ v', e = .returned v' ∧ RdS w' v' x K) ∧ Below w.heap.size w w' := by
 by_cases hg : gAll z0 z1 z2 z3 d = 1
 ·by_cases h1 : d = 1
  ·exact surd_gd v vd x z0 z1 z2 z3 d K w hv hd hx hK hg h1
  ·exact surd_gn v vd x z0 z1 z2 z3 d K w hv hd hx hK hg h1
 ·by_cases h1 : d / gAll z0 z1 z2 z3 d = 1
  ·exact surd_nd v vd x z0 z1 z2 z3 d K w hv hd hx hK hg h1
  ·exact surd_nn v vd x z0 z1 z2 z3 d K w hv hd hx hK hg h1
end Go.Proofs.YtodckaioeomccaaGreat
