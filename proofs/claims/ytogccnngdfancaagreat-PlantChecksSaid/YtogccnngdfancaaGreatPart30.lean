/- Walks of the reference's fractions: Divisor, Frac, Whole, under, Zero. -/
import Derived.Test.YtogccnngdfancaaGreatPart29
namespace Go.Proofs.YtogccnngdfancaaGreat
open Go.RowKit
set_option linter.unusedVariables false
set_option linter.unusedSimpArgs false
theorem mwB (b : Bool) (k : Nat) : Value.bool b ≠ u32V k := by simp [u32V]
theorem mwS (A : Option Addr) (n c : Nat) (k : Nat) : Value.slice A n c ≠ u32V k := by simp [u32V]
theorem RdM.set3 {w : World} {v : Value} {n : Nat} (h : RdM w v n) {b : Nat} {c0 : Bool} {A A' : Option Addr} {m c m' c' : Nat} (h0 : w.cell? ⟨b, 0, none⟩ = some (.bool c0)) (h1 : w.cell? ⟨b, 1, none⟩ = some (.slice A m c)) (h2 : w.cell? ⟨b, 2, none⟩ = some (.slice A' m' c')) (u0 u1 u2 : Value) :
    RdM (((w.setCell ⟨b, 0, none⟩ u0).setCell ⟨b, 1, none⟩ u1).setCell ⟨b, 2, none⟩ u2) v n := Rd.set3 h h0 h1 h2 (mwB _) (mwS _ _ _) (mwS _ _ _) u0 u1 u2
/-- A fraction of the reference, given by its value. -/
def RdF (w : World) (v : Value) (x : Rat) : Prop := ∃ a b, v = .agg #[.bool (decide (x.num < 0)), a, b] ∧ RdM w a x.num.natAbs ∧ RdM w b x.den
theorem RdF.below {w w' : World} {v : Value} {x : Rat} (h : RdF w v x) (hb : Below w.heap.size w w') : RdF w' v x := let ⟨a, b, h1, h2, h3⟩ := h; ⟨a, b, h1, h2.below hb, h3.below hb⟩
/-- The number one, made anew. -/
theorem RdM.one_new (w : World) : RdM (w.alloc (.cells #[.int .u32 1] 119)) (.slice (some ⟨w.heap.size, 0, none⟩) 1 1) 1 := by
  unfold RdM
  rw [digs_small B32_2 (by decide) (by unfold B32; omega)]
  exact ⟨_, 1, rfl, Nat.le_refl _, by unfold maxLen; omega, fun _ => ⟨_, _, rfl, trivial, fun i hi => by
    have : i = 0 := by simp at hi; omega
    subst this
    exact cell_of_row _ _ 0 _ _ _ (heap_alloc_new w _)⟩⟩
set_option maxRecDepth 100000 in
set_option maxHeartbeats 4000000 in
theorem rgcd_any (va vb : Value) (m n : Nat) (w : World) (hP : RdM w va m) (hQ : RdM w vb n) (hm6 : dm m ≤ 1800000) (hn6 : dm n ≤ 1800000) :
    Calls Tryz.prog 87 #[va, vb] w fun e w' => (∃ v', e = .returned v' ∧ RdM w' v' (Nat.gcd m n)) ∧ Below w.heap.size w w' := by
  obtain ⟨G, hG⟩ : ∃ G, G = Nat.gcd m n := ⟨_, rfl⟩
  rw [← hG]
  have HG := Lib.hid hG
  have HP := Lib.hid hP
  have HQ := Lib.hid hQ
  have HM6 := Lib.hid hm6
  have HN6 := Lib.hid hn6
  clear hG hP hQ hm6 hn6
  go_enter Tryz.func87, Tryz.ntmps87
  go_wp2_with fail
  go_loopg [0, 1] n (fun b va vb wr => ∃ a : Nat, Hid (RdM wr va a) ∧ Hid (RdM wr vb b) ∧ Hid (Nat.gcd a b = G) ∧ Hid (dm a ≤ 1800000) ∧ Hid (dm b ≤ 1800000) ∧ Hid (Below w.heap.size w wr))
  case atStart => exact ⟨m, HP.out, HQ.out, HG.out.symm, HM6.out, HN6.out, Below.refl _ _⟩
  case round =>
    obtain ⟨a, HA, HBn, HGC, HA6, HB6, HBEL⟩ := hrel
    obtain ⟨A1, k1, c1, rfl, e1, hk1, _, hm1, _⟩ := RdV.open_ HA.out
    obtain ⟨A2, k2, c2, rfl, e2, hk2, _, hm2, _⟩ := RdV.open_ HBn.out
    by_cases hb0 : gk = 0
    · have HAG : Hid (a = G) := by show _ = _; rw [← HGC.out, hb0, Nat.gcd_zero_right]
      rw [hb0, digs_zero] at e2
      obtain rfl : k2 = 0 := by simpa using e2.symm
      clear e1 e2 hb0
      go_wp2_with fail
      go_ret
      exact ⟨⟨_, rfl, by rw [← HAG.out]; exact HA.out⟩, HBEL.out⟩
    · have hk2p : 0 < k2 := by have := dm_pos hb0; unfold dm at this; omega
      have HG1 : Hid (Nat.gcd gk (a % gk) = G) := by show _ = _; rw [← gcd_step]; exact HGC.out
      have HDIV := Lib.hid (rquot_any _ _ a gk wr HA.out HBn.out hb0 HA6.out HB6.out)
      have HNX : Hid (∀ e w', RDivPost wr a gk e w' → Hid (∃ v1 v2, e = .returned (.tuple #[v1, v2]) ∧ RdM w' v2 (a % gk) ∧ Below wr.heap.size wr w')) := fun e w' ⟨v1, v2, h1, _, h3, h4⟩ => ⟨v1, v2, h1, h3, h4⟩
      have HM6 : Hid (dm (a % gk) ≤ 1800000) := by
        show _ ≤ _
        have := dm_mono (Nat.le_of_lt (Nat.mod_lt a (Nat.pos_of_ne_zero hb0)))
        have := HB6.out
        omega
      have HML : Hid (a % gk < gk) := Nat.mod_lt a (Nat.pos_of_ne_zero hb0)
      clear e1 e2 hb0
      go_wp2_with (go_at_call 88; refine HDIV.out.mono ?_; intro e w2 hd; have hd2 := HNX.out _ _ hd; clear hd; obtain ⟨v1, v2, rfl, hd3, hd4⟩ := hd2.out; have HD3 := Lib.hid hd3; have HD4 := Lib.hid hd4; clear hd2 hd3 hd4)
      go_roundg (a % gk)
      case measure => exact HML.out
      case rel => exact ⟨gk, HBn.out.below HD4.out, HD3.out, HG1.out, HB6.out, HM6.out, HBEL.out.trans (HD4.out.mono HBEL.out.size)⟩
set_option maxRecDepth 100000 in
set_option maxHeartbeats 4000000 in
theorem rfrac_any (neg : Bool) (va vb : Value) (n D : Nat) (w : World) (hn : RdM w va n) (hd : RdM w vb D) (hD : D ≠ 0) (hn6 : dm n ≤ 1800000) (hd6 : dm D ≤ 1800000) :
    Calls Tryz.prog 57 #[.bool neg, va, vb] w fun e w' => (∃ v', e = .returned v' ∧ RdF w' v' (mkRat (signed neg n) D)) ∧ Below w.heap.size w w' := by
  obtain ⟨Aa, ka, ca, rfl, ea, _, _, _, _⟩ := RdV.open_ hn
  obtain ⟨Ad, kd, cd, rfl⟩ := hd.slice
  have HA := Lib.hid hn
  have HD := Lib.hid hd
  obtain ⟨X, hX⟩ : ∃ X, X = mkRat (signed neg n) D := ⟨_, rfl⟩
  obtain ⟨m1, m2, m3⟩ := mk_parts (z := signed neg n) hD
  rw [← hX] at m1 m2 m3 ⊢
  rw [signed_neg] at m1
  rw [signed_abs] at m2 m3
  obtain ⟨g, hg⟩ : ∃ g, g = Nat.gcd n D := ⟨_, rfl⟩
  rw [← hg] at m2 m3
  have hg0 : g ≠ 0 := by rw [hg]; exact Nat.pos_iff_ne_zero.1 (Nat.gcd_pos_of_pos_right _ (Nat.pos_of_ne_zero hD))
  have hg6 : dm g ≤ 1800000 := by rw [hg]; exact Nat.le_trans (dm_mono (Nat.gcd_le_right _ (Nat.pos_of_ne_zero hD))) hd6
  have HRS : Hid (∀ w', Below (w.alloc (.cells #[.bool false, .slice none 0 0, .slice none 0 0] 56)).heap.size (w.alloc (.cells #[.bool false, .slice none 0 0, .slice none 0 0] 56)) w' → _) := fun w' h => res3 (heap_alloc_new w _) h
  by_cases hk : ka = 0
  · have hn0 : n = 0 := (digs_nil B32_2).1 (List.length_eq_zero_iff.1 (by rw [ea, hk]))
    have HX0 : Hid (X = 0) := by
      show _ = _
      rw [hX, hn0]
      have : signed neg 0 = 0 := by unfold signed; split <;> simp
      rw [this, Rat.zero_mkRat]
    subst hk
    have HR1 : Hid (RdM ((w.alloc (.cells #[.bool false, .slice none 0 0, .slice (some ⟨w.heap.size + 1, 0, none⟩) 1 1] 56)).alloc (.cells #[.int .u32 1] 119)) (.slice (some ⟨w.heap.size + 1, 0, none⟩) 1 1) 1) := by
      have := RdM.one_new (w.alloc (.cells #[.bool false, .slice none 0 0, .slice (some ⟨w.heap.size + 1, 0, none⟩) 1 1] 56))
      show RdM _ _ _
      simpa using this
    clear hn hd ea hn0 m1 m2 m3 hg hX hg0 hg6
    go_enter Tryz.func57, Tryz.ntmps57
    go_wp2_with fail
    exact bodyPost_ret (v := .agg #[.bool false, .slice none 0 0, .slice (some ⟨w.heap.size + 1, 0, none⟩) 1 1]) (by simp [results, Tryz.results57, go_sem]) rfl ⟨⟨_, rfl, by
      rw [HX0.out]
      exact ⟨_, _, rfl, RdM.nil_ _, HR1.out⟩⟩, ((Below.refl _ w).alloc (Nat.le_refl _) _).alloc (by simp) _⟩
  · have hkb : ((ka : Int) == 0) = false := by simp; omega
    have hnp : (neg && decide (0 < n)) = neg := by
      have : 0 < n := by
        rcases Nat.eq_zero_or_pos n with h | h
        · rw [h, digs_zero] at ea; simp at ea; omega
        · exact h
      simp [this]
    rw [hnp] at m1
    have M1 := Lib.hid m1
    have M2 := Lib.hid m2
    have M3 := Lib.hid m3
    have HGC : Hid (∀ w', Below w.heap.size w w' → Calls Tryz.prog 87 #[.slice Aa ka ca, .slice Ad kd cd] w' fun e w'' => (∃ v', e = .returned v' ∧ RdM w'' v' g) ∧ Below w'.heap.size w' w'') := fun w' h => by
      rw [hg]; exact rgcd_any _ _ n D w' (hn.below h) (hd.below h) hn6 hd6
    have HQ1 : Hid (∀ v w', Below w.heap.size w w' → RdM w' v g → Calls Tryz.prog 88 #[.slice Aa ka ca, v] w' fun e w'' => Hid (∃ v1 v2, e = .returned (.tuple #[v1, v2]) ∧ RdM w'' v1 X.num.natAbs ∧ Below w'.heap.size w' w'')) := fun v w' h hr =>
      (rquot_any _ v n g w' (hn.below h) hr hg0 hn6 hg6).mono fun e w'' ⟨v1, v2, h1, h2, _, h4⟩ => ⟨v1, v2, h1, by rw [m2]; exact h2, h4⟩
    have HQ2 : Hid (∀ v w', Below w.heap.size w w' → RdM w' v g → Calls Tryz.prog 88 #[.slice Ad kd cd, v] w' fun e w'' => Hid (∃ v1 v2, e = .returned (.tuple #[v1, v2]) ∧ RdM w'' v1 X.den ∧ Below w'.heap.size w' w'')) := fun v w' h hr =>
      (rquot_any _ v D g w' (hd.below h) hr hg0 hd6 hg6).mono fun e w'' ⟨v1, v2, h1, h2, _, h4⟩ => ⟨v1, v2, h1, by rw [m3]; exact h2, h4⟩
    have HW1 : Hid (Below w.heap.size w (w.alloc (.cells #[.bool false, .slice none 0 0, .slice none 0 0] 56))) := (Below.refl _ w).alloc (Nat.le_refl _) _
    obtain ⟨W1, hW1⟩ : ∃ W, W = w.alloc (.cells #[.bool false, .slice none 0 0, .slice none 0 0] 56) := ⟨_, rfl⟩
    rw [← hW1] at HRS HW1
    have HE := Lib.hid hW1
    clear hn hd ea m1 m2 m3 hg hX hg0 hg6 hnp hW1
    go_enter Tryz.func57, Tryz.ntmps57
    go_wp2_with fail
    rw [← HE.out]
    refine (HGC.out _ HW1.out).mono ?_
    rintro e w3 ⟨⟨v3, rfl, hr3⟩, hb3⟩
    have HR3 := Lib.hid hr3
    have HB3 := Lib.hid hb3
    have HBW3 : Hid (Below w.heap.size w w3) := HW1.out.trans (hb3.mono HW1.out.size)
    clear hr3 hb3
    go_wp2_with fail
    refine (HQ1.out _ _ HBW3.out HR3.out).mono ?_
    intro e w4 hx
    obtain ⟨v4, u4, rfl, hr4, hb4⟩ := hx.out
    obtain ⟨A4, n4, c4, rfl⟩ := hr4.slice
    have HR4 := Lib.hid hr4
    have HB4 : Hid (Below W1.heap.size W1 w4) := HB3.out.trans (hb4.mono HB3.out.size)
    have HBW4 : Hid (Below w.heap.size w w4) := HBW3.out.trans (hb4.mono HBW3.out.size)
    have HR34 := Lib.hid (HR3.out.below hb4)
    clear hx hr4 hb4
    go_wp2_with fail
    refine (HQ2.out _ _ HBW4.out HR34.out).mono ?_
    intro e w5 hx
    obtain ⟨v5, u5, rfl, hr5, hb5⟩ := hx.out
    obtain ⟨A5, n5, c5, rfl⟩ := hr5.slice
    have HR5 := Lib.hid hr5
    have HB5 : Hid (Below W1.heap.size W1 w5) := HB4.out.trans (hb5.mono HB4.out.size)
    have HBW5 : Hid (Below w.heap.size w w5) := HBW4.out.trans (hb5.mono HBW4.out.size)
    have HR45 := Lib.hid (HR4.out.below hb5)
    obtain ⟨q0, q1, q2, q3, q4, q5⟩ := HRS.out _ HB5.out
    clear hx hr5 hb5
    go_wp2_with fail
    exact bodyPost_ret (v := .agg #[.bool neg, .slice A4 n4 c4, .slice A5 n5 c5]) (by simp [results, Tryz.results57, go_sem, q0, q1, q2]) rfl ⟨⟨_, rfl, _, _, by rw [M1.out], HR45.out.set3 q0 q1 q2 _ _ _, HR5.out.set3 q0 q1 q2 _ _ _⟩, ((HBW5.out.setCell (by simp) _).setCell (by simp) _).setCell (by simp) _⟩
end Go.Proofs.YtogccnngdfancaaGreat
