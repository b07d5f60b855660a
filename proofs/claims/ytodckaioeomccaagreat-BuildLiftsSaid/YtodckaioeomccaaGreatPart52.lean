/- The walk of BuildLifts, all inputs. -/
import Derived.Test.YtodckaioeomccaaGreatPart47
import Derived.Test.YtodckaioeomccaaGreatPart43
import Derived.Test.YtodckaioeomccaaGreatPart07
import Derived.Test.YtodckaioeomccaaGreatPart39
import Derived.Test.YtodckaioeomccaaGreatPart51
namespace Go.Proofs.YtodckaioeomccaaGreat
open Go.RowKit
set_option linter.unusedVariables false
set_option linter.unusedSimpArgs false
set_option maxRecDepth 100000
set_option maxHeartbeats 4000000
theorem ofR_size {n d : Int} (hn : I64 n) (hd : I64 d) : QS 2 (ofRatio n d) := by
 unfold ofRatio
 split
 ·exact (qs_int hn.1 hn.2).up (by omega)
 ·rename_i h
  rw [ratio_div n d h]
  exact ((qs_int hn.1 hn.2).div (qs_int hd.1 hd.2) (fun e => h (by exact_mod_cast e))).up (by omega)
theorem RdQ.sides {w : World} {v : Value} {x : Rat} (h : RdQ w v x) : ∃ g A k c B m d, v = .agg #[.bool g, .slice A k c, .slice B m d] ∧ g = decide (x.num < 0) ∧ RdN w (.slice A k c) x.num.natAbs ∧ RdN w (.slice B m d) (den1 x.den) := by
 obtain ⟨a, b, rfl, ha, hb⟩ := h
 obtain ⟨A, k, c, rfl⟩ := ha.slice
 obtain ⟨B, m, d, rfl⟩ := hb.slice
 exact ⟨_, _, _, _, _, _, _, rfl, rfl, ha, hb⟩
theorem cmp_same (va vb : Value) (m : Nat) (w : World) (ha : RdN w va m) (hb : RdN w vb m) : Calls Tryz.prog 127 #[va, vb] w fun e w' => e = .returned (.int .i64 0) ∧ Below w.heap.size w w' := by
 have := cmp_any va vb m m w ha hb
 rwa [show cmpN m m = 0 from cmpN_eq rfl] at this
theorem qsame_yes (v u : Value) (x : Rat) (w : World) (hv : RdQ w v x) (hu : RdQ w u x) :
  Calls Tryz.prog 30 #[v, u] w fun e w' => e = .returned (.bool true) ∧ Below w.heap.size w w' := by
 obtain ⟨g, A0, k0, c0, B0, m0, d0, rfl, hg, ha, hb⟩ := hv.sides
 obtain ⟨g2, A1, k1, c1, B1, m1, d1, rfl, hg2, ha2, hb2⟩ := hu.sides
 obtain rfl : g = g2 := hg.trans hg2.symm
 have HX0 := h0d ha
 have HX1 := h0d hb
 have HX2 := h0d ha2
 have HX3 := h0d hb2
 clear hv hu hg hg2 ha hb ha2 hb2
 go_enter Tryz.func30, Tryz.ntmps30
 obtain ⟨W1, HW1, HB2, s1w, j1⟩ := st_al0 w #[.bool g, .slice A0 k0 c0, .slice B0 m0 d0] 32
 have HBw := h0d j1
 obtain ⟨W3, HW3, HB4, s3w, j2⟩ := st_alk 1 2 #[.bool g, .slice A1 k1 c1, .slice B1 m1 d1] 32 s1w rfl
 go_wp2_with fail
 rw [← HW1.out, ← HW3.out]
 replace HBw := kU HBw j2
 replace HX0 := kV HBw.out HX0
 replace HX2 := kV HBw.out HX2
 refine mV (cmp_same _ _ _ _ HX0.out HX2.out) fun w1 j1c => ?_
 have jm1 := tt j2 j1c
 replace HB2 := kB HB2 jm1
 have c5 := kC HB2 2 rfl
 replace HB4 := kB HB4 j1c
 have c6 := kC HB4 2 rfl
 go_wp2_with fail
 clear c5 c6
 replace HBw := kU HBw j1c
 replace HX1 := kV HBw.out HX1
 replace HX3 := kV HBw.out HX3
 refine mV (cmp_same _ _ _ _ HX1.out HX3.out) fun w2 j2c => ?_
 go_wp2_with fail
 go_ret
 replace HBw := kU HBw j2c
 exact ⟨rfl, HBw.out⟩
theorem lift_all (v u t : Value) (c f g : Rat) (w : World) (hv : RdQ w v c) (hu : RdQ w u f) (ht : RdQ w t g) (q0 : QS 1000 c) (q1 : QS 1000 f) (q2 : QS 1000 g) :
  Calls Tryz.prog 26 #[v, u, t] w fun e w' => (∃ v1 v2, e = .returned (.tuple #[v1, v2, .int .i64 (lifE c f g)]) ∧ RdQ w' v1 (lifV c f g) ∧ RdQ w' v2 (lifW c f g)) ∧ Below w.heap.size w w' := by
 have hp := sgn_pos
 have hn : ∀ x : Rat, ¬ x < 0 → ¬ Int.sign x.num < 0 := fun x h e => h ((num_sign x).2.2.1 (by have := Int.sign_trichotomy x.num; omega))
 by_cases k1 : c < 0
 ·obtain ⟨e1, e2, e3⟩ := lif_1 (f := f) (g := g) k1; rw [e1, e2, e3]
  exact lift_1 v u t c f g w hv hu ht q0 q1 q2 ((num_sign c).2.2.2 k1)
 by_cases k2 : 1 < c
 ·obtain ⟨e1, e2, e3⟩ := lif_2 (f := f) (g := g) k2; rw [e1, e2, e3]
  exact lift_2 v u t c f g w hv hu ht q0 q1 q2 _ rfl (hn c k1) ((num_sign (c - 1)).1.2 (by grind))
 have h2 : ¬ 0 < Int.sign (c - 1).num := fun e => k2 (by have := (hp _).1 e; grind)
 by_cases k3 : 0 < f
 rotate_left
 ·obtain ⟨e1, e2, e3⟩ := lif_3 (c := c) (g := g) k3; rw [e1, e2, e3]
  exact lift_3 v u t c f g w hv hu ht q0 q1 q2 _ rfl (hn c k1) _ rfl h2 _ rfl (Int.not_lt.1 fun e => k3 ((hp _).1 e))
 by_cases k4 : 0 < g
 rotate_left
 ·obtain ⟨e1, e2, e3⟩ := lif_4 (c := c) (f := f) k4; rw [e1, e2, e3]
  exact lift_4 v u t c f g w hv hu ht q0 q1 q2 _ rfl (hn c k1) _ rfl h2 ((num_sign f).1.2 k3) _ rfl (Int.not_lt.1 fun e => k4 ((hp _).1 e))
 by_cases k5 : 1 < c * g / f
 ·obtain ⟨e1, e2, e3⟩ := lif_5 k1 k2 k3 k4 k5; rw [e1, e2, e3]
  exact lift_5 v u t c f g w hv hu ht q0 q1 q2 _ rfl (hn c k1) _ rfl h2 ((num_sign f).1.2 k3) ((num_sign g).1.2 k4) ((num_sign (c * g / f - 1)).1.2 (by grind))
 ·obtain ⟨e1, e2, e3⟩ := lif_6 k1 k2 k3 k4 k5; rw [e1, e2, e3]
  exact lift_6 v u t c f g w hv hu ht q0 q1 q2 _ rfl (hn c k1) _ rfl h2 ((num_sign f).1.2 k3) ((num_sign g).1.2 k4) _ rfl (fun e => k5 (by have := (hp _).1 e; grind))
theorem rlift_all (v u t : Value) (c f g : Rat) (w : World) (hv : RdF w v c) (hu : RdF w u f) (ht : RdF w t g) (q0 : QS 1000 c) (q1 : QS 1000 f) (q2 : QS 1000 g) :
  Calls Tryz.prog 28 #[v, u, t] w fun e w' => (∃ v1 v2, e = .returned (.tuple #[v1, v2, .int .i64 (lifE c f g)]) ∧ RdF w' v1 (lifV c f g) ∧ RdF w' v2 (lifW c f g)) ∧ Below w.heap.size w w' := by
 have hp := sgn_pos
 have hn : ∀ x : Rat, ¬ x < 0 → ¬ Int.sign x.num < 0 := fun x h e => h ((num_sign x).2.2.1 (by have := Int.sign_trichotomy x.num; omega))
 by_cases k1 : c < 0
 ·obtain ⟨e1, e2, e3⟩ := lif_1 (f := f) (g := g) k1; rw [e1, e2, e3]
  exact rlift_1 v u t c f g w hv hu ht q0 q1 q2 ((num_sign c).2.2.2 k1)
 by_cases k2 : 1 < c
 ·obtain ⟨e1, e2, e3⟩ := lif_2 (f := f) (g := g) k2; rw [e1, e2, e3]
  exact rlift_2 v u t c f g w hv hu ht q0 q1 q2 _ rfl (hn c k1) ((num_sign (c - 1)).1.2 (by grind))
 have h2 : ¬ 0 < Int.sign (c - 1).num := fun e => k2 (by have := (hp _).1 e; grind)
 by_cases k3 : 0 < f
 rotate_left
 ·obtain ⟨e1, e2, e3⟩ := lif_3 (c := c) (g := g) k3; rw [e1, e2, e3]
  exact rlift_3 v u t c f g w hv hu ht q0 q1 q2 _ rfl (hn c k1) _ rfl h2 _ rfl (Int.not_lt.1 fun e => k3 ((hp _).1 e))
 by_cases k4 : 0 < g
 rotate_left
 ·obtain ⟨e1, e2, e3⟩ := lif_4 (c := c) (f := f) k4; rw [e1, e2, e3]
  exact rlift_4 v u t c f g w hv hu ht q0 q1 q2 _ rfl (hn c k1) _ rfl h2 ((num_sign f).1.2 k3) _ rfl (Int.not_lt.1 fun e => k4 ((hp _).1 e))
 by_cases k5 : 1 < c * g / f
 ·obtain ⟨e1, e2, e3⟩ := lif_5 k1 k2 k3 k4 k5; rw [e1, e2, e3]
  exact rlift_5 v u t c f g w hv hu ht q0 q1 q2 _ rfl (hn c k1) _ rfl h2 ((num_sign f).1.2 k3) ((num_sign g).1.2 k4) ((num_sign (c * g / f - 1)).1.2 (by grind))
 ·obtain ⟨e1, e2, e3⟩ := lif_6 k1 k2 k3 k4 k5; rw [e1, e2, e3]
  exact rlift_6 v u t c f g w hv hu ht q0 q1 q2 _ rfl (hn c k1) _ rfl h2 ((num_sign f).1.2 k3) ((num_sign g).1.2 k4) _ rfl (fun e => k5 (by have := (hp _).1 e; grind))
set_option maxHeartbeats 40000000 in
theorem buildLifts_any (n0 d0 n1 d1 n2 d2 n3 d3 : Int) (w : World) (b0 : I64 n0 ∧ I64 d0) (b1 : I64 n1 ∧ I64 d1) (b2 : I64 n2 ∧ I64 d2) (b3 : I64 n3 ∧ I64 d3) :
  Calls Tryz.prog 5 #[.agg #[.int .i64 n0, .int .i64 d0], .agg #[.int .i64 n1, .int .i64 d1], .agg #[.int .i64 n2, .int .i64 d2], .agg #[.int .i64 n3, .int .i64 d3]] w fun e w' => e = .returned (.bool true) ∧ Below w.heap.size w w' := by
 have HLc : Hid (∀ W, Calls Tryz.prog 27 #[.agg #[.int .i64 n0, .int .i64 d0]] W fun e w' => (∃ v', e = .returned v' ∧ RdQ w' v' (ofRatio n0 d0)) ∧ Below W.heap.size W w') := fun W => lof_agg n0 d0 W b0.1.1 b0.1.2 b0.2.1 b0.2.2
 have HRc : Hid (∀ W, Calls Tryz.prog 29 #[.agg #[.int .i64 n0, .int .i64 d0]] W fun e w' => (∃ v', e = .returned v' ∧ RdF w' v' (ofRatio n0 d0)) ∧ Below W.heap.size W w') := fun W => rof_agg n0 d0 W b0.1.1 b0.1.2 b0.2.1 b0.2.2
 have HQc : Hid (QS 2 (ofRatio n0 d0)) := ofR_size b0.1 b0.2
 have HLf : Hid (∀ W, Calls Tryz.prog 27 #[.agg #[.int .i64 n1, .int .i64 d1]] W fun e w' => (∃ v', e = .returned v' ∧ RdQ w' v' (ofRatio n1 d1)) ∧ Below W.heap.size W w') := fun W => lof_agg n1 d1 W b1.1.1 b1.1.2 b1.2.1 b1.2.2
 have HRf : Hid (∀ W, Calls Tryz.prog 29 #[.agg #[.int .i64 n1, .int .i64 d1]] W fun e w' => (∃ v', e = .returned v' ∧ RdF w' v' (ofRatio n1 d1)) ∧ Below W.heap.size W w') := fun W => rof_agg n1 d1 W b1.1.1 b1.1.2 b1.2.1 b1.2.2
 have HQf : Hid (QS 2 (ofRatio n1 d1)) := ofR_size b1.1 b1.2
 have HLg : Hid (∀ W, Calls Tryz.prog 27 #[.agg #[.int .i64 n2, .int .i64 d2]] W fun e w' => (∃ v', e = .returned v' ∧ RdQ w' v' (ofRatio n2 d2)) ∧ Below W.heap.size W w') := fun W => lof_agg n2 d2 W b2.1.1 b2.1.2 b2.2.1 b2.2.2
 have HRg : Hid (∀ W, Calls Tryz.prog 29 #[.agg #[.int .i64 n2, .int .i64 d2]] W fun e w' => (∃ v', e = .returned v' ∧ RdF w' v' (ofRatio n2 d2)) ∧ Below W.heap.size W w') := fun W => rof_agg n2 d2 W b2.1.1 b2.1.2 b2.2.1 b2.2.2
 have HQg : Hid (QS 2 (ofRatio n2 d2)) := ofR_size b2.1 b2.2
 have HLk : Hid (∀ W, Calls Tryz.prog 27 #[.agg #[.int .i64 n3, .int .i64 d3]] W fun e w' => (∃ v', e = .returned v' ∧ RdQ w' v' (ofRatio n3 d3)) ∧ Below W.heap.size W w') := fun W => lof_agg n3 d3 W b3.1.1 b3.1.2 b3.2.1 b3.2.2
 have HQk : Hid (QS 2 (ofRatio n3 d3)) := ofR_size b3.1 b3.2
 obtain ⟨c, hc⟩ : ∃ y, y = ofRatio n0 d0 := ⟨_, rfl⟩
 rw [← hc] at HLc HRc HQc
 clear hc
 obtain ⟨f, hf⟩ : ∃ y, y = ofRatio n1 d1 := ⟨_, rfl⟩
 rw [← hf] at HLf HRf HQf
 clear hf
 obtain ⟨g, hg⟩ : ∃ y, y = ofRatio n2 d2 := ⟨_, rfl⟩
 rw [← hg] at HLg HRg HQg
 clear hg
 obtain ⟨k, hk⟩ : ∃ y, y = ofRatio n3 d3 := ⟨_, rfl⟩
 rw [← hk] at HLk  HQk
 clear hk
 have HM1 : Hid (∀ W v u t, RdQ W v c → RdQ W u f → RdQ W t g → Calls Tryz.prog 26 #[v, u, t] W fun e w' => (∃ v1 v2, e = .returned (.tuple #[v1, v2, .int .i64 (lifE c f g)]) ∧ RdQ w' v1 (lifV c f g) ∧ RdQ w' v2 (lifW c f g)) ∧ Below W.heap.size W w') := fun W v u t h1 h2 h3 => lift_all v u t c f g W h1 h2 h3 (HQc.out.up (by omega)) (HQf.out.up (by omega)) (HQg.out.up (by omega))
 have HN1 : Hid (∀ W v u t, RdF W v c → RdF W u f → RdF W t g → Calls Tryz.prog 28 #[v, u, t] W fun e w' => (∃ v1 v2, e = .returned (.tuple #[v1, v2, .int .i64 (lifE c f g)]) ∧ RdF w' v1 (lifV c f g) ∧ RdF w' v2 (lifW c f g)) ∧ Below W.heap.size W w') := fun W v u t h1 h2 h3 => rlift_all v u t c f g W h1 h2 h3 (HQc.out.up (by omega)) (HQf.out.up (by omega)) (HQg.out.up (by omega))
 have HSX : Hid (QS 10 (lifV c f g)) := lifV_size HQc.out HQf.out HQg.out
 have HSY : Hid (QS 30 (lifW c f g)) := lifW_size HQc.out HQf.out HQg.out
 obtain ⟨ze, hze⟩ : ∃ y, y = lifE c f g := ⟨_, rfl⟩
 obtain ⟨x, hx⟩ : ∃ y, y = lifV c f g := ⟨_, rfl⟩
 obtain ⟨y, hy⟩ : ∃ y, y = lifW c f g := ⟨_, rfl⟩
 have HZ := h0d hze.symm
 have HXV := h0d hx.symm
 rw [← hze, ← hx, ← hy] at HM1 HN1
 rw [← hx] at HSX
 rw [← hy] at HSY
 clear hx hy hze b0 b1 b2 b3
 go_enter Tryz.func5, Tryz.ntmps5
 obtain ⟨W1, HW1, HB2, s1w, j1⟩ := st_al0 w #[.int .i64 n0, .int .i64 d0] 59
 have HBw := h0d j1
 obtain ⟨W3, HW3, HB4, s3w, j2⟩ := st_alk 1 2 #[.int .i64 n1, .int .i64 d1] 59 s1w rfl
 obtain ⟨W5, HW5, HB6, s5w, j3⟩ := st_alk 2 3 #[.int .i64 n2, .int .i64 d2] 59 s3w rfl
 obtain ⟨W7, HW7, HB8, s7w, j4⟩ := st_alk 3 4 #[.int .i64 n3, .int .i64 d3] 59 s5w rfl
 go_wp2_with fail
 rw [← HW1.out, ← HW3.out, ← HW5.out, ← HW7.out]
 obtain ⟨W9, hW9⟩ : ∃ W, W = W7.drew := ⟨_, rfl⟩
 have j5 : Below W7.heap.size W7 W9 := by rw [hW9]; exact (Below.refl _ _).drew
 have jm1 := tt (tt (tt j2 j3) j4) j5
 replace HB2 := kB HB2 jm1
 have jm2 := tt (tt j3 j4) j5
 replace HB4 := kB HB4 jm2
 have jm3 := tt j4 j5
 replace HB6 := kB HB6 jm3
 refine seq_start (S := fun w' => w'.cell? ⟨w.heap.size, 0, none⟩ = some (.int .i64 n0) ∧ w'.cell? ⟨w.heap.size, 1, none⟩ = some (.int .i64 d0) ∧ w'.cell? ⟨w.heap.size + 1, 0, none⟩ = some (.int .i64 n1) ∧ w'.cell? ⟨w.heap.size + 1, 1, none⟩ = some (.int .i64 d1) ∧ w'.cell? ⟨w.heap.size + 2, 0, none⟩ = some (.int .i64 n2) ∧ w'.cell? ⟨w.heap.size + 2, 1, none⟩ = some (.int .i64 d2)) (by kernel_rfl) (by kernel_rfl) (by rw [← hW9]; exact ⟨kD HB2 0, kD HB2 1, kD HB4 0, kD HB4 1, kD HB6 0, kD HB6 1⟩) ?_
 rw [← hW9]
 clear hW9
 replace HBw := kU HBw jm1
 have y1b2 := klt HB2
 have y1b4 := klt HB4
 have y1b6 := klt HB6
 replace HB8 := kB HB8 j5
 have y1b8 := klt HB8
 have l1w := ksz HBw
 have HSR1 : Hid (∀ w', Below W9.heap.size W9 w' → w'.cell? ⟨w.heap.size, 0, none⟩ = some (.int .i64 n0) ∧ w'.cell? ⟨w.heap.size, 1, none⟩ = some (.int .i64 d0) ∧ w'.cell? ⟨w.heap.size + 1, 0, none⟩ = some (.int .i64 n1) ∧ w'.cell? ⟨w.heap.size + 1, 1, none⟩ = some (.int .i64 d1) ∧ w'.cell? ⟨w.heap.size + 2, 0, none⟩ = some (.int .i64 n2) ∧ w'.cell? ⟨w.heap.size + 2, 1, none⟩ = some (.int .i64 d2)) := fun w' hb => ⟨kD (kB HB2 hb) 0, kD (kB HB2 hb) 1, kD (kB HB4 hb) 0, kD (kB HB4 hb) 1, kD (kB HB6 hb) 0, kD (kB HB6 hb) 1⟩
 refine tk0 (h := ?_)
 refine plq 1 (h := ?_)
 refine tk0 (h := ?_)
 refine plq 2 (h := ?_)
 refine tk0 (h := ?_)
 refine plq 9 (h := ?_)
 refine plq 9 (h := ?_)
 refine fStart (fs := [⟨_, 32, [.bool false, .slice none 0 0, .slice none 0 0], _⟩, ⟨_, 32, [.bool false, .slice none 0 0, .slice none 0 0], _⟩]) (h := fun st HFz => ?_)
 refine nrm (hb := by first | (simp only [puts, Act.put, List.setIfInBounds_toArray, List.set_cons_zero, List.set_cons_succ]; rfl)) (h := ?_)
 refine fOp HFz HSR1.out (h := fun st z10 j6 HFz K9 hK9 => ?_)
 go_simp
 refine mQ (HLc.out _) fun w1 g1a A1a k1a c1a A1b k1b c1b HR1 j1c => ?_
 replace HFz := h0d (HFz.out.below j1c)
 refine ckk hK9 (by exact HSR1.out _ HFz.out.bel) (h := ?_)
 clear hK9 K9
 refine fOp HFz HSR1.out (h := fun st z11 j7 HFz K9 hK9 => ?_)
 go_simp
 refine mQ (HLf.out _) fun w2 g2a A2a k2a c2a A2b k2b c2b HR2 j2c => ?_
 replace HFz := h0d (HFz.out.below j2c)
 refine ckk hK9 (by exact HSR1.out _ HFz.out.bel) (h := ?_)
 clear hK9 K9
 refine fOp HFz HSR1.out (h := fun st z12 j8 HFz K9 hK9 => ?_)
 go_simp
 refine mQ (HLg.out _) fun w3 g3a A3a k3a c3a A3b k3b c3b HR3 j3c => ?_
 replace HFz := h0d (HFz.out.below j3c)
 refine ckk hK9 (by exact HSR1.out _ HFz.out.bel) (h := ?_)
 clear hK9 K9
 refine fOp HFz HSR1.out (h := fun st z13 j9 HFz K9 hK9 => ?_)
 go_simp
 have jm4 := tt (tt (tt (tt j7 j2c) j8) j3c) j9
 replace HR1 := kV jm4 HR1
 have jm5 := tt (tt j8 j3c) j9
 replace HR2 := kV jm5 HR2
 replace HR3 := kV j9 HR3
 refine (HM1.out _ _ _ _ HR1.out HR2.out HR3.out).mono ?_
 rintro e w4 ⟨⟨vx, vy, rfl, hr, hr2⟩, j4c⟩
 obtain ⟨g4xa, A4xa, k4xa, c4xa, A4xb, k4xb, c4xb, rfl, hr⟩ := hr.open
 obtain ⟨g4ya, A4ya, k4ya, c4ya, A4yb, k4yb, c4yb, rfl, hr2⟩ := hr2.open
 have HR4 := h0d hr
 have HR4b := h0d hr2
 clear hr2
 clear hr
 replace HFz := h0d (HFz.out.below j4c)
 refine ckk hK9 (by exact HSR1.out _ HFz.out.bel) (h := ?_)
 clear hK9 K9
 refine fTk (h := ?_)
 refine fTk (h := ?_)
 refine fTk (h := ?_)
 refine fTk (h := ?_)
 refine fEnd HFz HSR1.out (h := fun st z14 j10 HFz hst => ?_)
 obtain ⟨g1_0, e0⟩ := hst 0 nlt
 obtain ⟨g1_1, e1⟩ := hst 1 nlt
 refine nrm (hb := by simp only [e0, e1, pv]; rfl) (h := ?_)
 have HB15 : Hid (z14.heap[g1_0]? = some (.cells #[.bool false, .slice none 0 0, .slice none 0 0] 32 (0, 0))) := (HFz.out.blk 0 _ g1_0 rfl e0).2
 have n2b15 := kne y1b2 HFz e0
 have n4b15 := kne y1b4 HFz e0
 have n6b15 := kne y1b6 HFz e0
 have n8b15 := kne y1b8 HFz e0
 have l15b := kle l1w HFz e0
 have HB16 : Hid (z14.heap[g1_1]? = some (.cells #[.bool false, .slice none 0 0, .slice none 0 0] 32 (0, 0))) := (HFz.out.blk 1 _ g1_1 rfl e1).2
 have n2b16 := kne y1b2 HFz e1
 have n4b16 := kne y1b4 HFz e1
 have n6b16 := kne y1b6 HFz e1
 have n8b16 := kne y1b8 HFz e1
 have n15b16 : Hid (g1_0 ≠ g1_1) := fun e => HFz.out.ne 0 1 _ (Nat.le_of_ble_eq_true rfl) (Nat.le_of_ble_eq_true rfl) (by decide) e0 (e ▸ e1)
 have l16b := kle l1w HFz e1
 clear HFz hst e0 e1
 refine sop (h := fun K9 hK9 => ?_)
 have t17h := kth 0 3 HB15
 refine smw 32 (g1_0) 0 (ht := by exact t17h) (h := ?_)
 obtain ⟨W18, HW18⟩ : ∃ W, Hid (W = z14.setCells (g1_0) 0 [.bool g4xa, .slice A4xa k4xa c4xa, .slice A4xb k4xb c4xb]) := ⟨_, rfl⟩
 have TW18 := kN (kM HW18) HB15 rfl rfl
 replace HB15 := kPf (kM HW18) HB15 rfl
 rw [← HW18.out]
 have jm6 := tt (tt (tt (tt (tt (tt (tt (tt j6 j1c) j7) j2c) j8) j3c) j9) j4c) j10
 replace HB2 := kO (kM HW18) (kB HB2 jm6) n2b15.out
 replace HB4 := kO (kM HW18) (kB HB4 jm6) n4b15.out
 replace HB6 := kO (kM HW18) (kB HB6 jm6) n6b15.out
 refine ckk hK9 (by exact ⟨kD HB2 0, kD HB2 1, kD HB4 0, kD HB4 1, kD HB6 0, kD HB6 1⟩) (h := ?_)
 clear hK9 K9 t17h
 refine sop (h := fun K9 hK9 => ?_)
 replace HB16 := kO (kM HW18) HB16 n15b16.out.symm
 have t19h := kth 0 3 HB16
 refine smw 32 (g1_1) 0 (ht := by exact t19h) (h := ?_)
 obtain ⟨W20, HW20⟩ : ∃ W, Hid (W = W18.setCells (g1_1) 0 [.bool g4ya, .slice A4ya k4ya c4ya, .slice A4yb k4yb c4yb]) := ⟨_, rfl⟩
 have TW20 := kN (kM HW20) HB16 rfl rfl
 replace HB16 := kPf (kM HW20) HB16 rfl
 rw [← HW20.out]
 replace HB2 := kO (kM HW20) HB2 n2b16.out
 replace HB4 := kO (kM HW20) HB4 n4b16.out
 replace HB6 := kO (kM HW20) HB6 n6b16.out
 refine ckk hK9 (by exact ⟨kD HB2 0, kD HB2 1, kD HB4 0, kD HB4 1, kD HB6 0, kD HB6 1⟩) (h := ?_)
 clear hK9 K9 t19h
 refine tk0 (h := ?_)
 refine seq_done (by kernel_rfl) ?_
 go_wp2_with fail
 obtain ⟨W21, hW21⟩ : ∃ W, W = W20.drew := ⟨_, rfl⟩
 have j11 : Below W20.heap.size W20 W21 := by rw [hW21]; exact (Below.refl _ _).drew
 replace HB2 := kB HB2 j11
 replace HB4 := kB HB4 j11
 replace HB6 := kB HB6 j11
 refine seq_start (S := fun w' => w'.cell? ⟨w.heap.size, 0, none⟩ = some (.int .i64 n0) ∧ w'.cell? ⟨w.heap.size, 1, none⟩ = some (.int .i64 d0) ∧ w'.cell? ⟨w.heap.size + 1, 0, none⟩ = some (.int .i64 n1) ∧ w'.cell? ⟨w.heap.size + 1, 1, none⟩ = some (.int .i64 d1) ∧ w'.cell? ⟨w.heap.size + 2, 0, none⟩ = some (.int .i64 n2) ∧ w'.cell? ⟨w.heap.size + 2, 1, none⟩ = some (.int .i64 d2)) (by kernel_rfl) (by kernel_rfl) (by rw [← hW21]; exact ⟨kD HB2 0, kD HB2 1, kD HB4 0, kD HB4 1, kD HB6 0, kD HB6 1⟩) ?_
 rw [← hW21]
 clear hW21
 replace HBw := kU (kS (kM HW20) l16b (kS (kM HW18) l15b (kU HBw jm6))) j11
 have y2b2 := klt HB2
 have y2b4 := klt HB4
 have y2b6 := klt HB6
 replace HB8 := kB (kO (kM HW20) (kO (kM HW18) (kB HB8 jm6) n8b15.out) n8b16.out) j11
 have y2b8 := klt HB8
 replace HB15 := kB (kO (kM HW20) HB15 n15b16.out) j11
 have y2b15 := klt HB15
 replace HB16 := kB HB16 j11
 have y2b16 := klt HB16
 have l2w := ksz HBw
 have HSR2 : Hid (∀ w', Below W21.heap.size W21 w' → w'.cell? ⟨w.heap.size, 0, none⟩ = some (.int .i64 n0) ∧ w'.cell? ⟨w.heap.size, 1, none⟩ = some (.int .i64 d0) ∧ w'.cell? ⟨w.heap.size + 1, 0, none⟩ = some (.int .i64 n1) ∧ w'.cell? ⟨w.heap.size + 1, 1, none⟩ = some (.int .i64 d1) ∧ w'.cell? ⟨w.heap.size + 2, 0, none⟩ = some (.int .i64 n2) ∧ w'.cell? ⟨w.heap.size + 2, 1, none⟩ = some (.int .i64 d2)) := fun w' hb => ⟨kD (kB HB2 hb) 0, kD (kB HB2 hb) 1, kD (kB HB4 hb) 0, kD (kB HB4 hb) 1, kD (kB HB6 hb) 0, kD (kB HB6 hb) 1⟩
 refine tk0 (h := ?_)
 refine plq 1 (h := ?_)
 refine tk0 (h := ?_)
 refine plq 2 (h := ?_)
 refine tk0 (h := ?_)
 refine plq 9 (h := ?_)
 refine plq 9 (h := ?_)
 refine fStart (fs := [⟨_, 40, [.bool false, .slice none 0 0, .slice none 0 0], _⟩, ⟨_, 40, [.bool false, .slice none 0 0, .slice none 0 0], _⟩]) (h := fun st HFz => ?_)
 refine nrm (hb := by first | (simp only [puts, Act.put, List.setIfInBounds_toArray, List.set_cons_zero, List.set_cons_succ]; rfl)) (h := ?_)
 refine fOp HFz HSR2.out (h := fun st z22 j12 HFz K9 hK9 => ?_)
 go_simp
 refine mQ (HRc.out _) fun w5 g5a A5a k5a c5a A5b k5b c5b HR5 j5c => ?_
 replace HFz := h0d (HFz.out.below j5c)
 refine ckk hK9 (by exact HSR2.out _ HFz.out.bel) (h := ?_)
 clear hK9 K9
 refine fOp HFz HSR2.out (h := fun st z23 j13 HFz K9 hK9 => ?_)
 go_simp
 refine mQ (HRf.out _) fun w6 g6a A6a k6a c6a A6b k6b c6b HR6 j6c => ?_
 replace HFz := h0d (HFz.out.below j6c)
 refine ckk hK9 (by exact HSR2.out _ HFz.out.bel) (h := ?_)
 clear hK9 K9
 refine fOp HFz HSR2.out (h := fun st z24 j14 HFz K9 hK9 => ?_)
 go_simp
 refine mQ (HRg.out _) fun w7 g7a A7a k7a c7a A7b k7b c7b HR7 j7c => ?_
 replace HFz := h0d (HFz.out.below j7c)
 refine ckk hK9 (by exact HSR2.out _ HFz.out.bel) (h := ?_)
 clear hK9 K9
 refine fOp HFz HSR2.out (h := fun st z25 j15 HFz K9 hK9 => ?_)
 go_simp
 have jm7 := tt (tt (tt (tt j13 j6c) j14) j7c) j15
 replace HR5 := kV jm7 HR5
 have jm8 := tt (tt j14 j7c) j15
 replace HR6 := kV jm8 HR6
 replace HR7 := kV j15 HR7
 refine (HN1.out _ _ _ _ HR5.out HR6.out HR7.out).mono ?_
 rintro e w8 ⟨⟨vx, vy, rfl, hr, hr2⟩, j8c⟩
 obtain ⟨g8xa, A8xa, k8xa, c8xa, A8xb, k8xb, c8xb, rfl, hr⟩ := hr.open
 obtain ⟨g8ya, A8ya, k8ya, c8ya, A8yb, k8yb, c8yb, rfl, hr2⟩ := hr2.open
 have HR8 := h0d hr
 have HR8b := h0d hr2
 clear hr2
 clear hr
 replace HFz := h0d (HFz.out.below j8c)
 refine ckk hK9 (by exact HSR2.out _ HFz.out.bel) (h := ?_)
 clear hK9 K9
 refine fTk (h := ?_)
 refine fTk (h := ?_)
 refine fTk (h := ?_)
 refine fTk (h := ?_)
 refine fEnd HFz HSR2.out (h := fun st z26 j16 HFz hst => ?_)
 obtain ⟨g2_0, e0⟩ := hst 0 nlt
 obtain ⟨g2_1, e1⟩ := hst 1 nlt
 refine nrm (hb := by simp only [e0, e1, pv]; rfl) (h := ?_)
 have HB27 : Hid (z26.heap[g2_0]? = some (.cells #[.bool false, .slice none 0 0, .slice none 0 0] 40 (0, 0))) := (HFz.out.blk 0 _ g2_0 rfl e0).2
 have n2b27 := kne y2b2 HFz e0
 have n4b27 := kne y2b4 HFz e0
 have n6b27 := kne y2b6 HFz e0
 have n8b27 := kne y2b8 HFz e0
 have n15b27 := kne y2b15 HFz e0
 have n16b27 := kne y2b16 HFz e0
 have l27b := kle l2w HFz e0
 have HB28 : Hid (z26.heap[g2_1]? = some (.cells #[.bool false, .slice none 0 0, .slice none 0 0] 40 (0, 0))) := (HFz.out.blk 1 _ g2_1 rfl e1).2
 have n2b28 := kne y2b2 HFz e1
 have n4b28 := kne y2b4 HFz e1
 have n6b28 := kne y2b6 HFz e1
 have n8b28 := kne y2b8 HFz e1
 have n15b28 := kne y2b15 HFz e1
 have n16b28 := kne y2b16 HFz e1
 have n27b28 : Hid (g2_0 ≠ g2_1) := fun e => HFz.out.ne 0 1 _ (Nat.le_of_ble_eq_true rfl) (Nat.le_of_ble_eq_true rfl) (by decide) e0 (e ▸ e1)
 have l28b := kle l2w HFz e1
 clear HFz hst e0 e1
 refine sop (h := fun K9 hK9 => ?_)
 have t29h := kth 0 3 HB27
 refine smw 40 (g2_0) 0 (ht := by exact t29h) (h := ?_)
 obtain ⟨W30, HW30⟩ : ∃ W, Hid (W = z26.setCells (g2_0) 0 [.bool g8xa, .slice A8xa k8xa c8xa, .slice A8xb k8xb c8xb]) := ⟨_, rfl⟩
 have TW30 := kN (kM HW30) HB27 rfl rfl
 replace HB27 := kPf (kM HW30) HB27 rfl
 rw [← HW30.out]
 have jm9 := tt (tt (tt (tt (tt (tt (tt (tt j12 j5c) j13) j6c) j14) j7c) j15) j8c) j16
 replace HB2 := kO (kM HW30) (kB HB2 jm9) n2b27.out
 replace HB4 := kO (kM HW30) (kB HB4 jm9) n4b27.out
 replace HB6 := kO (kM HW30) (kB HB6 jm9) n6b27.out
 refine ckk hK9 (by exact ⟨kD HB2 0, kD HB2 1, kD HB4 0, kD HB4 1, kD HB6 0, kD HB6 1⟩) (h := ?_)
 clear hK9 K9 t29h
 refine sop (h := fun K9 hK9 => ?_)
 replace HB28 := kO (kM HW30) HB28 n27b28.out.symm
 have t31h := kth 0 3 HB28
 refine smw 40 (g2_1) 0 (ht := by exact t31h) (h := ?_)
 obtain ⟨W32, HW32⟩ : ∃ W, Hid (W = W30.setCells (g2_1) 0 [.bool g8ya, .slice A8ya k8ya c8ya, .slice A8yb k8yb c8yb]) := ⟨_, rfl⟩
 have TW32 := kN (kM HW32) HB28 rfl rfl
 replace HB28 := kPf (kM HW32) HB28 rfl
 rw [← HW32.out]
 replace HB2 := kO (kM HW32) HB2 n2b28.out
 replace HB4 := kO (kM HW32) HB4 n4b28.out
 replace HB6 := kO (kM HW32) HB6 n6b28.out
 refine ckk hK9 (by exact ⟨kD HB2 0, kD HB2 1, kD HB4 0, kD HB4 1, kD HB6 0, kD HB6 1⟩) (h := ?_)
 clear hK9 K9 t31h
 refine tk0 (h := ?_)
 refine seq_done (by kernel_rfl) ?_
 replace HB15 := kO (kM HW32) (kO (kM HW30) (kB HB15 jm9) n15b27.out) n15b28.out
 have c33 := kC HB15 0 rfl
 have c34 := kC HB15 1 rfl
 have c35 := kC HB15 2 rfl
 replace HB27 := kO (kM HW32) HB27 n27b28.out
 have c36 := kC HB27 0 rfl
 have c37 := kC HB27 1 rfl
 have c38 := kC HB27 2 rfl
 go_wp2_with fail
 clear c33 c34 c35 c36 c37 c38
 have jm10 := tt j11 jm9
 replace HR4 := kW TW32 (kW TW30 (kV jm10 (kW TW20 (kW TW18 (kV j10 HR4)))))
 replace HR8 := kW TW32 (kW TW30 (kV j16 HR8))
 refine mV (is_any _ _ x _ HR4.out HR8.out (HSX.out.up (by omega))) fun w9 j9c => ?_
 replace HB16 := kB (kO (kM HW32) (kO (kM HW30) (kB HB16 jm9) n16b27.out) n16b28.out) j9c
 have c39 := kC HB16 0 rfl
 have c40 := kC HB16 1 rfl
 have c41 := kC HB16 2 rfl
 replace HB28 := kB HB28 j9c
 have c42 := kC HB28 0 rfl
 have c43 := kC HB28 1 rfl
 have c44 := kC HB28 2 rfl
 go_wp2_with fail
 clear c39 c40 c41 c42 c43 c44
 replace HR4b := kV j9c (kW TW32 (kW TW30 (kV jm10 (kW TW20 (kW TW18 (kV j10 HR4b))))))
 replace HR8b := kV j9c (kW TW32 (kW TW30 (kV j16 HR8b)))
 refine mV (is_any _ _ y _ HR4b.out HR8b.out (HSY.out.up (by omega))) fun w10 j10c => ?_
 clear HR1
 clear HR2
 clear HR3
 clear HR4b
 clear HR5
 clear HR6
 clear HR7
 clear HR8
 clear HR8b
 have jm11 := tt j9c j10c
 replace HBw := kU (kS (kM HW32) l28b (kS (kM HW30) l27b (kU HBw jm9))) jm11
 replace HB2 := kB HB2 jm11
 replace HB4 := kB HB4 jm11
 replace HB6 := kB HB6 jm11
 replace HB8 := kB (kO (kM HW32) (kO (kM HW30) (kB HB8 jm9) n8b27.out) n8b28.out) jm11
 replace HR4 := kV jm11 HR4
 replace HB15 := kB HB15 jm11
 replace HB16 := kB HB16 j10c
 replace HB27 := kB HB27 jm11
 replace HB28 := kB HB28 j10c
 by_cases he : ze = 0
 rotate_left
 ·have heb : (ze == 0) = false := beq_false_of_ne he
  clear HZ HXV HLk HLc HLf HLg
  go_wp2_with fail
  refine mV (awake_any _) fun w11 j11c => ?_
  go_wp2_with fail
  go_ret
  replace HBw := kU HBw j11c
  exact ⟨rfl, HBw.out⟩
 subst he
 obtain ⟨s1, s2, s3⟩ := lif_back HZ.out
 obtain ⟨t1, t2⟩ := lif_two (k := k) HZ.out
 rw [HXV.out] at s1 s2 t1 t2
 have HM2 : Hid (∀ W v u t, RdQ W v x → RdQ W u g → RdQ W t f → Calls Tryz.prog 26 #[v, u, t] W fun e w' => (∃ v1 v2, e = .returned (.tuple #[v1, v2, .int .i64 0]) ∧ RdQ w' v1 c ∧ RdQ w' v2 (lifW x g f)) ∧ Below W.heap.size W w') := fun W v u t h1 h2 h3 => by have := lift_all v u t x g f W h1 h2 h3 (HSX.out.up (by omega)) (HQg.out.up (by omega)) (HQf.out.up (by omega)); rwa [s1, s2] at this
 have HM3 : Hid (∀ W v u t, RdQ W v x → RdQ W u g → RdQ W t k → Calls Tryz.prog 26 #[v, u, t] W fun e w' => (∃ v1 v2, e = .returned (.tuple #[v1, v2, .int .i64 (lifE c f k)]) ∧ RdQ w' v1 (lifV c f k) ∧ RdQ w' v2 (lifW x g k)) ∧ Below W.heap.size W w') := fun W v u t h1 h2 h3 => by have := lift_all v u t x g k W h1 h2 h3 (HSX.out.up (by omega)) (HQg.out.up (by omega)) (HQk.out.up (by omega)); rwa [t1, t2] at this
 have HM4 : Hid (∀ W v u t, RdQ W v c → RdQ W u f → RdQ W t k → Calls Tryz.prog 26 #[v, u, t] W fun e w' => (∃ v1 v2, e = .returned (.tuple #[v1, v2, .int .i64 (lifE c f k)]) ∧ RdQ w' v1 (lifV c f k) ∧ RdQ w' v2 (lifW c f k)) ∧ Below W.heap.size W w') := fun W v u t h1 h2 h3 => lift_all v u t c f k W h1 h2 h3 (HQc.out.up (by omega)) (HQf.out.up (by omega)) (HQk.out.up (by omega))
 obtain ⟨z2, hz2⟩ : ∃ y, y = lifW x g f := ⟨_, rfl⟩
 obtain ⟨z3, hz3⟩ : ∃ y, y = lifW x g k := ⟨_, rfl⟩
 rw [← hz2] at HM2
 rw [← hz3] at HM3
 obtain ⟨ve, hve⟩ : ∃ y, y = lifE c f k := ⟨_, rfl⟩
 obtain ⟨vv, hvv⟩ : ∃ y, y = lifV c f k := ⟨_, rfl⟩
 obtain ⟨vw, hvw⟩ : ∃ y, y = lifW c f k := ⟨_, rfl⟩
 rw [← hve, ← hvv] at HM3 HM4
 rw [← hvw] at HM4
 clear hz2 hz3 hve hvv hvw s1 s2 s3 t1 t2 HZ HXV HQc HQf HQg HQk
 go_wp2_with fail
 obtain ⟨W45, hW45⟩ : ∃ W, W = w10.drew := ⟨_, rfl⟩
 have j17 : Below w10.heap.size w10 W45 := by rw [hW45]; exact (Below.refl _ _).drew
 replace HB15 := kB HB15 j17
 replace HB6 := kB HB6 j17
 replace HB4 := kB HB4 j17
 refine seq_start (S := fun w' => w'.cell? ⟨g1_0, 0, none⟩ = some (.bool g4xa) ∧ w'.cell? ⟨g1_0, 1, none⟩ = some (.slice A4xa k4xa c4xa) ∧ w'.cell? ⟨g1_0, 2, none⟩ = some (.slice A4xb k4xb c4xb) ∧ w'.cell? ⟨w.heap.size + 2, 0, none⟩ = some (.int .i64 n2) ∧ w'.cell? ⟨w.heap.size + 2, 1, none⟩ = some (.int .i64 d2) ∧ w'.cell? ⟨w.heap.size + 1, 0, none⟩ = some (.int .i64 n1) ∧ w'.cell? ⟨w.heap.size + 1, 1, none⟩ = some (.int .i64 d1)) (by kernel_rfl) (by kernel_rfl) (by rw [← hW45]; exact ⟨kD HB15 0, kD HB15 1, kD HB15 2, kD HB6 0, kD HB6 1, kD HB4 0, kD HB4 1⟩) ?_
 rw [← hW45]
 clear hW45
 replace HBw := kU HBw j17
 replace HB2 := kB HB2 j17
 have y3b2 := klt HB2
 have y3b4 := klt HB4
 have y3b6 := klt HB6
 replace HB8 := kB HB8 j17
 have y3b8 := klt HB8
 have y3b15 := klt HB15
 replace HB16 := kB HB16 j17
 have y3b16 := klt HB16
 replace HB27 := kB HB27 j17
 have y3b27 := klt HB27
 replace HB28 := kB HB28 j17
 have y3b28 := klt HB28
 have l3w := ksz HBw
 have HSR3 : Hid (∀ w', Below W45.heap.size W45 w' → w'.cell? ⟨g1_0, 0, none⟩ = some (.bool g4xa) ∧ w'.cell? ⟨g1_0, 1, none⟩ = some (.slice A4xa k4xa c4xa) ∧ w'.cell? ⟨g1_0, 2, none⟩ = some (.slice A4xb k4xb c4xb) ∧ w'.cell? ⟨w.heap.size + 2, 0, none⟩ = some (.int .i64 n2) ∧ w'.cell? ⟨w.heap.size + 2, 1, none⟩ = some (.int .i64 d2) ∧ w'.cell? ⟨w.heap.size + 1, 0, none⟩ = some (.int .i64 n1) ∧ w'.cell? ⟨w.heap.size + 1, 1, none⟩ = some (.int .i64 d1)) := fun w' hb => ⟨kD (kB HB15 hb) 0, kD (kB HB15 hb) 1, kD (kB HB15 hb) 2, kD (kB HB6 hb) 0, kD (kB HB6 hb) 1, kD (kB HB4 hb) 0, kD (kB HB4 hb) 1⟩
 iterate 2 refine tk0 (h := ?_)
 refine plq 1 (h := ?_)
 refine tk0 (h := ?_)
 refine plq 8 (h := ?_)
 refine plq 8 (h := ?_)
 refine fStart (fs := [⟨_, 32, [.bool false, .slice none 0 0, .slice none 0 0], _⟩, ⟨_, 32, [.bool false, .slice none 0 0, .slice none 0 0], _⟩]) (h := fun st HFz => ?_)
 refine nrm (hb := by first | (simp only [puts, Act.put, List.setIfInBounds_toArray, List.set_cons_zero, List.set_cons_succ]; rfl)) (h := ?_)
 refine fOp HFz HSR3.out (h := fun st z46 j18 HFz K9 hK9 => ?_)
 go_simp
 refine mQ (HLg.out _) fun w11 g11a A11a k11a c11a A11b k11b c11b HR11 j11c => ?_
 replace HFz := h0d (HFz.out.below j11c)
 refine ckk hK9 (by exact HSR3.out _ HFz.out.bel) (h := ?_)
 clear hK9 K9
 refine fOp HFz HSR3.out (h := fun st z47 j19 HFz K9 hK9 => ?_)
 go_simp
 refine mQ (HLf.out _) fun w12 g12a A12a k12a c12a A12b k12b c12b HR12 j12c => ?_
 replace HFz := h0d (HFz.out.below j12c)
 refine ckk hK9 (by exact HSR3.out _ HFz.out.bel) (h := ?_)
 clear hK9 K9
 refine fOp HFz HSR3.out (h := fun st z48 j20 HFz K9 hK9 => ?_)
 go_simp
 have jm12 := tt (tt (tt (tt (tt j17 j18) j11c) j19) j12c) j20
 replace HR4 := kV jm12 HR4
 have jm13 := tt (tt j19 j12c) j20
 replace HR11 := kV jm13 HR11
 replace HR12 := kV j20 HR12
 refine (HM2.out _ _ _ _ HR4.out HR11.out HR12.out).mono ?_
 rintro e w13 ⟨⟨vx, vy, rfl, hr, hr2⟩, j13c⟩
 obtain ⟨g13xa, A13xa, k13xa, c13xa, A13xb, k13xb, c13xb, rfl, hr⟩ := hr.open
 obtain ⟨g13ya, A13ya, k13ya, c13ya, A13yb, k13yb, c13yb, rfl, hr2⟩ := hr2.open
 have HR13 := h0d hr
 have HR13b := h0d hr2
 clear hr2
 clear hr
 replace HFz := h0d (HFz.out.below j13c)
 refine ckk hK9 (by exact HSR3.out _ HFz.out.bel) (h := ?_)
 clear hK9 K9
 refine fTk (h := ?_)
 refine fTk (h := ?_)
 refine fTk (h := ?_)
 refine fTk (h := ?_)
 refine fEnd HFz HSR3.out (h := fun st z49 j21 HFz hst => ?_)
 obtain ⟨g3_0, e0⟩ := hst 0 nlt
 obtain ⟨g3_1, e1⟩ := hst 1 nlt
 refine nrm (hb := by simp only [e0, e1, pv]; rfl) (h := ?_)
 have HB50 : Hid (z49.heap[g3_0]? = some (.cells #[.bool false, .slice none 0 0, .slice none 0 0] 32 (0, 0))) := (HFz.out.blk 0 _ g3_0 rfl e0).2
 have n2b50 := kne y3b2 HFz e0
 have n4b50 := kne y3b4 HFz e0
 have n6b50 := kne y3b6 HFz e0
 have n8b50 := kne y3b8 HFz e0
 have n15b50 := kne y3b15 HFz e0
 have n16b50 := kne y3b16 HFz e0
 have n27b50 := kne y3b27 HFz e0
 have n28b50 := kne y3b28 HFz e0
 have l50b := kle l3w HFz e0
 have HB51 : Hid (z49.heap[g3_1]? = some (.cells #[.bool false, .slice none 0 0, .slice none 0 0] 32 (0, 0))) := (HFz.out.blk 1 _ g3_1 rfl e1).2
 have n2b51 := kne y3b2 HFz e1
 have n4b51 := kne y3b4 HFz e1
 have n6b51 := kne y3b6 HFz e1
 have n8b51 := kne y3b8 HFz e1
 have n15b51 := kne y3b15 HFz e1
 have n16b51 := kne y3b16 HFz e1
 have n27b51 := kne y3b27 HFz e1
 have n28b51 := kne y3b28 HFz e1
 have n50b51 : Hid (g3_0 ≠ g3_1) := fun e => HFz.out.ne 0 1 _ (Nat.le_of_ble_eq_true rfl) (Nat.le_of_ble_eq_true rfl) (by decide) e0 (e ▸ e1)
 have l51b := kle l3w HFz e1
 clear HFz hst e0 e1
 refine sop (h := fun K9 hK9 => ?_)
 have t52h := kth 0 3 HB50
 refine smw 32 (g3_0) 0 (ht := by exact t52h) (h := ?_)
 obtain ⟨W53, HW53⟩ : ∃ W, Hid (W = z49.setCells (g3_0) 0 [.bool g13xa, .slice A13xa k13xa c13xa, .slice A13xb k13xb c13xb]) := ⟨_, rfl⟩
 have TW53 := kN (kM HW53) HB50 rfl rfl
 replace HB50 := kPf (kM HW53) HB50 rfl
 rw [← HW53.out]
 have jm14 := tt (tt (tt (tt (tt (tt j18 j11c) j19) j12c) j20) j13c) j21
 replace HB15 := kO (kM HW53) (kB HB15 jm14) n15b50.out
 replace HB6 := kO (kM HW53) (kB HB6 jm14) n6b50.out
 replace HB4 := kO (kM HW53) (kB HB4 jm14) n4b50.out
 refine ckk hK9 (by exact ⟨kD HB15 0, kD HB15 1, kD HB15 2, kD HB6 0, kD HB6 1, kD HB4 0, kD HB4 1⟩) (h := ?_)
 clear hK9 K9 t52h
 refine sop (h := fun K9 hK9 => ?_)
 replace HB51 := kO (kM HW53) HB51 n50b51.out.symm
 have t54h := kth 0 3 HB51
 refine smw 32 (g3_1) 0 (ht := by exact t54h) (h := ?_)
 obtain ⟨W55, HW55⟩ : ∃ W, Hid (W = W53.setCells (g3_1) 0 [.bool g13ya, .slice A13ya k13ya c13ya, .slice A13yb k13yb c13yb]) := ⟨_, rfl⟩
 have TW55 := kN (kM HW55) HB51 rfl rfl
 replace HB51 := kPf (kM HW55) HB51 rfl
 rw [← HW55.out]
 replace HB15 := kO (kM HW55) HB15 n15b51.out
 replace HB6 := kO (kM HW55) HB6 n6b51.out
 replace HB4 := kO (kM HW55) HB4 n4b51.out
 refine ckk hK9 (by exact ⟨kD HB15 0, kD HB15 1, kD HB15 2, kD HB6 0, kD HB6 1, kD HB4 0, kD HB4 1⟩) (h := ?_)
 clear hK9 K9 t54h
 refine tk0 (h := ?_)
 refine seq_done (by kernel_rfl) ?_
 go_wp2_with fail
 obtain ⟨W56, hW56⟩ : ∃ W, W = W55.drew := ⟨_, rfl⟩
 have j22 : Below W55.heap.size W55 W56 := by rw [hW56]; exact (Below.refl _ _).drew
 replace HB50 := kB (kO (kM HW55) HB50 n50b51.out) j22
 replace HB2 := kB (kO (kM HW55) (kO (kM HW53) (kB HB2 jm14) n2b50.out) n2b51.out) j22
 refine seq_start (S := fun w' => w'.cell? ⟨g3_0, 0, none⟩ = some (.bool g13xa) ∧ w'.cell? ⟨g3_0, 1, none⟩ = some (.slice A13xa k13xa c13xa) ∧ w'.cell? ⟨g3_0, 2, none⟩ = some (.slice A13xb k13xb c13xb) ∧ w'.cell? ⟨w.heap.size, 0, none⟩ = some (.int .i64 n0) ∧ w'.cell? ⟨w.heap.size, 1, none⟩ = some (.int .i64 d0)) (by kernel_rfl) (by kernel_rfl) (by rw [← hW56]; exact ⟨kD HB50 0, kD HB50 1, kD HB50 2, kD HB2 0, kD HB2 1⟩) ?_
 rw [← hW56]
 clear hW56
 iterate 3 refine tk0 (h := ?_)
 iterate 2 refine tkG (h := ?_)
 refine sop (h := fun K9 hK9 => ?_)
 go_simp
 refine mQ (HLc.out _) fun w14 g14a A14a k14a c14a A14b k14b c14b HR14 j14c => ?_
 replace HB50 := kB HB50 j14c
 replace HB2 := kB HB2 j14c
 refine ckk hK9 (by exact ⟨kD HB50 0, kD HB50 1, kD HB50 2, kD HB2 0, kD HB2 1⟩) (h := ?_)
 clear hK9 K9
 refine sop (h := fun K9 hK9 => ?_)
 go_simp
 have jm15 := tt j22 j14c
 replace HR13 := kV jm15 (kW TW55 (kW TW53 (kV j21 HR13)))
 refine mV (qsame_yes _ _ c _ HR13.out HR14.out) fun w15 j15c => ?_
 replace HB50 := kB HB50 j15c
 replace HB2 := kB HB2 j15c
 refine ckk hK9 (by exact ⟨kD HB50 0, kD HB50 1, kD HB50 2, kD HB2 0, kD HB2 1⟩) (h := ?_)
 clear hK9 K9
 refine tkG (h := ?_)
 refine tk0 (h := ?_)
 refine seq_done (by kernel_rfl) ?_
 go_wp2_with fail
 obtain ⟨W57, hW57⟩ : ∃ W, W = w15.drew := ⟨_, rfl⟩
 have j23 : Below w15.heap.size w15 W57 := by rw [hW57]; exact (Below.refl _ _).drew
 have jm16 := tt (tt jm15 j15c) j23
 replace HB15 := kB HB15 jm16
 replace HB6 := kB HB6 jm16
 replace HB8 := kB (kO (kM HW55) (kO (kM HW53) (kB HB8 jm14) n8b50.out) n8b51.out) jm16
 refine seq_start (S := fun w' => w'.cell? ⟨g1_0, 0, none⟩ = some (.bool g4xa) ∧ w'.cell? ⟨g1_0, 1, none⟩ = some (.slice A4xa k4xa c4xa) ∧ w'.cell? ⟨g1_0, 2, none⟩ = some (.slice A4xb k4xb c4xb) ∧ w'.cell? ⟨w.heap.size + 2, 0, none⟩ = some (.int .i64 n2) ∧ w'.cell? ⟨w.heap.size + 2, 1, none⟩ = some (.int .i64 d2) ∧ w'.cell? ⟨w.heap.size + 3, 0, none⟩ = some (.int .i64 n3) ∧ w'.cell? ⟨w.heap.size + 3, 1, none⟩ = some (.int .i64 d3)) (by kernel_rfl) (by kernel_rfl) (by rw [← hW57]; exact ⟨kD HB15 0, kD HB15 1, kD HB15 2, kD HB6 0, kD HB6 1, kD HB8 0, kD HB8 1⟩) ?_
 rw [← hW57]
 clear hW57
 replace HBw := kU (kS (kM HW55) l51b (kS (kM HW53) l50b (kU HBw jm14))) jm16
 replace HB2 := kB HB2 j23
 have y4b2 := klt HB2
 replace HB4 := kB HB4 jm16
 have y4b4 := klt HB4
 have y4b6 := klt HB6
 have y4b8 := klt HB8
 have y4b15 := klt HB15
 replace HB16 := kB (kO (kM HW55) (kO (kM HW53) (kB HB16 jm14) n16b50.out) n16b51.out) jm16
 have y4b16 := klt HB16
 replace HB27 := kB (kO (kM HW55) (kO (kM HW53) (kB HB27 jm14) n27b50.out) n27b51.out) jm16
 have y4b27 := klt HB27
 replace HB28 := kB (kO (kM HW55) (kO (kM HW53) (kB HB28 jm14) n28b50.out) n28b51.out) jm16
 have y4b28 := klt HB28
 replace HB50 := kB HB50 j23
 have y4b50 := klt HB50
 replace HB51 := kB HB51 jm16
 have y4b51 := klt HB51
 have l4w := ksz HBw
 have HSR4 : Hid (∀ w', Below W57.heap.size W57 w' → w'.cell? ⟨g1_0, 0, none⟩ = some (.bool g4xa) ∧ w'.cell? ⟨g1_0, 1, none⟩ = some (.slice A4xa k4xa c4xa) ∧ w'.cell? ⟨g1_0, 2, none⟩ = some (.slice A4xb k4xb c4xb) ∧ w'.cell? ⟨w.heap.size + 2, 0, none⟩ = some (.int .i64 n2) ∧ w'.cell? ⟨w.heap.size + 2, 1, none⟩ = some (.int .i64 d2) ∧ w'.cell? ⟨w.heap.size + 3, 0, none⟩ = some (.int .i64 n3) ∧ w'.cell? ⟨w.heap.size + 3, 1, none⟩ = some (.int .i64 d3)) := fun w' hb => ⟨kD (kB HB15 hb) 0, kD (kB HB15 hb) 1, kD (kB HB15 hb) 2, kD (kB HB6 hb) 0, kD (kB HB6 hb) 1, kD (kB HB8 hb) 0, kD (kB HB8 hb) 1⟩
 iterate 2 refine tk0 (h := ?_)
 refine plq 1 (h := ?_)
 refine tk0 (h := ?_)
 refine plq 8 (h := ?_)
 refine plq 8 (h := ?_)
 refine fStart (fs := [⟨_, 32, [.bool false, .slice none 0 0, .slice none 0 0], _⟩, ⟨_, 32, [.bool false, .slice none 0 0, .slice none 0 0], _⟩]) (h := fun st HFz => ?_)
 refine nrm (hb := by first | (simp only [puts, Act.put, List.setIfInBounds_toArray, List.set_cons_zero, List.set_cons_succ]; rfl)) (h := ?_)
 refine fOp HFz HSR4.out (h := fun st z58 j24 HFz K9 hK9 => ?_)
 go_simp
 refine mQ (HLg.out _) fun w16 g16a A16a k16a c16a A16b k16b c16b HR16 j16c => ?_
 replace HFz := h0d (HFz.out.below j16c)
 refine ckk hK9 (by exact HSR4.out _ HFz.out.bel) (h := ?_)
 clear hK9 K9
 refine fOp HFz HSR4.out (h := fun st z59 j25 HFz K9 hK9 => ?_)
 go_simp
 refine mQ (HLk.out _) fun w17 g17a A17a k17a c17a A17b k17b c17b HR17 j17c => ?_
 replace HFz := h0d (HFz.out.below j17c)
 refine ckk hK9 (by exact HSR4.out _ HFz.out.bel) (h := ?_)
 clear hK9 K9
 refine fOp HFz HSR4.out (h := fun st z60 j26 HFz K9 hK9 => ?_)
 go_simp
 have jm17 := tt j13c j21
 have jm18 := tt (tt (tt (tt (tt jm16 j24) j16c) j25) j17c) j26
 replace HR4 := kV jm18 (kW TW55 (kW TW53 (kV jm17 HR4)))
 have jm19 := tt (tt j25 j17c) j26
 replace HR16 := kV jm19 HR16
 replace HR17 := kV j26 HR17
 refine (HM3.out _ _ _ _ HR4.out HR16.out HR17.out).mono ?_
 rintro e w18 ⟨⟨vx, vy, rfl, hr, hr2⟩, j18c⟩
 obtain ⟨g18xa, A18xa, k18xa, c18xa, A18xb, k18xb, c18xb, rfl, hr⟩ := hr.open
 obtain ⟨g18ya, A18ya, k18ya, c18ya, A18yb, k18yb, c18yb, rfl, hr2⟩ := hr2.open
 have HR18 := h0d hr
 have HR18b := h0d hr2
 clear hr2
 clear hr
 replace HFz := h0d (HFz.out.below j18c)
 refine ckk hK9 (by exact HSR4.out _ HFz.out.bel) (h := ?_)
 clear hK9 K9
 refine fTk (h := ?_)
 refine fTk (h := ?_)
 refine fTk (h := ?_)
 refine fTk (h := ?_)
 refine fEnd HFz HSR4.out (h := fun st z61 j27 HFz hst => ?_)
 obtain ⟨g4_0, e0⟩ := hst 0 nlt
 obtain ⟨g4_1, e1⟩ := hst 1 nlt
 refine nrm (hb := by simp only [e0, e1, pv]; rfl) (h := ?_)
 have HB62 : Hid (z61.heap[g4_0]? = some (.cells #[.bool false, .slice none 0 0, .slice none 0 0] 32 (0, 0))) := (HFz.out.blk 0 _ g4_0 rfl e0).2
 have n2b62 := kne y4b2 HFz e0
 have n4b62 := kne y4b4 HFz e0
 have n6b62 := kne y4b6 HFz e0
 have n8b62 := kne y4b8 HFz e0
 have n15b62 := kne y4b15 HFz e0
 have n16b62 := kne y4b16 HFz e0
 have n27b62 := kne y4b27 HFz e0
 have n28b62 := kne y4b28 HFz e0
 have n50b62 := kne y4b50 HFz e0
 have n51b62 := kne y4b51 HFz e0
 have l62b := kle l4w HFz e0
 have HB63 : Hid (z61.heap[g4_1]? = some (.cells #[.bool false, .slice none 0 0, .slice none 0 0] 32 (0, 0))) := (HFz.out.blk 1 _ g4_1 rfl e1).2
 have n2b63 := kne y4b2 HFz e1
 have n4b63 := kne y4b4 HFz e1
 have n6b63 := kne y4b6 HFz e1
 have n8b63 := kne y4b8 HFz e1
 have n15b63 := kne y4b15 HFz e1
 have n16b63 := kne y4b16 HFz e1
 have n27b63 := kne y4b27 HFz e1
 have n28b63 := kne y4b28 HFz e1
 have n50b63 := kne y4b50 HFz e1
 have n51b63 := kne y4b51 HFz e1
 have n62b63 : Hid (g4_0 ≠ g4_1) := fun e => HFz.out.ne 0 1 _ (Nat.le_of_ble_eq_true rfl) (Nat.le_of_ble_eq_true rfl) (by decide) e0 (e ▸ e1)
 have l63b := kle l4w HFz e1
 clear HFz hst e0 e1
 refine sop (h := fun K9 hK9 => ?_)
 have t64h := kth 0 3 HB62
 refine smw 32 (g4_0) 0 (ht := by exact t64h) (h := ?_)
 obtain ⟨W65, HW65⟩ : ∃ W, Hid (W = z61.setCells (g4_0) 0 [.bool g18xa, .slice A18xa k18xa c18xa, .slice A18xb k18xb c18xb]) := ⟨_, rfl⟩
 have TW65 := kN (kM HW65) HB62 rfl rfl
 replace HB62 := kPf (kM HW65) HB62 rfl
 rw [← HW65.out]
 have jm20 := tt (tt (tt (tt (tt (tt j24 j16c) j25) j17c) j26) j18c) j27
 replace HB15 := kO (kM HW65) (kB HB15 jm20) n15b62.out
 replace HB6 := kO (kM HW65) (kB HB6 jm20) n6b62.out
 replace HB8 := kO (kM HW65) (kB HB8 jm20) n8b62.out
 refine ckk hK9 (by exact ⟨kD HB15 0, kD HB15 1, kD HB15 2, kD HB6 0, kD HB6 1, kD HB8 0, kD HB8 1⟩) (h := ?_)
 clear hK9 K9 t64h
 refine sop (h := fun K9 hK9 => ?_)
 replace HB63 := kO (kM HW65) HB63 n62b63.out.symm
 have t66h := kth 0 3 HB63
 refine smw 32 (g4_1) 0 (ht := by exact t66h) (h := ?_)
 obtain ⟨W67, HW67⟩ : ∃ W, Hid (W = W65.setCells (g4_1) 0 [.bool g18ya, .slice A18ya k18ya c18ya, .slice A18yb k18yb c18yb]) := ⟨_, rfl⟩
 have TW67 := kN (kM HW67) HB63 rfl rfl
 replace HB63 := kPf (kM HW67) HB63 rfl
 rw [← HW67.out]
 replace HB15 := kO (kM HW67) HB15 n15b63.out
 replace HB6 := kO (kM HW67) HB6 n6b63.out
 replace HB8 := kO (kM HW67) HB8 n8b63.out
 refine ckk hK9 (by exact ⟨kD HB15 0, kD HB15 1, kD HB15 2, kD HB6 0, kD HB6 1, kD HB8 0, kD HB8 1⟩) (h := ?_)
 clear hK9 K9 t66h
 refine tk0 (h := ?_)
 refine seq_done (by kernel_rfl) ?_
 go_wp2_with fail
 obtain ⟨W68, hW68⟩ : ∃ W, W = W67.drew := ⟨_, rfl⟩
 have j28 : Below W67.heap.size W67 W68 := by rw [hW68]; exact (Below.refl _ _).drew
 replace HB2 := kB (kO (kM HW67) (kO (kM HW65) (kB HB2 jm20) n2b62.out) n2b63.out) j28
 replace HB4 := kB (kO (kM HW67) (kO (kM HW65) (kB HB4 jm20) n4b62.out) n4b63.out) j28
 replace HB8 := kB HB8 j28
 refine seq_start (S := fun w' => w'.cell? ⟨w.heap.size, 0, none⟩ = some (.int .i64 n0) ∧ w'.cell? ⟨w.heap.size, 1, none⟩ = some (.int .i64 d0) ∧ w'.cell? ⟨w.heap.size + 1, 0, none⟩ = some (.int .i64 n1) ∧ w'.cell? ⟨w.heap.size + 1, 1, none⟩ = some (.int .i64 d1) ∧ w'.cell? ⟨w.heap.size + 3, 0, none⟩ = some (.int .i64 n3) ∧ w'.cell? ⟨w.heap.size + 3, 1, none⟩ = some (.int .i64 d3)) (by kernel_rfl) (by kernel_rfl) (by rw [← hW68]; exact ⟨kD HB2 0, kD HB2 1, kD HB4 0, kD HB4 1, kD HB8 0, kD HB8 1⟩) ?_
 rw [← hW68]
 clear hW68
 replace HBw := kU (kS (kM HW67) l63b (kS (kM HW65) l62b (kU HBw jm20))) j28
 have y5b2 := klt HB2
 have y5b4 := klt HB4
 replace HB6 := kB HB6 j28
 have y5b8 := klt HB8
 replace HB15 := kB HB15 j28
 replace HB16 := kB (kO (kM HW67) (kO (kM HW65) (kB HB16 jm20) n16b62.out) n16b63.out) j28
 replace HB27 := kB (kO (kM HW67) (kO (kM HW65) (kB HB27 jm20) n27b62.out) n27b63.out) j28
 replace HB28 := kB (kO (kM HW67) (kO (kM HW65) (kB HB28 jm20) n28b62.out) n28b63.out) j28
 replace HB50 := kB (kO (kM HW67) (kO (kM HW65) (kB HB50 jm20) n50b62.out) n50b63.out) j28
 replace HB51 := kB (kO (kM HW67) (kO (kM HW65) (kB HB51 jm20) n51b62.out) n51b63.out) j28
 replace HB62 := kB (kO (kM HW67) HB62 n62b63.out) j28
 have y5b62 := klt HB62
 replace HB63 := kB HB63 j28
 have l5w := ksz HBw
 have HSR5 : Hid (∀ w', Below W68.heap.size W68 w' → w'.cell? ⟨w.heap.size, 0, none⟩ = some (.int .i64 n0) ∧ w'.cell? ⟨w.heap.size, 1, none⟩ = some (.int .i64 d0) ∧ w'.cell? ⟨w.heap.size + 1, 0, none⟩ = some (.int .i64 n1) ∧ w'.cell? ⟨w.heap.size + 1, 1, none⟩ = some (.int .i64 d1) ∧ w'.cell? ⟨w.heap.size + 3, 0, none⟩ = some (.int .i64 n3) ∧ w'.cell? ⟨w.heap.size + 3, 1, none⟩ = some (.int .i64 d3)) := fun w' hb => ⟨kD (kB HB2 hb) 0, kD (kB HB2 hb) 1, kD (kB HB4 hb) 0, kD (kB HB4 hb) 1, kD (kB HB8 hb) 0, kD (kB HB8 hb) 1⟩
 refine tk0 (h := ?_)
 refine plq 1 (h := ?_)
 refine tk0 (h := ?_)
 refine plq 2 (h := ?_)
 refine tk0 (h := ?_)
 refine plq 9 (h := ?_)
 refine plq 9 (h := ?_)
 refine fStart (fs := [⟨_, 32, [.bool false, .slice none 0 0, .slice none 0 0], _⟩, ⟨_, 32, [.bool false, .slice none 0 0, .slice none 0 0], _⟩]) (h := fun st HFz => ?_)
 refine nrm (hb := by first | (simp only [puts, Act.put, List.setIfInBounds_toArray, List.set_cons_zero, List.set_cons_succ]; rfl)) (h := ?_)
 refine fOp HFz HSR5.out (h := fun st z69 j29 HFz K9 hK9 => ?_)
 go_simp
 refine mQ (HLc.out _) fun w19 g19a A19a k19a c19a A19b k19b c19b HR19 j19c => ?_
 replace HFz := h0d (HFz.out.below j19c)
 refine ckk hK9 (by exact HSR5.out _ HFz.out.bel) (h := ?_)
 clear hK9 K9
 refine fOp HFz HSR5.out (h := fun st z70 j30 HFz K9 hK9 => ?_)
 go_simp
 refine mQ (HLf.out _) fun w20 g20a A20a k20a c20a A20b k20b c20b HR20 j20c => ?_
 replace HFz := h0d (HFz.out.below j20c)
 refine ckk hK9 (by exact HSR5.out _ HFz.out.bel) (h := ?_)
 clear hK9 K9
 refine fOp HFz HSR5.out (h := fun st z71 j31 HFz K9 hK9 => ?_)
 go_simp
 refine mQ (HLk.out _) fun w21 g21a A21a k21a c21a A21b k21b c21b HR21 j21c => ?_
 replace HFz := h0d (HFz.out.below j21c)
 refine ckk hK9 (by exact HSR5.out _ HFz.out.bel) (h := ?_)
 clear hK9 K9
 refine fOp HFz HSR5.out (h := fun st z72 j32 HFz K9 hK9 => ?_)
 go_simp
 have jm21 := tt (tt (tt (tt j30 j20c) j31) j21c) j32
 replace HR19 := kV jm21 HR19
 have jm22 := tt (tt j31 j21c) j32
 replace HR20 := kV jm22 HR20
 replace HR21 := kV j32 HR21
 refine (HM4.out _ _ _ _ HR19.out HR20.out HR21.out).mono ?_
 rintro e w22 ⟨⟨vx, vy, rfl, hr, hr2⟩, j22c⟩
 obtain ⟨g22xa, A22xa, k22xa, c22xa, A22xb, k22xb, c22xb, rfl, hr⟩ := hr.open
 obtain ⟨g22ya, A22ya, k22ya, c22ya, A22yb, k22yb, c22yb, rfl, hr2⟩ := hr2.open
 have HR22 := h0d hr
 have HR22b := h0d hr2
 clear hr2
 clear hr
 replace HFz := h0d (HFz.out.below j22c)
 refine ckk hK9 (by exact HSR5.out _ HFz.out.bel) (h := ?_)
 clear hK9 K9
 refine fTk (h := ?_)
 refine fTk (h := ?_)
 refine fTk (h := ?_)
 refine fTk (h := ?_)
 refine fEnd HFz HSR5.out (h := fun st z73 j33 HFz hst => ?_)
 obtain ⟨g5_0, e0⟩ := hst 0 nlt
 obtain ⟨g5_1, e1⟩ := hst 1 nlt
 refine nrm (hb := by simp only [e0, e1, pv]; rfl) (h := ?_)
 have HB74 : Hid (z73.heap[g5_0]? = some (.cells #[.bool false, .slice none 0 0, .slice none 0 0] 32 (0, 0))) := (HFz.out.blk 0 _ g5_0 rfl e0).2
 have n2b74 := kne y5b2 HFz e0
 have n4b74 := kne y5b4 HFz e0
 have n8b74 := kne y5b8 HFz e0
 have n62b74 := kne y5b62 HFz e0
 have l74b := kle l5w HFz e0
 have HB75 : Hid (z73.heap[g5_1]? = some (.cells #[.bool false, .slice none 0 0, .slice none 0 0] 32 (0, 0))) := (HFz.out.blk 1 _ g5_1 rfl e1).2
 have n2b75 := kne y5b2 HFz e1
 have n4b75 := kne y5b4 HFz e1
 have n8b75 := kne y5b8 HFz e1
 have n62b75 := kne y5b62 HFz e1
 have n74b75 : Hid (g5_0 ≠ g5_1) := fun e => HFz.out.ne 0 1 _ (Nat.le_of_ble_eq_true rfl) (Nat.le_of_ble_eq_true rfl) (by decide) e0 (e ▸ e1)
 have l75b := kle l5w HFz e1
 clear HFz hst e0 e1
 refine sop (h := fun K9 hK9 => ?_)
 have t76h := kth 0 3 HB74
 refine smw 32 (g5_0) 0 (ht := by exact t76h) (h := ?_)
 obtain ⟨W77, HW77⟩ : ∃ W, Hid (W = z73.setCells (g5_0) 0 [.bool g22xa, .slice A22xa k22xa c22xa, .slice A22xb k22xb c22xb]) := ⟨_, rfl⟩
 have TW77 := kN (kM HW77) HB74 rfl rfl
 replace HB74 := kPf (kM HW77) HB74 rfl
 rw [← HW77.out]
 have jm23 := tt (tt (tt (tt (tt (tt (tt (tt j29 j19c) j30) j20c) j31) j21c) j32) j22c) j33
 replace HB2 := kO (kM HW77) (kB HB2 jm23) n2b74.out
 replace HB4 := kO (kM HW77) (kB HB4 jm23) n4b74.out
 replace HB8 := kO (kM HW77) (kB HB8 jm23) n8b74.out
 refine ckk hK9 (by exact ⟨kD HB2 0, kD HB2 1, kD HB4 0, kD HB4 1, kD HB8 0, kD HB8 1⟩) (h := ?_)
 clear hK9 K9 t76h
 refine sop (h := fun K9 hK9 => ?_)
 replace HB75 := kO (kM HW77) HB75 n74b75.out.symm
 have t78h := kth 0 3 HB75
 refine smw 32 (g5_1) 0 (ht := by exact t78h) (h := ?_)
 obtain ⟨W79, HW79⟩ : ∃ W, Hid (W = W77.setCells (g5_1) 0 [.bool g22ya, .slice A22ya k22ya c22ya, .slice A22yb k22yb c22yb]) := ⟨_, rfl⟩
 have TW79 := kN (kM HW79) HB75 rfl rfl
 replace HB75 := kPf (kM HW79) HB75 rfl
 rw [← HW79.out]
 replace HB2 := kO (kM HW79) HB2 n2b75.out
 replace HB4 := kO (kM HW79) HB4 n4b75.out
 replace HB8 := kO (kM HW79) HB8 n8b75.out
 refine ckk hK9 (by exact ⟨kD HB2 0, kD HB2 1, kD HB4 0, kD HB4 1, kD HB8 0, kD HB8 1⟩) (h := ?_)
 clear hK9 K9 t78h
 refine tk0 (h := ?_)
 refine seq_done (by kernel_rfl) ?_
 replace HB62 := kO (kM HW79) (kO (kM HW77) (kB HB62 jm23) n62b74.out) n62b75.out
 have c80 := kC HB62 0 rfl
 have c81 := kC HB62 1 rfl
 have c82 := kC HB62 2 rfl
 replace HB74 := kO (kM HW79) HB74 n74b75.out
 have c83 := kC HB74 0 rfl
 have c84 := kC HB74 1 rfl
 have c85 := kC HB74 2 rfl
 go_wp2_with fail
 clear c80 c81 c82 c83 c84 c85
 have jm24 := tt j28 jm23
 replace HR18 := kW TW79 (kW TW77 (kV jm24 (kW TW67 (kW TW65 (kV j27 HR18)))))
 replace HR22 := kW TW79 (kW TW77 (kV j33 HR22))
 refine mV (qsame_yes _ _ vv _ HR18.out HR22.out) fun w23 j23c => ?_
 go_wp2_with fail
 refine mV (awake_any _) fun w24 j24c => ?_
 go_wp2_with fail
 go_ret
 have jm25 := tt j23c j24c
 replace HBw := kU (kS (kM HW79) l75b (kS (kM HW77) l74b (kU HBw jm23))) jm25
 exact ⟨rfl, HBw.out⟩
end Go.Proofs.YtodckaioeomccaaGreat
