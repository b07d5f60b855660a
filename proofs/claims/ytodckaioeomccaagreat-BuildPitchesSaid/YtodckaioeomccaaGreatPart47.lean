/- Walks of the reference's numbers with roots and complex ones: Real, SNeg, SAdd, WReal, WAdd, cosine, Turn. -/
import Derived.Test.YtodckaioeomccaaGreatPart37
import Derived.Test.YtodckaioeomccaaGreatPart43
import Derived.Test.YtodckaioeomccaaGreatPart02
namespace Go.Proofs.YtodckaioeomccaaGreat
open Go.RowKit Go.Proofs.S4P
set_option linter.unusedVariables false
set_option linter.unusedSimpArgs false
set_option maxRecDepth 100000
set_option maxHeartbeats 4000000
theorem RdF.shape {w : World} {g : Bool} {s t : Value} {x : Rat} (h : RdF w (.agg #[.bool g, s, t]) x) : (∃ A k c, s = .slice A k c) ∧ ∃ A k c, t = .slice A k c := ⟨h.abs.slice, h.den.slice⟩
theorem blk_rng {w : World} {b t : Nat} {cs q : List Value} (o : Nat) (h : w.heap[b]? = some (.cells cs.toArray t (0, 0))) (hq : (cs.drop o).take q.length = q := by rfl) : w.rangeAt b o q := fun j v hj => by
 rw [blk_cell h, List.getElem?_toArray]
 rw [← hq] at hj
 rw [List.getElem?_take] at hj
 split at hj
 ·rw [List.getElem?_drop] at hj; exact hj
 ·simp at hj
def RdG (w : World) (v : Value) (x : S4) : Prop := ∃ (g0 g1 g2 g3 : Bool) (s0 t0 s1 t1 s2 t2 s3 t3 : Value), v = .agg #[.bool g0, s0, t0, .bool g1, s1, t1, .bool g2, s2, t2, .bool g3, s3, t3] ∧ RdF w (.agg #[.bool g0, s0, t0]) x.a ∧ RdF w (.agg #[.bool g1, s1, t1]) x.b ∧ RdF w (.agg #[.bool g2, s2, t2]) x.c ∧ RdF w (.agg #[.bool g3, s3, t3]) x.e
theorem RdG.wd {w w' : World} {v : Value} {x : S4} (h : RdG w v x) (hw : Wd w w') : RdG w' v x := by
 obtain ⟨g0, g1, g2, g3, s0, t0, s1, t1, s2, t2, s3, t3, rfl, h0, h1, h2, h3⟩ := h
 exact ⟨_, _, _, _, _, _, _, _, _, _, _, _, rfl, h0.wd hw, h1.wd hw, h2.wd hw, h3.wd hw⟩
instance wdRdG (w w' : World) (v : Value) (x : S4) : WdSt (RdG w v x) w w' (RdG w' v x) := ⟨fun hT h => h.wd hT⟩
theorem RdG.mk {w : World} {g0 g1 g2 g3 : Bool} {s0 t0 s1 t1 s2 t2 s3 t3 : Value} {x : S4} (h0 : RdF w (.agg #[.bool g0, s0, t0]) x.a) (h1 : RdF w (.agg #[.bool g1, s1, t1]) x.b) (h2 : RdF w (.agg #[.bool g2, s2, t2]) x.c) (h3 : RdF w (.agg #[.bool g3, s3, t3]) x.e) :
  RdG w (.agg #[.bool g0, s0, t0, .bool g1, s1, t1, .bool g2, s2, t2, .bool g3, s3, t3]) x := ⟨_, _, _, _, _, _, _, _, _, _, _, _, rfl, h0, h1, h2, h3⟩
theorem RdG.open {w : World} {v : Value} {x : S4} (h : RdG w v x) : ∃ g0 A0 k0 c0 B0 l0 d0 g1 A1 k1 c1 B1 l1 d1 g2 A2 k2 c2 B2 l2 d2 g3 A3 k3 c3 B3 l3 d3,
  v = .agg #[.bool g0, .slice A0 k0 c0, .slice B0 l0 d0, .bool g1, .slice A1 k1 c1, .slice B1 l1 d1, .bool g2, .slice A2 k2 c2, .slice B2 l2 d2, .bool g3, .slice A3 k3 c3, .slice B3 l3 d3] ∧ RdG w (.agg #[.bool g0, .slice A0 k0 c0, .slice B0 l0 d0, .bool g1, .slice A1 k1 c1, .slice B1 l1 d1, .bool g2, .slice A2 k2 c2, .slice B2 l2 d2, .bool g3, .slice A3 k3 c3, .slice B3 l3 d3]) x := by
 obtain ⟨g0, g1, g2, g3, s0, t0, s1, t1, s2, t2, s3, t3, rfl, h0, h1, h2, h3⟩ := h
 obtain ⟨⟨_, _, _, rfl⟩, ⟨_, _, _, rfl⟩⟩ := h0.shape
 obtain ⟨⟨_, _, _, rfl⟩, ⟨_, _, _, rfl⟩⟩ := h1.shape
 obtain ⟨⟨_, _, _, rfl⟩, ⟨_, _, _, rfl⟩⟩ := h2.shape
 obtain ⟨⟨_, _, _, rfl⟩, ⟨_, _, _, rfl⟩⟩ := h3.shape
 exact ⟨_, _, _, _, _, _, _, _, _, _, _, _, _, _, _, _, _, _, _, _, _, _, _, _, _, _, _, _, rfl, .mk h0 h1 h2 h3⟩
theorem RdG.parts {w : World} {g0 g1 g2 g3 : Bool} {s0 t0 s1 t1 s2 t2 s3 t3 : Value} {x : S4} (h : RdG w (.agg #[.bool g0, s0, t0, .bool g1, s1, t1, .bool g2, s2, t2, .bool g3, s3, t3]) x) :
  RdF w (.agg #[.bool g0, s0, t0]) x.a ∧ RdF w (.agg #[.bool g1, s1, t1]) x.b ∧ RdF w (.agg #[.bool g2, s2, t2]) x.c ∧ RdF w (.agg #[.bool g3, s3, t3]) x.e := by
 obtain ⟨a0, a1, a2, a3, b0, u0, b1, u1, b2, u2, b3, u3, e, h⟩ := h
 injection e with e; injection e with e; simp at e
 obtain ⟨rfl, rfl, rfl, rfl, rfl, rfl, rfl, rfl, rfl, rfl, rfl, rfl⟩ := e
 exact h
theorem RdG.q0 {w : World} {g0 g1 g2 g3 : Bool} {s0 t0 s1 t1 s2 t2 s3 t3 : Value} {x : S4} (h : RdG w (.agg #[.bool g0, s0, t0, .bool g1, s1, t1, .bool g2, s2, t2, .bool g3, s3, t3]) x) : RdF w (.agg #[.bool g0, s0, t0]) x.a := h.parts.1
theorem RdG.q1 {w : World} {g0 g1 g2 g3 : Bool} {s0 t0 s1 t1 s2 t2 s3 t3 : Value} {x : S4} (h : RdG w (.agg #[.bool g0, s0, t0, .bool g1, s1, t1, .bool g2, s2, t2, .bool g3, s3, t3]) x) : RdF w (.agg #[.bool g1, s1, t1]) x.b := h.parts.2.1
theorem RdG.q2 {w : World} {g0 g1 g2 g3 : Bool} {s0 t0 s1 t1 s2 t2 s3 t3 : Value} {x : S4} (h : RdG w (.agg #[.bool g0, s0, t0, .bool g1, s1, t1, .bool g2, s2, t2, .bool g3, s3, t3]) x) : RdF w (.agg #[.bool g2, s2, t2]) x.c := h.parts.2.2.1
theorem RdG.q3 {w : World} {g0 g1 g2 g3 : Bool} {s0 t0 s1 t1 s2 t2 s3 t3 : Value} {x : S4} (h : RdG w (.agg #[.bool g0, s0, t0, .bool g1, s1, t1, .bool g2, s2, t2, .bool g3, s3, t3]) x) : RdF w (.agg #[.bool g3, s3, t3]) x.e := h.parts.2.2.2
def RdH (w : World) (v : Value) (x : W4) : Prop := ∃ (g0 g1 g2 g3 g4 g5 g6 g7 : Bool) (s0 t0 s1 t1 s2 t2 s3 t3 s4 t4 s5 t5 s6 t6 s7 t7 : Value), v = .agg #[.bool g0, s0, t0, .bool g1, s1, t1, .bool g2, s2, t2, .bool g3, s3, t3, .bool g4, s4, t4, .bool g5, s5, t5, .bool g6, s6, t6, .bool g7, s7, t7] ∧ RdF w (.agg #[.bool g0, s0, t0]) x.re.a ∧ RdF w (.agg #[.bool g1, s1, t1]) x.re.b ∧ RdF w (.agg #[.bool g2, s2, t2]) x.re.c ∧ RdF w (.agg #[.bool g3, s3, t3]) x.re.e ∧ RdF w (.agg #[.bool g4, s4, t4]) x.im.a ∧ RdF w (.agg #[.bool g5, s5, t5]) x.im.b ∧ RdF w (.agg #[.bool g6, s6, t6]) x.im.c ∧ RdF w (.agg #[.bool g7, s7, t7]) x.im.e
theorem RdH.wd {w w' : World} {v : Value} {x : W4} (h : RdH w v x) (hw : Wd w w') : RdH w' v x := by
 obtain ⟨g0, g1, g2, g3, g4, g5, g6, g7, s0, t0, s1, t1, s2, t2, s3, t3, s4, t4, s5, t5, s6, t6, s7, t7, rfl, h0, h1, h2, h3, h4, h5, h6, h7⟩ := h
 exact ⟨_, _, _, _, _, _, _, _, _, _, _, _, _, _, _, _, _, _, _, _, _, _, _, _, rfl, h0.wd hw, h1.wd hw, h2.wd hw, h3.wd hw, h4.wd hw, h5.wd hw, h6.wd hw, h7.wd hw⟩
instance wdRdH (w w' : World) (v : Value) (x : W4) : WdSt (RdH w v x) w w' (RdH w' v x) := ⟨fun hT h => h.wd hT⟩
theorem RdH.mk {w : World} {g0 g1 g2 g3 g4 g5 g6 g7 : Bool} {s0 t0 s1 t1 s2 t2 s3 t3 s4 t4 s5 t5 s6 t6 s7 t7 : Value} {x : W4} (h0 : RdF w (.agg #[.bool g0, s0, t0]) x.re.a) (h1 : RdF w (.agg #[.bool g1, s1, t1]) x.re.b) (h2 : RdF w (.agg #[.bool g2, s2, t2]) x.re.c) (h3 : RdF w (.agg #[.bool g3, s3, t3]) x.re.e) (h4 : RdF w (.agg #[.bool g4, s4, t4]) x.im.a) (h5 : RdF w (.agg #[.bool g5, s5, t5]) x.im.b) (h6 : RdF w (.agg #[.bool g6, s6, t6]) x.im.c) (h7 : RdF w (.agg #[.bool g7, s7, t7]) x.im.e) :
  RdH w (.agg #[.bool g0, s0, t0, .bool g1, s1, t1, .bool g2, s2, t2, .bool g3, s3, t3, .bool g4, s4, t4, .bool g5, s5, t5, .bool g6, s6, t6, .bool g7, s7, t7]) x := ⟨_, _, _, _, _, _, _, _, _, _, _, _, _, _, _, _, _, _, _, _, _, _, _, _, rfl, h0, h1, h2, h3, h4, h5, h6, h7⟩
theorem RdH.open {w : World} {v : Value} {x : W4} (h : RdH w v x) : ∃ g0 A0 k0 c0 B0 l0 d0 g1 A1 k1 c1 B1 l1 d1 g2 A2 k2 c2 B2 l2 d2 g3 A3 k3 c3 B3 l3 d3 g4 A4 k4 c4 B4 l4 d4 g5 A5 k5 c5 B5 l5 d5 g6 A6 k6 c6 B6 l6 d6 g7 A7 k7 c7 B7 l7 d7,
  v = .agg #[.bool g0, .slice A0 k0 c0, .slice B0 l0 d0, .bool g1, .slice A1 k1 c1, .slice B1 l1 d1, .bool g2, .slice A2 k2 c2, .slice B2 l2 d2, .bool g3, .slice A3 k3 c3, .slice B3 l3 d3, .bool g4, .slice A4 k4 c4, .slice B4 l4 d4, .bool g5, .slice A5 k5 c5, .slice B5 l5 d5, .bool g6, .slice A6 k6 c6, .slice B6 l6 d6, .bool g7, .slice A7 k7 c7, .slice B7 l7 d7] ∧ RdH w (.agg #[.bool g0, .slice A0 k0 c0, .slice B0 l0 d0, .bool g1, .slice A1 k1 c1, .slice B1 l1 d1, .bool g2, .slice A2 k2 c2, .slice B2 l2 d2, .bool g3, .slice A3 k3 c3, .slice B3 l3 d3, .bool g4, .slice A4 k4 c4, .slice B4 l4 d4, .bool g5, .slice A5 k5 c5, .slice B5 l5 d5, .bool g6, .slice A6 k6 c6, .slice B6 l6 d6, .bool g7, .slice A7 k7 c7, .slice B7 l7 d7]) x := by
 obtain ⟨g0, g1, g2, g3, g4, g5, g6, g7, s0, t0, s1, t1, s2, t2, s3, t3, s4, t4, s5, t5, s6, t6, s7, t7, rfl, h0, h1, h2, h3, h4, h5, h6, h7⟩ := h
 obtain ⟨⟨_, _, _, rfl⟩, ⟨_, _, _, rfl⟩⟩ := h0.shape
 obtain ⟨⟨_, _, _, rfl⟩, ⟨_, _, _, rfl⟩⟩ := h1.shape
 obtain ⟨⟨_, _, _, rfl⟩, ⟨_, _, _, rfl⟩⟩ := h2.shape
 obtain ⟨⟨_, _, _, rfl⟩, ⟨_, _, _, rfl⟩⟩ := h3.shape
 obtain ⟨⟨_, _, _, rfl⟩, ⟨_, _, _, rfl⟩⟩ := h4.shape
 obtain ⟨⟨_, _, _, rfl⟩, ⟨_, _, _, rfl⟩⟩ := h5.shape
 obtain ⟨⟨_, _, _, rfl⟩, ⟨_, _, _, rfl⟩⟩ := h6.shape
 obtain ⟨⟨_, _, _, rfl⟩, ⟨_, _, _, rfl⟩⟩ := h7.shape
 exact ⟨_, _, _, _, _, _, _, _, _, _, _, _, _, _, _, _, _, _, _, _, _, _, _, _, _, _, _, _, _, _, _, _, _, _, _, _, _, _, _, _, _, _, _, _, _, _, _, _, _, _, _, _, _, _, _, _, rfl, .mk h0 h1 h2 h3 h4 h5 h6 h7⟩
theorem RdH.parts {w : World} {g0 g1 g2 g3 g4 g5 g6 g7 : Bool} {s0 t0 s1 t1 s2 t2 s3 t3 s4 t4 s5 t5 s6 t6 s7 t7 : Value} {x : W4} (h : RdH w (.agg #[.bool g0, s0, t0, .bool g1, s1, t1, .bool g2, s2, t2, .bool g3, s3, t3, .bool g4, s4, t4, .bool g5, s5, t5, .bool g6, s6, t6, .bool g7, s7, t7]) x) :
  RdF w (.agg #[.bool g0, s0, t0]) x.re.a ∧ RdF w (.agg #[.bool g1, s1, t1]) x.re.b ∧ RdF w (.agg #[.bool g2, s2, t2]) x.re.c ∧ RdF w (.agg #[.bool g3, s3, t3]) x.re.e ∧ RdF w (.agg #[.bool g4, s4, t4]) x.im.a ∧ RdF w (.agg #[.bool g5, s5, t5]) x.im.b ∧ RdF w (.agg #[.bool g6, s6, t6]) x.im.c ∧ RdF w (.agg #[.bool g7, s7, t7]) x.im.e := by
 obtain ⟨a0, a1, a2, a3, a4, a5, a6, a7, b0, u0, b1, u1, b2, u2, b3, u3, b4, u4, b5, u5, b6, u6, b7, u7, e, h⟩ := h
 injection e with e; injection e with e; simp at e
 obtain ⟨rfl, rfl, rfl, rfl, rfl, rfl, rfl, rfl, rfl, rfl, rfl, rfl, rfl, rfl, rfl, rfl, rfl, rfl, rfl, rfl, rfl, rfl, rfl, rfl⟩ := e
 exact h
theorem RdH.re {w : World} {g0 g1 g2 g3 g4 g5 g6 g7 : Bool} {s0 t0 s1 t1 s2 t2 s3 t3 s4 t4 s5 t5 s6 t6 s7 t7 : Value} {x : W4} (h : RdH w (.agg #[.bool g0, s0, t0, .bool g1, s1, t1, .bool g2, s2, t2, .bool g3, s3, t3, .bool g4, s4, t4, .bool g5, s5, t5, .bool g6, s6, t6, .bool g7, s7, t7]) x) : RdG w (.agg #[.bool g0, s0, t0, .bool g1, s1, t1, .bool g2, s2, t2, .bool g3, s3, t3]) x.re :=
 let ⟨a, b, c, d, _⟩ := h.parts; .mk a b c d
theorem RdH.im {w : World} {g0 g1 g2 g3 g4 g5 g6 g7 : Bool} {s0 t0 s1 t1 s2 t2 s3 t3 s4 t4 s5 t5 s6 t6 s7 t7 : Value} {x : W4} (h : RdH w (.agg #[.bool g0, s0, t0, .bool g1, s1, t1, .bool g2, s2, t2, .bool g3, s3, t3, .bool g4, s4, t4, .bool g5, s5, t5, .bool g6, s6, t6, .bool g7, s7, t7]) x) : RdG w (.agg #[.bool g4, s4, t4, .bool g5, s5, t5, .bool g6, s6, t6, .bool g7, s7, t7]) x.im :=
 let ⟨_, _, _, _, a, b, c, d⟩ := h.parts; .mk a b c d
theorem RdH.of {w : World} {g0 g1 g2 g3 g4 g5 g6 g7 : Bool} {s0 t0 s1 t1 s2 t2 s3 t3 s4 t4 s5 t5 s6 t6 s7 t7 : Value} {x : W4} (h : RdG w (.agg #[.bool g0, s0, t0, .bool g1, s1, t1, .bool g2, s2, t2, .bool g3, s3, t3]) x.re) (k : RdG w (.agg #[.bool g4, s4, t4, .bool g5, s5, t5, .bool g6, s6, t6, .bool g7, s7, t7]) x.im) : RdH w (.agg #[.bool g0, s0, t0, .bool g1, s1, t1, .bool g2, s2, t2, .bool g3, s3, t3, .bool g4, s4, t4, .bool g5, s5, t5, .bool g6, s6, t6, .bool g7, s7, t7]) x :=
 .mk h.q0 h.q1 h.q2 h.q3 k.q0 k.q1 k.q2 k.q3
def GM (K : Nat) (x : S4) : Prop := QM K x.a ∧ QM K x.b ∧ QM K x.c ∧ QM K x.e
theorem rsneg_any (v : Value) (x : S4) (w : World) (hv : RdG w v x) (hx : GM 400000 x) :
  Calls Tryz.prog 250 #[v] w fun e w' => (∃ v', e = .returned v' ∧ RdG w' v' x.neg) ∧ Below w.heap.size w w' := by
 have HGX := h0d hx
 clear hx
 obtain ⟨gp0a, Ap0a, kp0a, cp0a, Ap0b, kp0b, cp0b, gp0c, Ap0c, kp0c, cp0c, Ap0d, kp0d, cp0d, gp0e, Ap0e, kp0e, cp0e, Ap0f, kp0f, cp0f, gp0g, Ap0g, kp0g, cp0g, Ap0h, kp0h, cp0h, rfl, hv⟩ := hv.open
 have HX0 := h0d hv
 clear hv
 go_enter Tryz.func250, Tryz.ntmps250
 obtain ⟨W1, HW1, HB2, s1w, j1⟩ := st_al0 w #[.bool gp0a, .slice Ap0a kp0a cp0a, .slice Ap0b kp0b cp0b, .bool gp0c, .slice Ap0c kp0c cp0c, .slice Ap0d kp0d cp0d, .bool gp0e, .slice Ap0e kp0e cp0e, .slice Ap0f kp0f cp0f, .bool gp0g, .slice Ap0g kp0g cp0g, .slice Ap0h kp0h cp0h] 42
 have HBw := h0d j1
 obtain ⟨W3, HW3, HB4, s3w, j2⟩ := st_alk 1 2 #[.bool false, .slice none 0 0, .slice none 0 0, .bool false, .slice none 0 0, .slice none 0 0, .bool false, .slice none 0 0, .slice none 0 0, .bool false, .slice none 0 0, .slice none 0 0] 42 s1w rfl
 have n2b4 : Hid (w.heap.size ≠ w.heap.size + 1) := by show _ ≠ _; omega
 have l4b : Hid (w.heap.size ≤ w.heap.size + 1) := by show _ ≤ _; omega
 go_wp2_with fail
 rw [← HW1.out, ← HW3.out]
 obtain ⟨W5, hW5⟩ : ∃ W, W = W3.drew := ⟨_, rfl⟩
 have j3 : Below W3.heap.size W3 W5 := by rw [hW5]; exact (Below.refl _ _).drew
 have jm1 := tt j2 j3
 replace HB2 := kB HB2 jm1
 refine seq_start (S := fun w' => Hid (w'.rangeAt (w.heap.size) 0 [.bool gp0a, .slice Ap0a kp0a cp0a, .slice Ap0b kp0b cp0b] ∧ w'.rangeAt (w.heap.size) 3 [.bool gp0c, .slice Ap0c kp0c cp0c, .slice Ap0d kp0d cp0d] ∧ w'.rangeAt (w.heap.size) 6 [.bool gp0e, .slice Ap0e kp0e cp0e, .slice Ap0f kp0f cp0f] ∧ w'.rangeAt (w.heap.size) 9 [.bool gp0g, .slice Ap0g kp0g cp0g, .slice Ap0h kp0h cp0h])) (by kernel_rfl) (by kernel_rfl) (by rw [← hW5]; exact ⟨blk_rng 0 HB2.out, blk_rng 3 HB2.out, blk_rng 6 HB2.out, blk_rng 9 HB2.out⟩) ?_
 rw [← hW5]
 clear hW5
 refine tk0 (h := ?_)
 refine tkM 40 _ (w.heap.size) 0 _ _ (fun _ h => h.out.1) Tryz.underlying40 rfl (by kernel_rfl) (h := ?_)
 refine plq 1 (h := ?_)
 refine tk0 (h := ?_)
 refine plq 1 (h := ?_)
 refine tkM 40 _ (w.heap.size) 3 _ _ (fun _ h => h.out.2.1) Tryz.underlying40 rfl (by kernel_rfl) (h := ?_)
 refine plq 2 (h := ?_)
 refine tk0 (h := ?_)
 refine plq 2 (h := ?_)
 refine tkM 40 _ (w.heap.size) 6 _ _ (fun _ h => h.out.2.2.1) Tryz.underlying40 rfl (by kernel_rfl) (h := ?_)
 refine plq 3 (h := ?_)
 refine tk0 (h := ?_)
 refine plq 3 (h := ?_)
 refine tkM 40 _ (w.heap.size) 9 _ _ (fun _ h => h.out.2.2.2) Tryz.underlying40 rfl (by kernel_rfl) (h := ?_)
 refine sop (h := fun K9 hK9 => ?_)
 go_simp
 replace HBw := kU HBw jm1
 replace HX0 := kV HBw.out HX0
 refine mQ (rneg_any _ x.a _ HX0.out.q0 HGX.out.1) fun w1 g1a A1a k1a c1a A1b k1b c1b HR1 j1c => ?_
 replace HB2 := kB HB2 j1c
 refine ckk hK9 (by exact ⟨blk_rng 0 HB2.out, blk_rng 3 HB2.out, blk_rng 6 HB2.out, blk_rng 9 HB2.out⟩) (h := ?_)
 clear hK9 K9
 refine sop (h := fun K9 hK9 => ?_)
 go_simp
 replace HX0 := kV j1c HX0
 refine mQ (rneg_any _ x.b _ HX0.out.q1 HGX.out.2.1) fun w2 g2a A2a k2a c2a A2b k2b c2b HR2 j2c => ?_
 replace HB2 := kB HB2 j2c
 refine ckk hK9 (by exact ⟨blk_rng 0 HB2.out, blk_rng 3 HB2.out, blk_rng 6 HB2.out, blk_rng 9 HB2.out⟩) (h := ?_)
 clear hK9 K9
 refine sop (h := fun K9 hK9 => ?_)
 go_simp
 replace HX0 := kV j2c HX0
 refine mQ (rneg_any _ x.c _ HX0.out.q2 HGX.out.2.2.1) fun w3 g3a A3a k3a c3a A3b k3b c3b HR3 j3c => ?_
 replace HB2 := kB HB2 j3c
 refine ckk hK9 (by exact ⟨blk_rng 0 HB2.out, blk_rng 3 HB2.out, blk_rng 6 HB2.out, blk_rng 9 HB2.out⟩) (h := ?_)
 clear hK9 K9
 refine sop (h := fun K9 hK9 => ?_)
 go_simp
 replace HX0 := kV j3c HX0
 refine mQ (rneg_any _ x.e _ HX0.out.q3 HGX.out.2.2.2) fun w4 g4a A4a k4a c4a A4b k4b c4b HR4 j4c => ?_
 replace HB2 := kB HB2 j4c
 refine ckk hK9 (by exact ⟨blk_rng 0 HB2.out, blk_rng 3 HB2.out, blk_rng 6 HB2.out, blk_rng 9 HB2.out⟩) (h := ?_)
 clear hK9 K9
 refine tk0 (h := ?_)
 refine sop (h := fun K9 hK9 => ?_)
 have jm2 := tt (tt (tt (tt j3 j1c) j2c) j3c) j4c
 replace HB4 := kB HB4 jm2
 have t6h := kth 0 12 HB4
 refine smw 42 (w.heap.size + 1) 0 (ht := by exact t6h) (h := ?_)
 obtain ⟨W7, HW7⟩ : ∃ W, Hid (W = w4.setCells (w.heap.size + 1) 0 [.bool g1a, .slice A1a k1a c1a, .slice A1b k1b c1b, .bool g2a, .slice A2a k2a c2a, .slice A2b k2b c2b, .bool g3a, .slice A3a k3a c3a, .slice A3b k3b c3b, .bool g4a, .slice A4a k4a c4a, .slice A4b k4b c4b]) := ⟨_, rfl⟩
 have TW7 := kN (kM HW7) HB4 rfl rfl
 replace HB4 := kP (ds := [.bool g1a, .slice A1a k1a c1a, .slice A1b k1b c1b, .bool g2a, .slice A2a k2a c2a, .slice A2b k2b c2b, .bool g3a, .slice A3a k3a c3a, .slice A3b k3b c3b, .bool g4a, .slice A4a k4a c4a, .slice A4b k4b c4b]) (kM HW7) HB4 rfl rfl
 rw [← HW7.out]
 replace HB2 := kO (kM HW7) HB2 n2b4.out
 refine ckk hK9 (by exact ⟨blk_rng 0 HB2.out, blk_rng 3 HB2.out, blk_rng 6 HB2.out, blk_rng 9 HB2.out⟩) (h := ?_)
 clear hK9 K9 t6h
 refine seq_done (by kernel_rfl) ?_
 go_wp2_with fail
 have jm3 := tt (tt j2c j3c) j4c
 replace HR1 := kW TW7 (kV jm3 HR1)
 have jm4 := tt j3c j4c
 replace HR2 := kW TW7 (kV jm4 HR2)
 replace HR3 := kW TW7 (kV j4c HR3)
 replace HR4 := kW TW7 HR4
 have jm5 := tt j1c jm3
 replace HBw := kS (kM HW7) l4b (kU HBw jm5)
 exact bodyPost_ret (results_cell rfl (by rfl) (blk_all HB4.out) Tryz.underlying42 rfl (by kernel_rfl)) rfl ⟨⟨_, rfl, (show RdG _ _ x.neg from .mk HR1.out HR2.out HR3.out HR4.out)⟩, HBw.out⟩
theorem rsadd_any (v u : Value) (x y : S4) (w : World) (hv : RdG w v x) (hu : RdG w u y) (hx : GM 400000 x) (hy : GM 400000 y) :
  Calls Tryz.prog 212 #[v, u] w fun e w' => (∃ v', e = .returned v' ∧ RdG w' v' (x.add y)) ∧ Below w.heap.size w w' := by
 have HGX := h0d hx
 have HGY := h0d hy
 clear hx hy
 obtain ⟨gp0a, Ap0a, kp0a, cp0a, Ap0b, kp0b, cp0b, gp0c, Ap0c, kp0c, cp0c, Ap0d, kp0d, cp0d, gp0e, Ap0e, kp0e, cp0e, Ap0f, kp0f, cp0f, gp0g, Ap0g, kp0g, cp0g, Ap0h, kp0h, cp0h, rfl, hv⟩ := hv.open
 have HX0 := h0d hv
 clear hv
 obtain ⟨gp1a, Ap1a, kp1a, cp1a, Ap1b, kp1b, cp1b, gp1c, Ap1c, kp1c, cp1c, Ap1d, kp1d, cp1d, gp1e, Ap1e, kp1e, cp1e, Ap1f, kp1f, cp1f, gp1g, Ap1g, kp1g, cp1g, Ap1h, kp1h, cp1h, rfl, hu⟩ := hu.open
 have HX1 := h0d hu
 clear hu
 go_enter Tryz.func212, Tryz.ntmps212
 obtain ⟨W1, HW1, HB2, s1w, j1⟩ := st_al0 w #[.bool gp0a, .slice Ap0a kp0a cp0a, .slice Ap0b kp0b cp0b, .bool gp0c, .slice Ap0c kp0c cp0c, .slice Ap0d kp0d cp0d, .bool gp0e, .slice Ap0e kp0e cp0e, .slice Ap0f kp0f cp0f, .bool gp0g, .slice Ap0g kp0g cp0g, .slice Ap0h kp0h cp0h] 42
 have HBw := h0d j1
 obtain ⟨W3, HW3, HB4, s3w, j2⟩ := st_alk 1 2 #[.bool gp1a, .slice Ap1a kp1a cp1a, .slice Ap1b kp1b cp1b, .bool gp1c, .slice Ap1c kp1c cp1c, .slice Ap1d kp1d cp1d, .bool gp1e, .slice Ap1e kp1e cp1e, .slice Ap1f kp1f cp1f, .bool gp1g, .slice Ap1g kp1g cp1g, .slice Ap1h kp1h cp1h] 42 s1w rfl
 obtain ⟨W5, HW5, HB6, s5w, j3⟩ := st_alk 2 3 #[.bool false, .slice none 0 0, .slice none 0 0, .bool false, .slice none 0 0, .slice none 0 0, .bool false, .slice none 0 0, .slice none 0 0, .bool false, .slice none 0 0, .slice none 0 0] 42 s3w rfl
 have n2b6 : Hid (w.heap.size ≠ w.heap.size + 2) := by show _ ≠ _; omega
 have n4b6 : Hid (w.heap.size + 1 ≠ w.heap.size + 2) := by show _ ≠ _; omega
 have l6b : Hid (w.heap.size ≤ w.heap.size + 2) := by show _ ≤ _; omega
 go_wp2_with fail
 rw [← HW1.out, ← HW3.out, ← HW5.out]
 obtain ⟨W7, hW7⟩ : ∃ W, W = W5.drew := ⟨_, rfl⟩
 have j4 : Below W5.heap.size W5 W7 := by rw [hW7]; exact (Below.refl _ _).drew
 have jm1 := tt (tt j2 j3) j4
 replace HB2 := kB HB2 jm1
 have jm2 := tt j3 j4
 replace HB4 := kB HB4 jm2
 refine seq_start (S := fun w' => Hid (w'.rangeAt (w.heap.size) 0 [.bool gp0a, .slice Ap0a kp0a cp0a, .slice Ap0b kp0b cp0b] ∧ w'.rangeAt (w.heap.size + 1) 0 [.bool gp1a, .slice Ap1a kp1a cp1a, .slice Ap1b kp1b cp1b] ∧ w'.rangeAt (w.heap.size) 3 [.bool gp0c, .slice Ap0c kp0c cp0c, .slice Ap0d kp0d cp0d] ∧ w'.rangeAt (w.heap.size + 1) 3 [.bool gp1c, .slice Ap1c kp1c cp1c, .slice Ap1d kp1d cp1d] ∧ w'.rangeAt (w.heap.size) 6 [.bool gp0e, .slice Ap0e kp0e cp0e, .slice Ap0f kp0f cp0f] ∧ w'.rangeAt (w.heap.size + 1) 6 [.bool gp1e, .slice Ap1e kp1e cp1e, .slice Ap1f kp1f cp1f] ∧ w'.rangeAt (w.heap.size) 9 [.bool gp0g, .slice Ap0g kp0g cp0g, .slice Ap0h kp0h cp0h] ∧ w'.rangeAt (w.heap.size + 1) 9 [.bool gp1g, .slice Ap1g kp1g cp1g, .slice Ap1h kp1h cp1h])) (by kernel_rfl) (by kernel_rfl) (by rw [← hW7]; exact ⟨blk_rng 0 HB2.out, blk_rng 0 HB4.out, blk_rng 3 HB2.out, blk_rng 3 HB4.out, blk_rng 6 HB2.out, blk_rng 6 HB4.out, blk_rng 9 HB2.out, blk_rng 9 HB4.out⟩) ?_
 rw [← hW7]
 clear hW7
 refine tk0 (h := ?_)
 refine tkM 40 _ (w.heap.size) 0 _ _ (fun _ h => h.out.1) Tryz.underlying40 rfl (by kernel_rfl) (h := ?_)
 refine tk0 (h := ?_)
 refine tkM 40 _ (w.heap.size + 1) 0 _ _ (fun _ h => h.out.2.1) Tryz.underlying40 rfl (by kernel_rfl) (h := ?_)
 refine plq 1 (h := ?_)
 refine tk0 (h := ?_)
 refine plq 1 (h := ?_)
 refine tkM 40 _ (w.heap.size) 3 _ _ (fun _ h => h.out.2.2.1) Tryz.underlying40 rfl (by kernel_rfl) (h := ?_)
 refine plq 1 (h := ?_)
 refine tk0 (h := ?_)
 refine plq 1 (h := ?_)
 refine tkM 40 _ (w.heap.size + 1) 3 _ _ (fun _ h => h.out.2.2.2.1) Tryz.underlying40 rfl (by kernel_rfl) (h := ?_)
 refine plq 2 (h := ?_)
 refine tk0 (h := ?_)
 refine plq 2 (h := ?_)
 refine tkM 40 _ (w.heap.size) 6 _ _ (fun _ h => h.out.2.2.2.2.1) Tryz.underlying40 rfl (by kernel_rfl) (h := ?_)
 refine plq 2 (h := ?_)
 refine tk0 (h := ?_)
 refine plq 2 (h := ?_)
 refine tkM 40 _ (w.heap.size + 1) 6 _ _ (fun _ h => h.out.2.2.2.2.2.1) Tryz.underlying40 rfl (by kernel_rfl) (h := ?_)
 refine plq 3 (h := ?_)
 refine tk0 (h := ?_)
 refine plq 3 (h := ?_)
 refine tkM 40 _ (w.heap.size) 9 _ _ (fun _ h => h.out.2.2.2.2.2.2.1) Tryz.underlying40 rfl (by kernel_rfl) (h := ?_)
 refine plq 3 (h := ?_)
 refine tk0 (h := ?_)
 refine plq 3 (h := ?_)
 refine tkM 40 _ (w.heap.size + 1) 9 _ _ (fun _ h => h.out.2.2.2.2.2.2.2) Tryz.underlying40 rfl (by kernel_rfl) (h := ?_)
 refine sop (h := fun K9 hK9 => ?_)
 go_simp
 replace HBw := kU HBw jm1
 replace HX0 := kV HBw.out HX0
 replace HX1 := kV HBw.out HX1
 refine mQ (radd_any _ _ x.a y.a _ HX0.out.q0 HX1.out.q0 HGX.out.1 HGY.out.1) fun w1 g1a A1a k1a c1a A1b k1b c1b HR1 j1c => ?_
 replace HB2 := kB HB2 j1c
 replace HB4 := kB HB4 j1c
 refine ckk hK9 (by exact ⟨blk_rng 0 HB2.out, blk_rng 0 HB4.out, blk_rng 3 HB2.out, blk_rng 3 HB4.out, blk_rng 6 HB2.out, blk_rng 6 HB4.out, blk_rng 9 HB2.out, blk_rng 9 HB4.out⟩) (h := ?_)
 clear hK9 K9
 refine sop (h := fun K9 hK9 => ?_)
 go_simp
 replace HX0 := kV j1c HX0
 replace HX1 := kV j1c HX1
 refine mQ (radd_any _ _ x.b y.b _ HX0.out.q1 HX1.out.q1 HGX.out.2.1 HGY.out.2.1) fun w2 g2a A2a k2a c2a A2b k2b c2b HR2 j2c => ?_
 replace HB2 := kB HB2 j2c
 replace HB4 := kB HB4 j2c
 refine ckk hK9 (by exact ⟨blk_rng 0 HB2.out, blk_rng 0 HB4.out, blk_rng 3 HB2.out, blk_rng 3 HB4.out, blk_rng 6 HB2.out, blk_rng 6 HB4.out, blk_rng 9 HB2.out, blk_rng 9 HB4.out⟩) (h := ?_)
 clear hK9 K9
 refine sop (h := fun K9 hK9 => ?_)
 go_simp
 replace HX0 := kV j2c HX0
 replace HX1 := kV j2c HX1
 refine mQ (radd_any _ _ x.c y.c _ HX0.out.q2 HX1.out.q2 HGX.out.2.2.1 HGY.out.2.2.1) fun w3 g3a A3a k3a c3a A3b k3b c3b HR3 j3c => ?_
 replace HB2 := kB HB2 j3c
 replace HB4 := kB HB4 j3c
 refine ckk hK9 (by exact ⟨blk_rng 0 HB2.out, blk_rng 0 HB4.out, blk_rng 3 HB2.out, blk_rng 3 HB4.out, blk_rng 6 HB2.out, blk_rng 6 HB4.out, blk_rng 9 HB2.out, blk_rng 9 HB4.out⟩) (h := ?_)
 clear hK9 K9
 refine sop (h := fun K9 hK9 => ?_)
 go_simp
 replace HX0 := kV j3c HX0
 replace HX1 := kV j3c HX1
 refine mQ (radd_any _ _ x.e y.e _ HX0.out.q3 HX1.out.q3 HGX.out.2.2.2 HGY.out.2.2.2) fun w4 g4a A4a k4a c4a A4b k4b c4b HR4 j4c => ?_
 replace HB2 := kB HB2 j4c
 replace HB4 := kB HB4 j4c
 refine ckk hK9 (by exact ⟨blk_rng 0 HB2.out, blk_rng 0 HB4.out, blk_rng 3 HB2.out, blk_rng 3 HB4.out, blk_rng 6 HB2.out, blk_rng 6 HB4.out, blk_rng 9 HB2.out, blk_rng 9 HB4.out⟩) (h := ?_)
 clear hK9 K9
 refine tk0 (h := ?_)
 refine sop (h := fun K9 hK9 => ?_)
 have jm3 := tt (tt (tt (tt j4 j1c) j2c) j3c) j4c
 replace HB6 := kB HB6 jm3
 have t8h := kth 0 12 HB6
 refine smw 42 (w.heap.size + 2) 0 (ht := by exact t8h) (h := ?_)
 obtain ⟨W9, HW9⟩ : ∃ W, Hid (W = w4.setCells (w.heap.size + 2) 0 [.bool g1a, .slice A1a k1a c1a, .slice A1b k1b c1b, .bool g2a, .slice A2a k2a c2a, .slice A2b k2b c2b, .bool g3a, .slice A3a k3a c3a, .slice A3b k3b c3b, .bool g4a, .slice A4a k4a c4a, .slice A4b k4b c4b]) := ⟨_, rfl⟩
 have TW9 := kN (kM HW9) HB6 rfl rfl
 replace HB6 := kP (ds := [.bool g1a, .slice A1a k1a c1a, .slice A1b k1b c1b, .bool g2a, .slice A2a k2a c2a, .slice A2b k2b c2b, .bool g3a, .slice A3a k3a c3a, .slice A3b k3b c3b, .bool g4a, .slice A4a k4a c4a, .slice A4b k4b c4b]) (kM HW9) HB6 rfl rfl
 rw [← HW9.out]
 replace HB2 := kO (kM HW9) HB2 n2b6.out
 replace HB4 := kO (kM HW9) HB4 n4b6.out
 refine ckk hK9 (by exact ⟨blk_rng 0 HB2.out, blk_rng 0 HB4.out, blk_rng 3 HB2.out, blk_rng 3 HB4.out, blk_rng 6 HB2.out, blk_rng 6 HB4.out, blk_rng 9 HB2.out, blk_rng 9 HB4.out⟩) (h := ?_)
 clear hK9 K9 t8h
 refine seq_done (by kernel_rfl) ?_
 go_wp2_with fail
 have jm4 := tt (tt j2c j3c) j4c
 replace HR1 := kW TW9 (kV jm4 HR1)
 have jm5 := tt j3c j4c
 replace HR2 := kW TW9 (kV jm5 HR2)
 replace HR3 := kW TW9 (kV j4c HR3)
 replace HR4 := kW TW9 HR4
 have jm6 := tt j1c jm4
 replace HBw := kS (kM HW9) l6b (kU HBw jm6)
 exact bodyPost_ret (results_cell rfl (by rfl) (blk_all HB6.out) Tryz.underlying42 rfl (by kernel_rfl)) rfl ⟨⟨_, rfl, (show RdG _ _ (x.add y) from .mk HR1.out HR2.out HR3.out HR4.out)⟩, HBw.out⟩
theorem rreal_any (v : Value) (x : Rat) (w : World) (hv : RdF w v x) :
  Calls Tryz.prog 97 #[v] w fun e w' => (∃ v', e = .returned v' ∧ RdG w' v' (S4.ofQ x)) ∧ Below w.heap.size w w' := by
 obtain ⟨gp0a, Ap0a, kp0a, cp0a, Ap0b, kp0b, cp0b, rfl, hv⟩ := hv.open
 have HX0 := h0d hv
 clear hv
 go_enter Tryz.func97, Tryz.ntmps97
 obtain ⟨W1, HW1, HB2, s1w, j1⟩ := st_al0 w #[.bool gp0a, .slice Ap0a kp0a cp0a, .slice Ap0b kp0b cp0b] 40
 have HBw := h0d j1
 obtain ⟨W3, HW3, HB4, s3w, j2⟩ := st_alk 1 2 #[.bool false, .slice none 0 0, .slice none 0 0, .bool false, .slice none 0 0, .slice none 0 0, .bool false, .slice none 0 0, .slice none 0 0, .bool false, .slice none 0 0, .slice none 0 0] 42 s1w rfl
 have n2b4 : Hid (w.heap.size ≠ w.heap.size + 1) := by show _ ≠ _; omega
 have l4b : Hid (w.heap.size ≤ w.heap.size + 1) := by show _ ≤ _; omega
 go_wp2_with fail
 rw [← HW1.out, ← HW3.out]
 obtain ⟨W5, hW5⟩ : ∃ W, W = W3.drew := ⟨_, rfl⟩
 have j3 : Below W3.heap.size W3 W5 := by rw [hW5]; exact (Below.refl _ _).drew
 have jm1 := tt j2 j3
 replace HB2 := kB HB2 jm1
 refine seq_start (S := fun w' => Hid (w'.rangeAt (w.heap.size) 0 [.bool gp0a, .slice Ap0a kp0a cp0a, .slice Ap0b kp0b cp0b])) (by kernel_rfl) (by kernel_rfl) (by rw [← hW5]; exact blk_all HB2.out) ?_
 rw [← hW5]
 clear hW5
 refine tkM 40 _ (w.heap.size) 0 _ _ (fun _ h => h.out) Tryz.underlying40 rfl (by kernel_rfl) (h := ?_)
 refine sop (h := fun K9 hK9 => ?_)
 go_simp
 refine mQ (rwhole_any 0 _ (by omega) (by omega)) fun w1 g1a A1a k1a c1a A1b k1b c1b HR1 j1c => ?_
 replace HB2 := kB HB2 j1c
 refine ckk hK9 (by exact blk_all HB2.out) (h := ?_)
 clear hK9 K9
 refine sop (h := fun K9 hK9 => ?_)
 go_simp
 refine mQ (rwhole_any 0 _ (by omega) (by omega)) fun w2 g2a A2a k2a c2a A2b k2b c2b HR2 j2c => ?_
 replace HB2 := kB HB2 j2c
 refine ckk hK9 (by exact blk_all HB2.out) (h := ?_)
 clear hK9 K9
 refine sop (h := fun K9 hK9 => ?_)
 go_simp
 refine mQ (rwhole_any 0 _ (by omega) (by omega)) fun w3 g3a A3a k3a c3a A3b k3b c3b HR3 j3c => ?_
 replace HB2 := kB HB2 j3c
 refine ckk hK9 (by exact blk_all HB2.out) (h := ?_)
 clear hK9 K9
 refine tk0 (h := ?_)
 refine sop (h := fun K9 hK9 => ?_)
 have jm2 := tt (tt (tt j3 j1c) j2c) j3c
 replace HB4 := kB HB4 jm2
 have t6h := kth 0 12 HB4
 refine smw 42 (w.heap.size + 1) 0 (ht := by exact t6h) (h := ?_)
 obtain ⟨W7, HW7⟩ : ∃ W, Hid (W = w3.setCells (w.heap.size + 1) 0 [.bool gp0a, .slice Ap0a kp0a cp0a, .slice Ap0b kp0b cp0b, .bool g1a, .slice A1a k1a c1a, .slice A1b k1b c1b, .bool g2a, .slice A2a k2a c2a, .slice A2b k2b c2b, .bool g3a, .slice A3a k3a c3a, .slice A3b k3b c3b]) := ⟨_, rfl⟩
 have TW7 := kN (kM HW7) HB4 rfl rfl
 replace HB4 := kP (ds := [.bool gp0a, .slice Ap0a kp0a cp0a, .slice Ap0b kp0b cp0b, .bool g1a, .slice A1a k1a c1a, .slice A1b k1b c1b, .bool g2a, .slice A2a k2a c2a, .slice A2b k2b c2b, .bool g3a, .slice A3a k3a c3a, .slice A3b k3b c3b]) (kM HW7) HB4 rfl rfl
 rw [← HW7.out]
 replace HB2 := kO (kM HW7) HB2 n2b4.out
 refine ckk hK9 (by exact blk_all HB2.out) (h := ?_)
 clear hK9 K9 t6h
 refine seq_done (by kernel_rfl) ?_
 go_wp2_with fail
 have jm3 := tt j2 jm2
 replace HBw := kS (kM HW7) l4b (kU HBw jm3)
 replace HX0 := kV HBw.out HX0
 have jm4 := tt j2c j3c
 replace HR1 := kW TW7 (kV jm4 HR1)
 replace HR2 := kW TW7 (kV j3c HR2)
 replace HR3 := kW TW7 HR3
 exact bodyPost_ret (results_cell rfl (by rfl) (blk_all HB4.out) Tryz.underlying42 rfl (by kernel_rfl)) rfl ⟨⟨_, rfl, (show RdG _ _ (S4.ofQ x) from .mk HX0.out HR1.out HR2.out HR3.out)⟩, HBw.out⟩
theorem rwreal_any (v : Value) (x : Rat) (w : World) (hv : RdF w v x) :
  Calls Tryz.prog 146 #[v] w fun e w' => (∃ v', e = .returned v' ∧ RdH w' v' (W4.ofQ x)) ∧ Below w.heap.size w w' := by
 obtain ⟨gp0a, Ap0a, kp0a, cp0a, Ap0b, kp0b, cp0b, rfl, hv⟩ := hv.open
 have HX0 := h0d hv
 clear hv
 go_enter Tryz.func146, Tryz.ntmps146
 obtain ⟨W1, HW1, HB2, s1w, j1⟩ := st_al0 w #[.bool gp0a, .slice Ap0a kp0a cp0a, .slice Ap0b kp0b cp0b] 40
 have HBw := h0d j1
 obtain ⟨W3, HW3, HB4, s3w, j2⟩ := st_alk 1 2 #[.bool false, .slice none 0 0, .slice none 0 0, .bool false, .slice none 0 0, .slice none 0 0, .bool false, .slice none 0 0, .slice none 0 0, .bool false, .slice none 0 0, .slice none 0 0, .bool false, .slice none 0 0, .slice none 0 0, .bool false, .slice none 0 0, .slice none 0 0, .bool false, .slice none 0 0, .slice none 0 0, .bool false, .slice none 0 0, .slice none 0 0] 116 s1w rfl
 have l4b : Hid (w.heap.size ≤ w.heap.size + 1) := by show _ ≤ _; omega
 go_wp2_with fail
 rw [← HW1.out, ← HW3.out]
 replace HBw := kU HBw j2
 replace HX0 := kV HBw.out HX0
 refine (rreal_any _ x _ HX0.out).mono ?_
 rintro e w1 ⟨⟨vx, rfl, hr⟩, j1c⟩
 obtain ⟨g1a, A1a, k1a, c1a, A1b, k1b, c1b, g1c, A1c, k1c, c1c, A1d, k1d, c1d, g1e, A1e, k1e, c1e, A1f, k1f, c1f, g1g, A1g, k1g, c1g, A1h, k1h, c1h, rfl, hr⟩ := hr.open
 have HR1 := h0d hr
 clear hr
 go_wp2_with fail
 refine mQ (rwhole_any 0 _ (by omega) (by omega)) fun w2 g2a A2a k2a c2a A2b k2b c2b HR2 j2c => ?_
 go_wp2_with fail
 refine (rreal_any _ ((0 : Int) : Rat) _ HR2.out).mono ?_
 rintro e w3 ⟨⟨vx, rfl, hr⟩, j3c⟩
 obtain ⟨g3a, A3a, k3a, c3a, A3b, k3b, c3b, g3c, A3c, k3c, c3c, A3d, k3d, c3d, g3e, A3e, k3e, c3e, A3f, k3f, c3f, g3g, A3g, k3g, c3g, A3h, k3h, c3h, rfl, hr⟩ := hr.open
 have HR3 := h0d hr
 clear hr
 have jm1 := tt (tt j1c j2c) j3c
 replace HB4 := kB HB4 jm1
 have t5h := kth 0 24 HB4
 obtain ⟨W6, HW6⟩ : ∃ W, Hid (W = w3.setCells (w.heap.size + 1) 0 [.bool g1a, .slice A1a k1a c1a, .slice A1b k1b c1b, .bool g1c, .slice A1c k1c c1c, .slice A1d k1d c1d, .bool g1e, .slice A1e k1e c1e, .slice A1f k1f c1f, .bool g1g, .slice A1g k1g c1g, .slice A1h k1h c1h, .bool g3a, .slice A3a k3a c3a, .slice A3b k3b c3b, .bool g3c, .slice A3c k3c c3c, .slice A3d k3d c3d, .bool g3e, .slice A3e k3e c3e, .slice A3f k3f c3f, .bool g3g, .slice A3g k3g c3g, .slice A3h k3h c3h]) := ⟨_, rfl⟩
 have TW6 := kN (kM HW6) HB4 rfl rfl
 replace HB4 := kP (ds := [.bool g1a, .slice A1a k1a c1a, .slice A1b k1b c1b, .bool g1c, .slice A1c k1c c1c, .slice A1d k1d c1d, .bool g1e, .slice A1e k1e c1e, .slice A1f k1f c1f, .bool g1g, .slice A1g k1g c1g, .slice A1h k1h c1h, .bool g3a, .slice A3a k3a c3a, .slice A3b k3b c3b, .bool g3c, .slice A3c k3c c3c, .slice A3d k3d c3d, .bool g3e, .slice A3e k3e c3e, .slice A3f k3f c3f, .bool g3g, .slice A3g k3g c3g, .slice A3h k3h c3h]) (kM HW6) HB4 rfl rfl
 go_wp2_with (refine smd 116 (w.heap.size + 1) 0 (ht := by exact t5h) (h := ?_))
 rw [← HW6.out]
 clear t5h
 have jm2 := tt j2c j3c
 replace HR1 := kW TW6 (kV jm2 HR1)
 replace HR3 := kW TW6 HR3
 replace HBw := kS (kM HW6) l4b (kU HBw jm1)
 exact bodyPost_ret (results_cell rfl (by rfl) (blk_all HB4.out) Tryz.underlying116 rfl (by kernel_rfl)) rfl ⟨⟨_, rfl, (show RdH _ _ (W4.ofQ x) from .of HR1.out (show RdG _ _ (W4.ofQ x).im from HR3.out))⟩, HBw.out⟩
theorem rwadd_any (v u : Value) (x y : W4) (w : World) (hv : RdH w v x) (hu : RdH w u y) (hx : GM 400000 x.re ∧ GM 400000 x.im) (hy : GM 400000 y.re ∧ GM 400000 y.im) :
  Calls Tryz.prog 147 #[v, u] w fun e w' => (∃ v', e = .returned v' ∧ RdH w' v' (x.add y)) ∧ Below w.heap.size w w' := by
 have HGX := h0d hx
 have HGY := h0d hy
 clear hx hy
 obtain ⟨gp0a, Ap0a, kp0a, cp0a, Ap0b, kp0b, cp0b, gp0c, Ap0c, kp0c, cp0c, Ap0d, kp0d, cp0d, gp0e, Ap0e, kp0e, cp0e, Ap0f, kp0f, cp0f, gp0g, Ap0g, kp0g, cp0g, Ap0h, kp0h, cp0h, gp0i, Ap0i, kp0i, cp0i, Ap0j, kp0j, cp0j, gp0k, Ap0k, kp0k, cp0k, Ap0l, kp0l, cp0l, gp0m, Ap0m, kp0m, cp0m, Ap0n, kp0n, cp0n, gp0o, Ap0o, kp0o, cp0o, Ap0p, kp0p, cp0p, rfl, hv⟩ := hv.open
 have HX0 := h0d hv
 clear hv
 obtain ⟨gp1a, Ap1a, kp1a, cp1a, Ap1b, kp1b, cp1b, gp1c, Ap1c, kp1c, cp1c, Ap1d, kp1d, cp1d, gp1e, Ap1e, kp1e, cp1e, Ap1f, kp1f, cp1f, gp1g, Ap1g, kp1g, cp1g, Ap1h, kp1h, cp1h, gp1i, Ap1i, kp1i, cp1i, Ap1j, kp1j, cp1j, gp1k, Ap1k, kp1k, cp1k, Ap1l, kp1l, cp1l, gp1m, Ap1m, kp1m, cp1m, Ap1n, kp1n, cp1n, gp1o, Ap1o, kp1o, cp1o, Ap1p, kp1p, cp1p, rfl, hu⟩ := hu.open
 have HX1 := h0d hu
 clear hu
 go_enter Tryz.func147, Tryz.ntmps147
 obtain ⟨W1, HW1, HB2, s1w, j1⟩ := st_al0 w #[.bool gp0a, .slice Ap0a kp0a cp0a, .slice Ap0b kp0b cp0b, .bool gp0c, .slice Ap0c kp0c cp0c, .slice Ap0d kp0d cp0d, .bool gp0e, .slice Ap0e kp0e cp0e, .slice Ap0f kp0f cp0f, .bool gp0g, .slice Ap0g kp0g cp0g, .slice Ap0h kp0h cp0h, .bool gp0i, .slice Ap0i kp0i cp0i, .slice Ap0j kp0j cp0j, .bool gp0k, .slice Ap0k kp0k cp0k, .slice Ap0l kp0l cp0l, .bool gp0m, .slice Ap0m kp0m cp0m, .slice Ap0n kp0n cp0n, .bool gp0o, .slice Ap0o kp0o cp0o, .slice Ap0p kp0p cp0p] 116
 have HBw := h0d j1
 obtain ⟨W3, HW3, HB4, s3w, j2⟩ := st_alk 1 2 #[.bool gp1a, .slice Ap1a kp1a cp1a, .slice Ap1b kp1b cp1b, .bool gp1c, .slice Ap1c kp1c cp1c, .slice Ap1d kp1d cp1d, .bool gp1e, .slice Ap1e kp1e cp1e, .slice Ap1f kp1f cp1f, .bool gp1g, .slice Ap1g kp1g cp1g, .slice Ap1h kp1h cp1h, .bool gp1i, .slice Ap1i kp1i cp1i, .slice Ap1j kp1j cp1j, .bool gp1k, .slice Ap1k kp1k cp1k, .slice Ap1l kp1l cp1l, .bool gp1m, .slice Ap1m kp1m cp1m, .slice Ap1n kp1n cp1n, .bool gp1o, .slice Ap1o kp1o cp1o, .slice Ap1p kp1p cp1p] 116 s1w rfl
 obtain ⟨W5, HW5, HB6, s5w, j3⟩ := st_alk 2 3 #[.bool false, .slice none 0 0, .slice none 0 0, .bool false, .slice none 0 0, .slice none 0 0, .bool false, .slice none 0 0, .slice none 0 0, .bool false, .slice none 0 0, .slice none 0 0, .bool false, .slice none 0 0, .slice none 0 0, .bool false, .slice none 0 0, .slice none 0 0, .bool false, .slice none 0 0, .slice none 0 0, .bool false, .slice none 0 0, .slice none 0 0] 116 s3w rfl
 have n2b6 : Hid (w.heap.size ≠ w.heap.size + 2) := by show _ ≠ _; omega
 have n4b6 : Hid (w.heap.size + 1 ≠ w.heap.size + 2) := by show _ ≠ _; omega
 have l6b : Hid (w.heap.size ≤ w.heap.size + 2) := by show _ ≤ _; omega
 go_wp2_with fail
 rw [← HW1.out, ← HW3.out, ← HW5.out]
 obtain ⟨W7, hW7⟩ : ∃ W, W = W5.drew := ⟨_, rfl⟩
 have j4 : Below W5.heap.size W5 W7 := by rw [hW7]; exact (Below.refl _ _).drew
 have jm1 := tt (tt j2 j3) j4
 replace HB2 := kB HB2 jm1
 have jm2 := tt j3 j4
 replace HB4 := kB HB4 jm2
 refine seq_start (S := fun w' => Hid (w'.rangeAt (w.heap.size) 0 [.bool gp0a, .slice Ap0a kp0a cp0a, .slice Ap0b kp0b cp0b, .bool gp0c, .slice Ap0c kp0c cp0c, .slice Ap0d kp0d cp0d, .bool gp0e, .slice Ap0e kp0e cp0e, .slice Ap0f kp0f cp0f, .bool gp0g, .slice Ap0g kp0g cp0g, .slice Ap0h kp0h cp0h] ∧ w'.rangeAt (w.heap.size + 1) 0 [.bool gp1a, .slice Ap1a kp1a cp1a, .slice Ap1b kp1b cp1b, .bool gp1c, .slice Ap1c kp1c cp1c, .slice Ap1d kp1d cp1d, .bool gp1e, .slice Ap1e kp1e cp1e, .slice Ap1f kp1f cp1f, .bool gp1g, .slice Ap1g kp1g cp1g, .slice Ap1h kp1h cp1h] ∧ w'.rangeAt (w.heap.size) 12 [.bool gp0i, .slice Ap0i kp0i cp0i, .slice Ap0j kp0j cp0j, .bool gp0k, .slice Ap0k kp0k cp0k, .slice Ap0l kp0l cp0l, .bool gp0m, .slice Ap0m kp0m cp0m, .slice Ap0n kp0n cp0n, .bool gp0o, .slice Ap0o kp0o cp0o, .slice Ap0p kp0p cp0p] ∧ w'.rangeAt (w.heap.size + 1) 12 [.bool gp1i, .slice Ap1i kp1i cp1i, .slice Ap1j kp1j cp1j, .bool gp1k, .slice Ap1k kp1k cp1k, .slice Ap1l kp1l cp1l, .bool gp1m, .slice Ap1m kp1m cp1m, .slice Ap1n kp1n cp1n, .bool gp1o, .slice Ap1o kp1o cp1o, .slice Ap1p kp1p cp1p])) (by kernel_rfl) (by kernel_rfl) (by rw [← hW7]; exact ⟨blk_rng 0 HB2.out, blk_rng 0 HB4.out, blk_rng 12 HB2.out, blk_rng 12 HB4.out⟩) ?_
 rw [← hW7]
 clear hW7
 refine tk0 (h := ?_)
 refine tkM 42 _ (w.heap.size) 0 _ _ (fun _ h => h.out.1) Tryz.underlying42 rfl (by kernel_rfl) (h := ?_)
 refine tk0 (h := ?_)
 refine tkM 42 _ (w.heap.size + 1) 0 _ _ (fun _ h => h.out.2.1) Tryz.underlying42 rfl (by kernel_rfl) (h := ?_)
 refine plq 1 (h := ?_)
 refine tk0 (h := ?_)
 refine plq 1 (h := ?_)
 refine tkM 42 _ (w.heap.size) 12 _ _ (fun _ h => h.out.2.2.1) Tryz.underlying42 rfl (by kernel_rfl) (h := ?_)
 refine plq 1 (h := ?_)
 refine tk0 (h := ?_)
 refine plq 1 (h := ?_)
 refine tkM 42 _ (w.heap.size + 1) 12 _ _ (fun _ h => h.out.2.2.2) Tryz.underlying42 rfl (by kernel_rfl) (h := ?_)
 refine sop (h := fun K9 hK9 => ?_)
 go_simp
 replace HBw := kU HBw jm1
 replace HX0 := kV HBw.out HX0
 replace HX1 := kV HBw.out HX1
 refine (rsadd_any _ _ x.re y.re _ HX0.out.re HX1.out.re HGX.out.1 HGY.out.1).mono ?_
 rintro e w1 ⟨⟨vx, rfl, hr⟩, j1c⟩
 obtain ⟨g1a, A1a, k1a, c1a, A1b, k1b, c1b, g1c, A1c, k1c, c1c, A1d, k1d, c1d, g1e, A1e, k1e, c1e, A1f, k1f, c1f, g1g, A1g, k1g, c1g, A1h, k1h, c1h, rfl, hr⟩ := hr.open
 have HR1 := h0d hr
 clear hr
 replace HB2 := kB HB2 j1c
 replace HB4 := kB HB4 j1c
 refine ckk hK9 (by exact ⟨blk_rng 0 HB2.out, blk_rng 0 HB4.out, blk_rng 12 HB2.out, blk_rng 12 HB4.out⟩) (h := ?_)
 clear hK9 K9
 refine sop (h := fun K9 hK9 => ?_)
 go_simp
 replace HX0 := kV j1c HX0
 replace HX1 := kV j1c HX1
 refine (rsadd_any _ _ x.im y.im _ HX0.out.im HX1.out.im HGX.out.2 HGY.out.2).mono ?_
 rintro e w2 ⟨⟨vx, rfl, hr⟩, j2c⟩
 obtain ⟨g2a, A2a, k2a, c2a, A2b, k2b, c2b, g2c, A2c, k2c, c2c, A2d, k2d, c2d, g2e, A2e, k2e, c2e, A2f, k2f, c2f, g2g, A2g, k2g, c2g, A2h, k2h, c2h, rfl, hr⟩ := hr.open
 have HR2 := h0d hr
 clear hr
 replace HB2 := kB HB2 j2c
 replace HB4 := kB HB4 j2c
 refine ckk hK9 (by exact ⟨blk_rng 0 HB2.out, blk_rng 0 HB4.out, blk_rng 12 HB2.out, blk_rng 12 HB4.out⟩) (h := ?_)
 clear hK9 K9
 refine tk0 (h := ?_)
 refine sop (h := fun K9 hK9 => ?_)
 have jm3 := tt (tt j4 j1c) j2c
 replace HB6 := kB HB6 jm3
 have t8h := kth 0 24 HB6
 refine smw 116 (w.heap.size + 2) 0 (ht := by exact t8h) (h := ?_)
 obtain ⟨W9, HW9⟩ : ∃ W, Hid (W = w2.setCells (w.heap.size + 2) 0 [.bool g1a, .slice A1a k1a c1a, .slice A1b k1b c1b, .bool g1c, .slice A1c k1c c1c, .slice A1d k1d c1d, .bool g1e, .slice A1e k1e c1e, .slice A1f k1f c1f, .bool g1g, .slice A1g k1g c1g, .slice A1h k1h c1h, .bool g2a, .slice A2a k2a c2a, .slice A2b k2b c2b, .bool g2c, .slice A2c k2c c2c, .slice A2d k2d c2d, .bool g2e, .slice A2e k2e c2e, .slice A2f k2f c2f, .bool g2g, .slice A2g k2g c2g, .slice A2h k2h c2h]) := ⟨_, rfl⟩
 have TW9 := kN (kM HW9) HB6 rfl rfl
 replace HB6 := kP (ds := [.bool g1a, .slice A1a k1a c1a, .slice A1b k1b c1b, .bool g1c, .slice A1c k1c c1c, .slice A1d k1d c1d, .bool g1e, .slice A1e k1e c1e, .slice A1f k1f c1f, .bool g1g, .slice A1g k1g c1g, .slice A1h k1h c1h, .bool g2a, .slice A2a k2a c2a, .slice A2b k2b c2b, .bool g2c, .slice A2c k2c c2c, .slice A2d k2d c2d, .bool g2e, .slice A2e k2e c2e, .slice A2f k2f c2f, .bool g2g, .slice A2g k2g c2g, .slice A2h k2h c2h]) (kM HW9) HB6 rfl rfl
 rw [← HW9.out]
 replace HB2 := kO (kM HW9) HB2 n2b6.out
 replace HB4 := kO (kM HW9) HB4 n4b6.out
 refine ckk hK9 (by exact ⟨blk_rng 0 HB2.out, blk_rng 0 HB4.out, blk_rng 12 HB2.out, blk_rng 12 HB4.out⟩) (h := ?_)
 clear hK9 K9 t8h
 refine seq_done (by kernel_rfl) ?_
 go_wp2_with fail
 replace HR1 := kW TW9 (kV j2c HR1)
 replace HR2 := kW TW9 HR2
 have jm4 := tt j1c j2c
 replace HBw := kS (kM HW9) l6b (kU HBw jm4)
 exact bodyPost_ret (results_cell rfl (by rfl) (blk_all HB6.out) Tryz.underlying116 rfl (by kernel_rfl)) rfl ⟨⟨_, rfl, (show RdH _ _ (x.add y) from .of (x := x.add y) HR1.out HR2.out)⟩, HBw.out⟩
def ptL : List Int := [4, 0, 0, 0, 0, 1, 0, 1, 0, 0, 2, 0, 0, 2, 0, 0, 2, 0, 0, 0, 0, -1, 0, 1, 0, 0, 0, 0]
def pt (j i : Nat) : Int := ptL.getD (j * 4 + i) 0
theorem pt_cells {j i : Nat} (hj : j ≤ 6) (hi : i < 4) : ([.int .i64 4, .int .i64 0, .int .i64 0, .int .i64 0, .int .i64 0, .int .i64 1, .int .i64 0, .int .i64 1, .int .i64 0, .int .i64 0, .int .i64 2, .int .i64 0, .int .i64 0, .int .i64 2, .int .i64 0, .int .i64 0, .int .i64 2, .int .i64 0, .int .i64 0, .int .i64 0, .int .i64 0, .int .i64 (-1), .int .i64 0, .int .i64 1, .int .i64 0, .int .i64 0, .int .i64 0, .int .i64 0] : List Value)[j * 4 + i]? = some (.int .i64 (pt j i)) := by
 have h : ([.int .i64 4, .int .i64 0, .int .i64 0, .int .i64 0, .int .i64 0, .int .i64 1, .int .i64 0, .int .i64 1, .int .i64 0, .int .i64 0, .int .i64 2, .int .i64 0, .int .i64 0, .int .i64 2, .int .i64 0, .int .i64 0, .int .i64 2, .int .i64 0, .int .i64 0, .int .i64 0, .int .i64 0, .int .i64 (-1), .int .i64 0, .int .i64 1, .int .i64 0, .int .i64 0, .int .i64 0, .int .i64 0] : List Value) = ptL.map (fun n => .int .i64 n) := rfl
 rw [h, List.getElem?_map]
 have hl : j * 4 + i < ptL.length := by show _ < 28; omega
 unfold pt
 rw [List.getD_eq_getElem?_getD, List.getElem?_eq_getElem hl]; rfl
theorem pt_small (j i : Nat) : -1 ≤ pt j i ∧ pt j i ≤ 4 := by
 unfold pt
 rw [List.getD_eq_getElem?_getD]
 rcases h : ptL[j * 4 + i]? with _ | n
 ·exact ⟨by decide, by decide⟩
 ·have := List.mem_of_getElem? h
  have key : ∀ n ∈ ptL, -1 ≤ n ∧ n ≤ 4 := by decide
  exact key n this
theorem pt_cos : ∀ j : Nat, j < 7 → (⟨ratio (pt j 0) 4, ratio (pt j 1) 4, ratio (pt j 2) 4, ratio (pt j 3) 4⟩ : S4) = cos6 j := by decide +kernel
theorem rcos6_any (k : Int) (j : Nat) (w : World) (hj : j ≤ 6) (h : k = j ∨ (12 < k ∧ 24 - k = j)) :
  Calls Tryz.prog 213 #[.int .i64 k] w fun e w' => (∃ v', e = .returned v' ∧ RdG w' v' (cos6 j)) ∧ Below w.heap.size w w' := by
 have HJ := h0d hj
 have h6 : ¬ 6 < (j : Int) := by omega
 have hw : IntKind.i64.wrap (24 - k) = 24 - k := IntWalk.i64_in _ (by omega)
 rcases h with rfl | ⟨h12, h24⟩
 case' inl => have h12 : ¬ 12 < (j : Int) := by omega
 case' inr => rw [h24] at hw
 all_goals
  have HPZ0 := h0d (pt_cells (j := j) (i := 0) HJ.out (by omega))
  have HPZ1 := h0d (pt_cells (j := j) (i := 1) HJ.out (by omega))
  have HPZ2 := h0d (pt_cells (j := j) (i := 2) HJ.out (by omega))
  have HPZ3 := h0d (pt_cells (j := j) (i := 3) HJ.out (by omega))
  go_enter Tryz.func213, Tryz.ntmps213
  obtain ⟨W1, HW1, HB2, s1w, j1⟩ := st_al0 w #[.bool false, .slice none 0 0, .slice none 0 0, .bool false, .slice none 0 0, .slice none 0 0, .bool false, .slice none 0 0, .slice none 0 0, .bool false, .slice none 0 0, .slice none 0 0] 42
  have l2b : Hid (w.heap.size ≤ w.heap.size) := by show _ ≤ _; omega
  have HBw := h0d j1
  obtain ⟨W3, HW3, HB4, s3w, j2⟩ := st_alk 1 2 #[.int .i64 4, .int .i64 0, .int .i64 0, .int .i64 0, .int .i64 0, .int .i64 1, .int .i64 0, .int .i64 1, .int .i64 0, .int .i64 0, .int .i64 2, .int .i64 0, .int .i64 0, .int .i64 2, .int .i64 0, .int .i64 0, .int .i64 2, .int .i64 0, .int .i64 0, .int .i64 0, .int .i64 0, .int .i64 (-1), .int .i64 0, .int .i64 1, .int .i64 0, .int .i64 0, .int .i64 0, .int .i64 0] 327 s1w rfl
  have n2b4 : Hid (w.heap.size ≠ w.heap.size + 1) := by show _ ≠ _; omega
  have l4b : Hid (w.heap.size ≤ w.heap.size + 1) := by show _ ≤ _; omega
  obtain ⟨W5, HW5, HB6, s5w, j3⟩ := st_alk 2 3 #[.bool false, .slice none 0 0, .slice none 0 0, .bool false, .slice none 0 0, .slice none 0 0, .bool false, .slice none 0 0, .slice none 0 0, .bool false, .slice none 0 0, .slice none 0 0] 42 s3w rfl
  have n2b6 : Hid (w.heap.size ≠ w.heap.size + 2) := by show _ ≠ _; omega
  have n4b6 : Hid (w.heap.size + 1 ≠ w.heap.size + 2) := by show _ ≠ _; omega
  have l6b : Hid (w.heap.size ≤ w.heap.size + 2) := by show _ ≤ _; omega
  go_wp2_with fail
  rw [← HW1.out, ← HW3.out, ← HW5.out]
  refine wp_loop_rounds 5 ?_
  rw [rounds_succ]
  replace HB4 := kB HB4 j3
  have c7 := kC HB4 (j * 4) (by exact HPZ0.out)
  go_wp2_with fail
  clear c7
  refine (rnew_any (pt j 0) 4 _ (by have := pt_small j 0; omega) (by have := pt_small j 0; omega) (by omega) (by omega) (by omega)).mono ?_
  rintro e w1 ⟨⟨vx, rfl, hr⟩, j1c⟩
  obtain ⟨g1a, A1a, k1a, c1a, A1b, k1b, c1b, rfl, hr⟩ := hr.open
  have HR1 := h0d hr
  clear hr
  replace HB6 := kB HB6 j1c
  have t8h := kth 0 3 HB6
  obtain ⟨W9, HW9⟩ : ∃ W, Hid (W = w1.setCells (w.heap.size + 2) 0 [.bool g1a, .slice A1a k1a c1a, .slice A1b k1b c1b]) := ⟨_, rfl⟩
  have TW9 := kN (kM HW9) HB6 rfl rfl
  replace HB6 := kP (ds := [.bool g1a, .slice A1a k1a c1a, .slice A1b k1b c1b, .bool false, .slice none 0 0, .slice none 0 0, .bool false, .slice none 0 0, .slice none 0 0, .bool false, .slice none 0 0, .slice none 0 0]) (kM HW9) HB6 rfl rfl
  have s9w := kZ (kM HW9)
  go_wp2_with (refine smd 40 (w.heap.size + 2) 0 (ht := by exact t8h) (h := ?_))
  rw [← HW9.out]
  clear t8h
  rw [rounds_succ]
  replace HB4 := kO (kM HW9) (kB HB4 j1c) n4b6.out
  have c10 := kC HB4 (j * 4 + 1) (by exact HPZ1.out)
  go_wp2_with fail
  clear c10
  refine (rnew_any (pt j 1) 4 _ (by have := pt_small j 1; omega) (by have := pt_small j 1; omega) (by omega) (by omega) (by omega)).mono ?_
  rintro e w2 ⟨⟨vx, rfl, hr⟩, j2c⟩
  obtain ⟨g2a, A2a, k2a, c2a, A2b, k2b, c2b, rfl, hr⟩ := hr.open
  have HR2 := h0d hr
  clear hr
  replace HB6 := kB HB6 j2c
  have t11h := kth 3 3 HB6
  obtain ⟨W12, HW12⟩ : ∃ W, Hid (W = w2.setCells (w.heap.size + 2) 3 [.bool g2a, .slice A2a k2a c2a, .slice A2b k2b c2b]) := ⟨_, rfl⟩
  have TW12 := kN (kM HW12) HB6 rfl rfl
  replace HB6 := kP (ds := [.bool g1a, .slice A1a k1a c1a, .slice A1b k1b c1b, .bool g2a, .slice A2a k2a c2a, .slice A2b k2b c2b, .bool false, .slice none 0 0, .slice none 0 0, .bool false, .slice none 0 0, .slice none 0 0]) (kM HW12) HB6 rfl rfl
  have s12w := kZ (kM HW12)
  go_wp2_with (refine smd 40 (w.heap.size + 2) 3 (ht := by exact t11h) (h := ?_))
  rw [← HW12.out]
  clear t11h
  rw [rounds_succ]
  replace HB4 := kO (kM HW12) (kB HB4 j2c) n4b6.out
  have c13 := kC HB4 (j * 4 + 2) (by exact HPZ2.out)
  go_wp2_with fail
  clear c13
  refine (rnew_any (pt j 2) 4 _ (by have := pt_small j 2; omega) (by have := pt_small j 2; omega) (by omega) (by omega) (by omega)).mono ?_
  rintro e w3 ⟨⟨vx, rfl, hr⟩, j3c⟩
  obtain ⟨g3a, A3a, k3a, c3a, A3b, k3b, c3b, rfl, hr⟩ := hr.open
  have HR3 := h0d hr
  clear hr
  replace HB6 := kB HB6 j3c
  have t14h := kth 6 3 HB6
  obtain ⟨W15, HW15⟩ : ∃ W, Hid (W = w3.setCells (w.heap.size + 2) 6 [.bool g3a, .slice A3a k3a c3a, .slice A3b k3b c3b]) := ⟨_, rfl⟩
  have TW15 := kN (kM HW15) HB6 rfl rfl
  replace HB6 := kP (ds := [.bool g1a, .slice A1a k1a c1a, .slice A1b k1b c1b, .bool g2a, .slice A2a k2a c2a, .slice A2b k2b c2b, .bool g3a, .slice A3a k3a c3a, .slice A3b k3b c3b, .bool false, .slice none 0 0, .slice none 0 0]) (kM HW15) HB6 rfl rfl
  have s15w := kZ (kM HW15)
  go_wp2_with (refine smd 40 (w.heap.size + 2) 6 (ht := by exact t14h) (h := ?_))
  rw [← HW15.out]
  clear t14h
  rw [rounds_succ]
  replace HB4 := kO (kM HW15) (kB HB4 j3c) n4b6.out
  have c16 := kC HB4 (j * 4 + 3) (by exact HPZ3.out)
  go_wp2_with fail
  clear c16
  refine (rnew_any (pt j 3) 4 _ (by have := pt_small j 3; omega) (by have := pt_small j 3; omega) (by omega) (by omega) (by omega)).mono ?_
  rintro e w4 ⟨⟨vx, rfl, hr⟩, j4c⟩
  obtain ⟨g4a, A4a, k4a, c4a, A4b, k4b, c4b, rfl, hr⟩ := hr.open
  have HR4 := h0d hr
  clear hr
  replace HB6 := kB HB6 j4c
  have t17h := kth 9 3 HB6
  obtain ⟨W18, HW18⟩ : ∃ W, Hid (W = w4.setCells (w.heap.size + 2) 9 [.bool g4a, .slice A4a k4a c4a, .slice A4b k4b c4b]) := ⟨_, rfl⟩
  have TW18 := kN (kM HW18) HB6 rfl rfl
  replace HB6 := kP (ds := [.bool g1a, .slice A1a k1a c1a, .slice A1b k1b c1b, .bool g2a, .slice A2a k2a c2a, .slice A2b k2b c2b, .bool g3a, .slice A3a k3a c3a, .slice A3b k3b c3b, .bool g4a, .slice A4a k4a c4a, .slice A4b k4b c4b]) (kM HW18) HB6 rfl rfl
  have s18w := kZ (kM HW18)
  go_wp2_with (refine smd 40 (w.heap.size + 2) 9 (ht := by exact t17h) (h := ?_))
  rw [← HW18.out]
  clear t17h
  rw [rounds_succ]
  have hL19 := blk_all HB6.out
  have jm1 := tt (tt j2 j3) j1c
  replace HB2 := kO (kM HW18) (kB (kO (kM HW15) (kB (kO (kM HW12) (kB (kO (kM HW9) (kB HB2 jm1) n2b6.out) j2c) n2b6.out) j3c) n2b6.out) j4c) n2b6.out
  have t20h := kth 0 12 HB2
  obtain ⟨W21, HW21⟩ : ∃ W, Hid (W = W18.setCells (w.heap.size) 0 [.bool g1a, .slice A1a k1a c1a, .slice A1b k1b c1b, .bool g2a, .slice A2a k2a c2a, .slice A2b k2b c2b, .bool g3a, .slice A3a k3a c3a, .slice A3b k3b c3b, .bool g4a, .slice A4a k4a c4a, .slice A4b k4b c4b]) := ⟨_, rfl⟩
  have TW21 := kN (kM HW21) HB2 rfl rfl
  replace HB2 := kP (ds := [.bool g1a, .slice A1a k1a c1a, .slice A1b k1b c1b, .bool g2a, .slice A2a k2a c2a, .slice A2b k2b c2b, .bool g3a, .slice A3a k3a c3a, .slice A3b k3b c3b, .bool g4a, .slice A4a k4a c4a, .slice A4b k4b c4b]) (kM HW21) HB2 rfl rfl
  have s21w := kZ (kM HW21)
  go_wp2_with (first | (refine wpList_load_mid (by rfl) 42 _ (by rfl) (w.heap.size + 2) 0 (by rfl) _ _ (by exact hL19) Tryz.underlying42 rfl (by kernel_rfl) ?_) | (refine smd 42 (w.heap.size) 0 (ht := by exact t20h) (h := ?_)))
  rw [← HW21.out]
  clear hL19 t20h
  replace HR1 := kW TW21 (kW TW18 (kV j4c (kW TW15 (kV j3c (kW TW12 (kV j2c (kW TW9 HR1)))))))
  replace HR2 := kW TW21 (kW TW18 (kV j4c (kW TW15 (kV j3c (kW TW12 HR2)))))
  replace HR3 := kW TW21 (kW TW18 (kV j4c (kW TW15 HR3)))
  replace HR4 := kW TW21 (kW TW18 HR4)
  replace HBw := kS (kM HW21) l2b (kS (kM HW18) l6b (kU (kS (kM HW15) l6b (kU (kS (kM HW12) l6b (kU (kS (kM HW9) l6b (kU HBw jm1)) j2c)) j3c)) j4c))
  exact bodyPost_ret (results_cell rfl (by rfl) (blk_all HB2.out) Tryz.underlying42 rfl (by kernel_rfl)) rfl ⟨⟨_, rfl, (show RdG _ _ (cos6 j) from pt_cos j (Nat.lt_succ_of_le HJ.out) ▸ (.mk (x := ⟨ratio (pt j 0) 4, ratio (pt j 1) 4, ratio (pt j 2) 4, ratio (pt j 3) 4⟩) HR1.out HR2.out HR3.out HR4.out))⟩, HBw.out⟩
theorem qm_small {x : Rat} (h : x.num.natAbs < 100) (k : x.den < 100) : QM 2 x := ⟨dm_word (by unfold B64; omega), dm_word (by unfold B64; omega)⟩
theorem cos_gm (j : Nat) : GM 400000 (cos6 j) := by
 have key : ∀ j : Nat, j < 7 → (((cos6 j).a.num.natAbs < 100 ∧ (cos6 j).a.den < 100) ∧ ((cos6 j).b.num.natAbs < 100 ∧ (cos6 j).b.den < 100) ∧ ((cos6 j).c.num.natAbs < 100 ∧ (cos6 j).c.den < 100) ∧ ((cos6 j).e.num.natAbs < 100 ∧ (cos6 j).e.den < 100)) := by decide +kernel
 have h6 : cos6 j = cos6 (min j 6) := by
  by_cases h : j < 6
  ·rw [Nat.min_eq_left (by omega)]
  ·obtain ⟨n, rfl⟩ : ∃ n, j = n + 6 := ⟨j - 6, by omega⟩
   rw [Nat.min_eq_right (by omega)]; rfl
 rw [h6]
 obtain ⟨⟨a, b⟩, ⟨c, d⟩, ⟨e, f⟩, g, h⟩ := key (min j 6) (by omega)
 exact ⟨(qm_small (by omega) (by omega)).mono (by omega), (qm_small (by omega) (by omega)).mono (by omega), (qm_small (by omega) (by omega)).mono (by omega), (qm_small (by omega) (by omega)).mono (by omega)⟩
theorem rcosn_any (k : Int) (j : Nat) (w : World) (hj : 6 < j ∧ j ≤ 12) (h : k = j ∨ (12 < k ∧ 24 - k = j)) :
  Calls Tryz.prog 213 #[.int .i64 k] w fun e w' => (∃ v', e = .returned v' ∧ RdG w' v' (cos6 (12 - j)).neg) ∧ Below w.heap.size w w' := by
 have h6 : 6 < (j : Int) := by omega
 have hw : IntKind.i64.wrap (24 - k) = 24 - k := IntWalk.i64_in _ (by omega)
 have hw2 : IntKind.i64.wrap (12 - (j : Int)) = ((12 - j : Nat) : Int) := by rw [IntWalk.i64_in _ (by omega)]; omega
 rcases h with rfl | ⟨h12, h24⟩
 case' inl => have h12 : ¬ 12 < (j : Int) := by omega
 case' inr => rw [h24] at hw
 all_goals
  go_enter Tryz.func213, Tryz.ntmps213
  obtain ⟨W1, HW1, HB2, s1w, j1⟩ := st_al0 w #[.bool false, .slice none 0 0, .slice none 0 0, .bool false, .slice none 0 0, .slice none 0 0, .bool false, .slice none 0 0, .slice none 0 0, .bool false, .slice none 0 0, .slice none 0 0] 42
  have l2b : Hid (w.heap.size ≤ w.heap.size) := by show _ ≤ _; omega
  have HBw := h0d j1
  go_wp2_with fail
  rw [← HW1.out]
  refine (rcos6_any ((12 - j : Nat) : Int) (12 - j) _ (by omega) (.inl rfl)).mono ?_
  rintro e w1 ⟨⟨vx, rfl, hr⟩, j1c⟩
  obtain ⟨g1a, A1a, k1a, c1a, A1b, k1b, c1b, g1c, A1c, k1c, c1c, A1d, k1d, c1d, g1e, A1e, k1e, c1e, A1f, k1f, c1f, g1g, A1g, k1g, c1g, A1h, k1h, c1h, rfl, hr⟩ := hr.open
  have HR1 := h0d hr
  clear hr
  go_wp2_with fail
  refine (rsneg_any _ (cos6 (12 - j)) _ HR1.out (cos_gm _)).mono ?_
  rintro e w2 ⟨⟨vx, rfl, hr⟩, j2c⟩
  obtain ⟨g2a, A2a, k2a, c2a, A2b, k2b, c2b, g2c, A2c, k2c, c2c, A2d, k2d, c2d, g2e, A2e, k2e, c2e, A2f, k2f, c2f, g2g, A2g, k2g, c2g, A2h, k2h, c2h, rfl, hr⟩ := hr.open
  have HR2 := h0d hr
  clear hr
  have jm1 := tt j1c j2c
  replace HB2 := kB HB2 jm1
  have t3h := kth 0 12 HB2
  obtain ⟨W4, HW4⟩ : ∃ W, Hid (W = w2.setCells (w.heap.size) 0 [.bool g2a, .slice A2a k2a c2a, .slice A2b k2b c2b, .bool g2c, .slice A2c k2c c2c, .slice A2d k2d c2d, .bool g2e, .slice A2e k2e c2e, .slice A2f k2f c2f, .bool g2g, .slice A2g k2g c2g, .slice A2h k2h c2h]) := ⟨_, rfl⟩
  have TW4 := kN (kM HW4) HB2 rfl rfl
  replace HB2 := kP (ds := [.bool g2a, .slice A2a k2a c2a, .slice A2b k2b c2b, .bool g2c, .slice A2c k2c c2c, .slice A2d k2d c2d, .bool g2e, .slice A2e k2e c2e, .slice A2f k2f c2f, .bool g2g, .slice A2g k2g c2g, .slice A2h k2h c2h]) (kM HW4) HB2 rfl rfl
  have s4w := kZ (kM HW4)
  go_wp2_with (refine smd 42 (w.heap.size) 0 (ht := by exact t3h) (h := ?_))
  rw [← HW4.out]
  clear t3h
  replace HR2 := kW TW4 HR2
  replace HBw := kS (kM HW4) l2b (kU HBw jm1)
  exact bodyPost_ret (results_cell rfl (by rfl) (blk_all HB2.out) Tryz.underlying42 rfl (by kernel_rfl)) rfl ⟨⟨_, rfl, HR2.out⟩, HBw.out⟩
theorem rcosine_any (k : Nat) (w : World) (hk : k < 24) :
  Calls Tryz.prog 213 #[.int .i64 (k : Int)] w fun e w' => (∃ v', e = .returned v' ∧ RdG w' v' (cosN k)) ∧ Below w.heap.size w w' := by
 unfold cosN
 by_cases h : 12 < k
 ·simp only [if_pos h]
  by_cases h6 : 6 < 24 - k
  ·rw [if_pos h6]; exact rcosn_any _ (24 - k) w (by omega) (.inr ⟨by omega, by omega⟩)
  ·rw [if_neg h6]; exact rcos6_any _ (24 - k) w (by omega) (.inr ⟨by omega, by omega⟩)
 ·simp only [if_neg h]
  by_cases h6 : 6 < k
  ·rw [if_pos h6]; exact rcosn_any _ k w (by omega) (.inl rfl)
  ·rw [if_neg h6]; exact rcos6_any _ k w (by omega) (.inl rfl)
theorem rturn_any (k : Int) (w : World) (h1 : -1000000 ≤ k) (h2 : k ≤ 1000000) :
  Calls Tryz.prog 148 #[.int .i64 k] w fun e w' => (∃ v', e = .returned v' ∧ RdH w' v' (turn k)) ∧ Below w.heap.size w w' := by
 obtain ⟨j, hj⟩ : ∃ j : Nat, (j : Int) = k % 24 := ⟨(k % 24).toNat, by omega⟩
 obtain ⟨i, hi⟩ : ∃ i : Nat, (i : Int) = ((j : Int) + 18) % 24 := ⟨(((j : Int) + 18) % 24).toNat, by omega⟩
 obtain ⟨a, ha⟩ : ∃ a, a = k.tmod 24 := ⟨_, rfl⟩
 have ha2 : a = if 0 ≤ k then k % 24 else -((-k) % 24) := by
  rw [ha]; split
  ·exact Int.tmod_eq_emod_of_nonneg (by omega)
  ·rw [show k = -(-k) by omega, Int.neg_tmod, Int.tmod_eq_emod_of_nonneg (by omega)]; simp
 have hb : (a + 24).tmod 24 = (j : Int) := by
  rw [Int.tmod_eq_emod_of_nonneg (by split at ha2 <;> omega), hj]; split at ha2 <;> omega
 have hw1 : IntKind.i64.wrap a = a := IntWalk.i64_in _ (by split at ha2 <;> omega)
 have hw2 : IntKind.i64.wrap (a + 24) = a + 24 := IntWalk.i64_in _ (by split at ha2 <;> omega)
 have hw3 : IntKind.i64.wrap (j : Int) = (j : Int) := IntWalk.i64_in _ (by omega)
 have hw4 : IntKind.i64.wrap ((j : Int) + 18) = (j : Int) + 18 := IntWalk.i64_in _ (by omega)
 have hw5 : ((j : Int) + 18).tmod 24 = (i : Int) := by rw [hi, Int.tmod_eq_emod_of_nonneg (by omega)]
 have hw6 : IntKind.i64.wrap (i : Int) = (i : Int) := IntWalk.i64_in _ (by omega)
 have HJ : Hid (j < 24) := by show j < 24; omega
 have HI : Hid (i < 24) := by show i < 24; omega
 have HT1 : Hid (cosN j = (turn k).re) := by show _ = cosN (k % 24).toNat; congr 1; omega
 have HT2 : Hid (cosN i = (turn k).im) := by show _ = cosN (((k % 24).toNat + 18) % 24); congr 1; omega
 have ha3 := ha.symm
 clear hj hi ha ha2 h1 h2
 go_enter Tryz.func148, Tryz.ntmps148
 obtain ⟨W1, HW1, HB2, s1w, j1⟩ := st_al0 w #[.bool false, .slice none 0 0, .slice none 0 0, .bool false, .slice none 0 0, .slice none 0 0, .bool false, .slice none 0 0, .slice none 0 0, .bool false, .slice none 0 0, .slice none 0 0, .bool false, .slice none 0 0, .slice none 0 0, .bool false, .slice none 0 0, .slice none 0 0, .bool false, .slice none 0 0, .slice none 0 0, .bool false, .slice none 0 0, .slice none 0 0] 116
 have l2b : Hid (w.heap.size ≤ w.heap.size) := by show _ ≤ _; omega
 have HBw := h0d j1
 go_wp2_with fail
 rw [← HW1.out]
 refine (rcosine_any j _ HJ.out).mono ?_
 rintro e w1 ⟨⟨vx, rfl, hr⟩, j1c⟩
 obtain ⟨g1a, A1a, k1a, c1a, A1b, k1b, c1b, g1c, A1c, k1c, c1c, A1d, k1d, c1d, g1e, A1e, k1e, c1e, A1f, k1f, c1f, g1g, A1g, k1g, c1g, A1h, k1h, c1h, rfl, hr⟩ := hr.open
 have HR1 := h0d hr
 clear hr
 go_wp2_with fail
 refine (rcosine_any i _ HI.out).mono ?_
 rintro e w2 ⟨⟨vx, rfl, hr⟩, j2c⟩
 obtain ⟨g2a, A2a, k2a, c2a, A2b, k2b, c2b, g2c, A2c, k2c, c2c, A2d, k2d, c2d, g2e, A2e, k2e, c2e, A2f, k2f, c2f, g2g, A2g, k2g, c2g, A2h, k2h, c2h, rfl, hr⟩ := hr.open
 have HR2 := h0d hr
 clear hr
 have jm1 := tt j1c j2c
 replace HB2 := kB HB2 jm1
 have t3h := kth 0 24 HB2
 obtain ⟨W4, HW4⟩ : ∃ W, Hid (W = w2.setCells (w.heap.size) 0 [.bool g1a, .slice A1a k1a c1a, .slice A1b k1b c1b, .bool g1c, .slice A1c k1c c1c, .slice A1d k1d c1d, .bool g1e, .slice A1e k1e c1e, .slice A1f k1f c1f, .bool g1g, .slice A1g k1g c1g, .slice A1h k1h c1h, .bool g2a, .slice A2a k2a c2a, .slice A2b k2b c2b, .bool g2c, .slice A2c k2c c2c, .slice A2d k2d c2d, .bool g2e, .slice A2e k2e c2e, .slice A2f k2f c2f, .bool g2g, .slice A2g k2g c2g, .slice A2h k2h c2h]) := ⟨_, rfl⟩
 have TW4 := kN (kM HW4) HB2 rfl rfl
 replace HB2 := kP (ds := [.bool g1a, .slice A1a k1a c1a, .slice A1b k1b c1b, .bool g1c, .slice A1c k1c c1c, .slice A1d k1d c1d, .bool g1e, .slice A1e k1e c1e, .slice A1f k1f c1f, .bool g1g, .slice A1g k1g c1g, .slice A1h k1h c1h, .bool g2a, .slice A2a k2a c2a, .slice A2b k2b c2b, .bool g2c, .slice A2c k2c c2c, .slice A2d k2d c2d, .bool g2e, .slice A2e k2e c2e, .slice A2f k2f c2f, .bool g2g, .slice A2g k2g c2g, .slice A2h k2h c2h]) (kM HW4) HB2 rfl rfl
 have s4w := kZ (kM HW4)
 go_wp2_with (refine smd 116 (w.heap.size) 0 (ht := by exact t3h) (h := ?_))
 rw [← HW4.out]
 clear t3h
 replace HR1 := kW TW4 (kV j2c HR1)
 replace HR2 := kW TW4 HR2
 replace HBw := kS (kM HW4) l2b (kU HBw jm1)
 exact bodyPost_ret (results_cell rfl (by rfl) (blk_all HB2.out) Tryz.underlying116 rfl (by kernel_rfl)) rfl ⟨⟨_, rfl, (show RdH _ _ (turn k) from .of (by rw [← HT1.out]; exact HR1.out) (by rw [← HT2.out]; exact HR2.out))⟩, HBw.out⟩
end Go.Proofs.YtodckaioeomccaaGreat
