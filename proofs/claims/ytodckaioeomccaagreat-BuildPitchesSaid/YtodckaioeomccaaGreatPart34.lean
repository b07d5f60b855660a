/- Walks of numbers with roots: Make, Parts; a quad as a number. The walk of Whole, of a fraction that is a small whole number. -/
import Derived.Test.YtodckaioeomccaaGreatPart28
namespace Go.Proofs.YtodckaioeomccaaGreat
open Go.RowKit Go.Proofs.S4P
set_option linter.unusedVariables false
set_option linter.unusedSimpArgs false
set_option maxRecDepth 100000
set_option maxHeartbeats 4000000
def RdR (w : World) (v : Value) (q0 q1 q2 q3 : Rat) : Prop := ∃ (g0 g1 g2 g3 : Bool) (s0 s1 s2 s3 t0 t1 t2 t3 : Value), v = .agg #[.bool g0, s0, t0, .bool g1, s1, t1, .bool g2, s2, t2, .bool g3, s3, t3] ∧
 RdQ w (.agg #[.bool g0, s0, t0]) q0 ∧ RdQ w (.agg #[.bool g1, s1, t1]) q1 ∧ RdQ w (.agg #[.bool g2, s2, t2]) q2 ∧ RdQ w (.agg #[.bool g3, s3, t3]) q3
theorem RdR.wd {w w' : World} {v : Value} {q0 q1 q2 q3 : Rat} (h : RdR w v q0 q1 q2 q3) (hw : Wd w w') : RdR w' v q0 q1 q2 q3 := by
 obtain ⟨g0, g1, g2, g3, s0, s1, s2, s3, t0, t1, t2, t3, rfl, h0, h1, h2, h3⟩ := h
 exact ⟨_, _, _, _, _, _, _, _, _, _, _, _, rfl, h0.wd hw, h1.wd hw, h2.wd hw, h3.wd hw⟩
instance wdRdR (w w' : World) (v : Value) (a b c d : Rat) : WdSt (RdR w v a b c d) w w' (RdR w' v a b c d) := ⟨fun hT h => h.wd hT⟩
theorem RdR.mk {w : World} {g0 g1 g2 g3 : Bool} {s0 s1 s2 s3 t0 t1 t2 t3 : Value} {q0 q1 q2 q3 : Rat} (h0 : RdQ w (.agg #[.bool g0, s0, t0]) q0) (h1 : RdQ w (.agg #[.bool g1, s1, t1]) q1) (h2 : RdQ w (.agg #[.bool g2, s2, t2]) q2) (h3 : RdQ w (.agg #[.bool g3, s3, t3]) q3) :
  RdR w (.agg #[.bool g0, s0, t0, .bool g1, s1, t1, .bool g2, s2, t2, .bool g3, s3, t3]) q0 q1 q2 q3 := ⟨_, _, _, _, _, _, _, _, _, _, _, _, rfl, h0, h1, h2, h3⟩
theorem RdQ.shape {w : World} {g : Bool} {s t : Value} {x : Rat} (h : RdQ w (.agg #[.bool g, s, t]) x) : (∃ A k c, s = .slice A k c) ∧ ∃ A k c, t = .slice A k c := ⟨h.num.abs.slice, h.den.slice⟩
theorem RdR.open {w : World} {v : Value} {q0 q1 q2 q3 : Rat} (h : RdR w v q0 q1 q2 q3) : ∃ g0 A0 k0 c0 B0 l0 d0 g1 A1 k1 c1 B1 l1 d1 g2 A2 k2 c2 B2 l2 d2 g3 A3 k3 c3 B3 l3 d3,
  v = .agg #[.bool g0, .slice A0 k0 c0, .slice B0 l0 d0, .bool g1, .slice A1 k1 c1, .slice B1 l1 d1, .bool g2, .slice A2 k2 c2, .slice B2 l2 d2, .bool g3, .slice A3 k3 c3, .slice B3 l3 d3] ∧
  RdR w (.agg #[.bool g0, .slice A0 k0 c0, .slice B0 l0 d0, .bool g1, .slice A1 k1 c1, .slice B1 l1 d1, .bool g2, .slice A2 k2 c2, .slice B2 l2 d2, .bool g3, .slice A3 k3 c3, .slice B3 l3 d3]) q0 q1 q2 q3 := by
 obtain ⟨g0, g1, g2, g3, s0, s1, s2, s3, t0, t1, t2, t3, rfl, h0, h1, h2, h3⟩ := h
 obtain ⟨⟨_, _, _, rfl⟩, ⟨_, _, _, rfl⟩⟩ := h0.shape
 obtain ⟨⟨_, _, _, rfl⟩, ⟨_, _, _, rfl⟩⟩ := h1.shape
 obtain ⟨⟨_, _, _, rfl⟩, ⟨_, _, _, rfl⟩⟩ := h2.shape
 obtain ⟨⟨_, _, _, rfl⟩, ⟨_, _, _, rfl⟩⟩ := h3.shape
 exact ⟨_, _, _, _, _, _, _, _, _, _, _, _, _, _, _, _, _, _, _, _, _, _, _, _, _, _, _, _, rfl, .mk h0 h1 h2 h3⟩
theorem RdR.parts {w : World} {g0 g1 g2 g3 : Bool} {s0 s1 s2 s3 t0 t1 t2 t3 : Value} {q0 q1 q2 q3 : Rat} (h : RdR w (.agg #[.bool g0, s0, t0, .bool g1, s1, t1, .bool g2, s2, t2, .bool g3, s3, t3]) q0 q1 q2 q3) :
  RdQ w (.agg #[.bool g0, s0, t0]) q0 ∧ RdQ w (.agg #[.bool g1, s1, t1]) q1 ∧ RdQ w (.agg #[.bool g2, s2, t2]) q2 ∧ RdQ w (.agg #[.bool g3, s3, t3]) q3 := by
 obtain ⟨a0, a1, a2, a3, b0, b1, b2, b3, c0, c1, c2, c3, e, h⟩ := h
 injection e with e; injection e with e; simp at e
 obtain ⟨rfl, rfl, rfl, rfl, rfl, rfl, rfl, rfl, rfl, rfl, rfl, rfl⟩ := e
 exact h
theorem RdR.q0 {w : World} {g0 g1 g2 g3 : Bool} {s0 s1 s2 s3 t0 t1 t2 t3 : Value} {q0 q1 q2 q3 : Rat} (h : RdR w (.agg #[.bool g0, s0, t0, .bool g1, s1, t1, .bool g2, s2, t2, .bool g3, s3, t3]) q0 q1 q2 q3) : RdQ w (.agg #[.bool g0, s0, t0]) q0 := h.parts.1
theorem RdR.q1 {w : World} {g0 g1 g2 g3 : Bool} {s0 s1 s2 s3 t0 t1 t2 t3 : Value} {q0 q1 q2 q3 : Rat} (h : RdR w (.agg #[.bool g0, s0, t0, .bool g1, s1, t1, .bool g2, s2, t2, .bool g3, s3, t3]) q0 q1 q2 q3) : RdQ w (.agg #[.bool g1, s1, t1]) q1 := h.parts.2.1
theorem RdR.q2 {w : World} {g0 g1 g2 g3 : Bool} {s0 s1 s2 s3 t0 t1 t2 t3 : Value} {q0 q1 q2 q3 : Rat} (h : RdR w (.agg #[.bool g0, s0, t0, .bool g1, s1, t1, .bool g2, s2, t2, .bool g3, s3, t3]) q0 q1 q2 q3) : RdQ w (.agg #[.bool g2, s2, t2]) q2 := h.parts.2.2.1
theorem RdR.q3 {w : World} {g0 g1 g2 g3 : Bool} {s0 s1 s2 s3 t0 t1 t2 t3 : Value} {q0 q1 q2 q3 : Rat} (h : RdR w (.agg #[.bool g0, s0, t0, .bool g1, s1, t1, .bool g2, s2, t2, .bool g3, s3, t3]) q0 q1 q2 q3) : RdQ w (.agg #[.bool g3, s3, t3]) q3 := h.parts.2.2.2
theorem mk_part {q : Rat} {n : Int} {d : Nat} (hd : d ≠ 0) (h : q * d = n) : mkRat n d = q := by
 rw [Rat.mkRat_eq_div, ← h]
 have : (d : Rat) ≠ 0 := fun e => hd (by exact_mod_cast e)
 grind
theorem make_part {q : Rat} {D : Nat} (hd : q.den ∣ D) : q * (D : Rat) = ((q.num * ((D / q.den : Nat) : Int) : Int) : Rat) := by
 obtain ⟨k, rfl⟩ := hd
 rw [Nat.mul_div_cancel_left _ (Nat.pos_of_ne_zero q.den_nz), Rat.natCast_mul, Rat.intCast_mul, Rat.intCast_natCast, ← q_den q]
 grind
theorem parts_any (v : Value) (x : S4) (Ks : Nat) (w : World) (hv : RdS w v x Ks) (hK : Ks ≤ 900000) :
  Calls Tryz.prog 175 #[v] w fun e w' => (∃ v', e = .returned v' ∧ RdR w' v' x.a x.b x.c x.e) ∧ Below w.heap.size w w' := by
 obtain ⟨n0, n1, n2, n3, d, hv, hxx⟩ := hv
 have HSx := h0d hxx
 clear hxx
 obtain ⟨gp0a, Ap0a, kp0a, cp0a, gp0b, Ap0b, kp0b, cp0b, gp0c, Ap0c, kp0c, cp0c, gp0d, Ap0d, kp0d, cp0d, Ap0e, kp0e, cp0e, rfl, hv⟩ := hv.open
 have HX0 := h0d hv
 clear hv
 go_enter Tryz.func175, Tryz.ntmps175
 obtain ⟨W1, HW1, HB2, s1w, j1⟩ := st_al0 w #[.bool gp0a, .slice Ap0a kp0a cp0a, .bool gp0b, .slice Ap0b kp0b cp0b, .bool gp0c, .slice Ap0c kp0c cp0c, .bool gp0d, .slice Ap0d kp0d cp0d, .slice Ap0e kp0e cp0e] 30
 have HBw := h0d j1
 obtain ⟨W3, HW3, HB4, s3w, j2⟩ := st_alk 1 2 #[.bool false, .slice none 0 0, .slice none 0 0, .bool false, .slice none 0 0, .slice none 0 0, .bool false, .slice none 0 0, .slice none 0 0, .bool false, .slice none 0 0, .slice none 0 0] 255 s1w rfl
 have l4b : Hid (w.heap.size ≤ w.heap.size + 1) := by show _ ≤ _; omega
 obtain ⟨W5, HW5, HB6, s5w, j3⟩ := st_alk 2 3 #[.bool false, .slice none 0 0, .slice none 0 0, .bool false, .slice none 0 0, .slice none 0 0, .bool false, .slice none 0 0, .slice none 0 0, .bool false, .slice none 0 0, .slice none 0 0] 255 s3w rfl
 have n2b6 : Hid (w.heap.size ≠ w.heap.size + 2) := by show _ ≠ _; omega
 have n4b6 : Hid (w.heap.size + 1 ≠ w.heap.size + 2) := by show _ ≠ _; omega
 have l6b : Hid (w.heap.size ≤ w.heap.size + 2) := by show _ ≤ _; omega
 go_wp2_with fail
 rw [← HW1.out, ← HW3.out, ← HW5.out]
 refine wp_loop_rounds 5 ?_
 rw [rounds_succ]
 have ix7 : ∀ w, (Instr.index 28 (.agg #[.bool gp0a, .slice Ap0a kp0a cp0a, .bool gp0b, .slice Ap0b kp0b cp0b, .bool gp0c, .slice Ap0c kp0c cp0c, .bool gp0d, .slice Ap0d kp0d cp0d]) (.int .i64 0)).run Tryz.prog w = .ok (.agg #[.bool gp0a, .slice Ap0a kp0a cp0a]) w := fun _ => by kernel_rfl
 obtain ⟨W8, HW8, HB9, s8w, j4⟩ := st_al0 W5 #[.bool gp0a, .slice Ap0a kp0a cp0a] 27
 have n6b9 : Hid (w.heap.size + 2 ≠ W5.heap.size) := by show _ ≠ _; have hlt := blk_lt HB6.out; omega
 go_wp2_with fail
 rw [← HW8.out]
 clear ix7
 obtain ⟨W10, hW10⟩ : ∃ W, W = W8.drew := ⟨_, rfl⟩
 have j5 : Below W8.heap.size W8 W10 := by rw [hW10]; exact (Below.refl _ _).drew
 replace HB9 := kB HB9 j5
 have jm1 := tt (tt (tt j2 j3) j4) j5
 replace HB2 := kB HB2 jm1
 refine seq_start (S := fun w' => w'.cell? ⟨W5.heap.size, 0, none⟩ = some (.bool gp0a) ∧ w'.cell? ⟨W5.heap.size, 1, none⟩ = some (.slice Ap0a kp0a cp0a) ∧ w'.cell? ⟨w.heap.size, 8, none⟩ = some (.slice Ap0e kp0e cp0e)) (by kernel_rfl) (by kernel_rfl) (by rw [← hW10]; exact ⟨kD HB9 0, kD HB9 1, kD HB2 8⟩) ?_
 rw [← hW10]
 clear hW10
 iterate 4 refine tk0 (h := ?_)
 refine sop (h := fun K9 hK9 => ?_)
 go_simp
 replace HBw := kU HBw jm1
 replace HX0 := kV HBw.out HX0
 refine mN (under_any _ d _ HSx.out.1 HX0.out.den) fun w1 A1 k1 c1 HR1 j1c => ?_
 replace HB9 := kB HB9 j1c
 replace HB2 := kB HB2 j1c
 refine ckk hK9 (by exact ⟨kD HB9 0, kD HB9 1, kD HB2 8⟩) (h := ?_)
 clear hK9 K9
 refine sop (h := fun K9 hK9 => ?_)
 go_simp
 replace HX0 := kV j1c HX0
 refine mQ (over_any _ _ n0 d _ HX0.out.z0 HR1.out HSx.out.1 (by have := HSx.out.2.2.1.1; omega) (by have := HSx.out.2.2.2; omega)) fun w2 g2a A2a k2a c2a A2b k2b c2b HR2 j2c => ?_
 rw [mk_part HSx.out.1 HSx.out.2.1.1] at HR2
 replace HB9 := kB HB9 j2c
 replace HB2 := kB HB2 j2c
 refine ckk hK9 (by exact ⟨kD HB9 0, kD HB9 1, kD HB2 8⟩) (h := ?_)
 clear hK9 K9
 refine tk0 (h := ?_)
 refine sop (h := fun K9 hK9 => ?_)
 have jm2 := tt (tt (tt j4 j5) j1c) j2c
 replace HB6 := kB HB6 jm2
 have t11h := kth 0 3 HB6
 refine smw 32 (w.heap.size + 2) 0 (ht := by exact t11h) (h := ?_)
 obtain ⟨W12, HW12⟩ : ∃ W, Hid (W = w2.setCells (w.heap.size + 2) 0 [.bool g2a, .slice A2a k2a c2a, .slice A2b k2b c2b]) := ⟨_, rfl⟩
 have TW12 := kN (kM HW12) HB6 rfl rfl
 replace HB6 := kP (ds := [.bool g2a, .slice A2a k2a c2a, .slice A2b k2b c2b, .bool false, .slice none 0 0, .slice none 0 0, .bool false, .slice none 0 0, .slice none 0 0, .bool false, .slice none 0 0, .slice none 0 0]) (kM HW12) HB6 rfl rfl
 rw [← HW12.out]
 replace HB9 := kO (kM HW12) HB9 n6b9.out.symm
 replace HB2 := kO (kM HW12) HB2 n2b6.out
 refine ckk hK9 (by exact ⟨kD HB9 0, kD HB9 1, kD HB2 8⟩) (h := ?_)
 clear hK9 K9 t11h
 refine seq_done (by kernel_rfl) ?_
 go_wp2_with fail
 rw [rounds_succ]
 have ix13 : ∀ w, (Instr.index 28 (.agg #[.bool gp0a, .slice Ap0a kp0a cp0a, .bool gp0b, .slice Ap0b kp0b cp0b, .bool gp0c, .slice Ap0c kp0c cp0c, .bool gp0d, .slice Ap0d kp0d cp0d]) (.int .i64 1)).run Tryz.prog w = .ok (.agg #[.bool gp0b, .slice Ap0b kp0b cp0b]) w := fun _ => by kernel_rfl
 obtain ⟨W14, HW14, HB15, s14w, j6⟩ := st_al0 W12 #[.bool gp0b, .slice Ap0b kp0b cp0b] 27
 have n6b15 : Hid (w.heap.size + 2 ≠ W12.heap.size) := by show _ ≠ _; have hlt := blk_lt HB6.out; omega
 go_wp2_with fail
 rw [← HW14.out]
 clear ix13
 obtain ⟨W16, hW16⟩ : ∃ W, W = W14.drew := ⟨_, rfl⟩
 have j7 : Below W14.heap.size W14 W16 := by rw [hW16]; exact (Below.refl _ _).drew
 replace HB15 := kB HB15 j7
 have jm3 := tt j6 j7
 replace HB2 := kB HB2 jm3
 refine seq_start (S := fun w' => w'.cell? ⟨W12.heap.size, 0, none⟩ = some (.bool gp0b) ∧ w'.cell? ⟨W12.heap.size, 1, none⟩ = some (.slice Ap0b kp0b cp0b) ∧ w'.cell? ⟨w.heap.size, 8, none⟩ = some (.slice Ap0e kp0e cp0e)) (by kernel_rfl) (by kernel_rfl) (by rw [← hW16]; exact ⟨kD HB15 0, kD HB15 1, kD HB2 8⟩) ?_
 rw [← hW16]
 clear hW16
 iterate 4 refine tk0 (h := ?_)
 refine sop (h := fun K9 hK9 => ?_)
 go_simp
 replace HX0 := kV jm3 (kW TW12 (kV j2c HX0))
 refine mN (under_any _ d _ HSx.out.1 HX0.out.den) fun w3 A3 k3 c3 HR3 j3c => ?_
 replace HB15 := kB HB15 j3c
 replace HB2 := kB HB2 j3c
 refine ckk hK9 (by exact ⟨kD HB15 0, kD HB15 1, kD HB2 8⟩) (h := ?_)
 clear hK9 K9
 refine sop (h := fun K9 hK9 => ?_)
 go_simp
 replace HX0 := kV j3c HX0
 refine mQ (over_any _ _ n1 d _ HX0.out.z1 HR3.out HSx.out.1 (by have := HSx.out.2.2.1.2.1; omega) (by have := HSx.out.2.2.2; omega)) fun w4 g4a A4a k4a c4a A4b k4b c4b HR4 j4c => ?_
 rw [mk_part HSx.out.1 HSx.out.2.1.2.1] at HR4
 replace HB15 := kB HB15 j4c
 replace HB2 := kB HB2 j4c
 refine ckk hK9 (by exact ⟨kD HB15 0, kD HB15 1, kD HB2 8⟩) (h := ?_)
 clear hK9 K9
 refine tk0 (h := ?_)
 refine sop (h := fun K9 hK9 => ?_)
 have jm4 := tt (tt jm3 j3c) j4c
 replace HB6 := kB HB6 jm4
 have t17h := kth 3 3 HB6
 refine smw 32 (w.heap.size + 2) 3 (ht := by exact t17h) (h := ?_)
 obtain ⟨W18, HW18⟩ : ∃ W, Hid (W = w4.setCells (w.heap.size + 2) 3 [.bool g4a, .slice A4a k4a c4a, .slice A4b k4b c4b]) := ⟨_, rfl⟩
 have TW18 := kN (kM HW18) HB6 rfl rfl
 replace HB6 := kP (ds := [.bool g2a, .slice A2a k2a c2a, .slice A2b k2b c2b, .bool g4a, .slice A4a k4a c4a, .slice A4b k4b c4b, .bool false, .slice none 0 0, .slice none 0 0, .bool false, .slice none 0 0, .slice none 0 0]) (kM HW18) HB6 rfl rfl
 rw [← HW18.out]
 replace HB15 := kO (kM HW18) HB15 n6b15.out.symm
 replace HB2 := kO (kM HW18) HB2 n2b6.out
 refine ckk hK9 (by exact ⟨kD HB15 0, kD HB15 1, kD HB2 8⟩) (h := ?_)
 clear hK9 K9 t17h
 refine seq_done (by kernel_rfl) ?_
 go_wp2_with fail
 rw [rounds_succ]
 have ix19 : ∀ w, (Instr.index 28 (.agg #[.bool gp0a, .slice Ap0a kp0a cp0a, .bool gp0b, .slice Ap0b kp0b cp0b, .bool gp0c, .slice Ap0c kp0c cp0c, .bool gp0d, .slice Ap0d kp0d cp0d]) (.int .i64 2)).run Tryz.prog w = .ok (.agg #[.bool gp0c, .slice Ap0c kp0c cp0c]) w := fun _ => by kernel_rfl
 obtain ⟨W20, HW20, HB21, s20w, j8⟩ := st_al0 W18 #[.bool gp0c, .slice Ap0c kp0c cp0c] 27
 have n6b21 : Hid (w.heap.size + 2 ≠ W18.heap.size) := by show _ ≠ _; have hlt := blk_lt HB6.out; omega
 go_wp2_with fail
 rw [← HW20.out]
 clear ix19
 obtain ⟨W22, hW22⟩ : ∃ W, W = W20.drew := ⟨_, rfl⟩
 have j9 : Below W20.heap.size W20 W22 := by rw [hW22]; exact (Below.refl _ _).drew
 replace HB21 := kB HB21 j9
 have jm5 := tt j8 j9
 replace HB2 := kB HB2 jm5
 refine seq_start (S := fun w' => w'.cell? ⟨W18.heap.size, 0, none⟩ = some (.bool gp0c) ∧ w'.cell? ⟨W18.heap.size, 1, none⟩ = some (.slice Ap0c kp0c cp0c) ∧ w'.cell? ⟨w.heap.size, 8, none⟩ = some (.slice Ap0e kp0e cp0e)) (by kernel_rfl) (by kernel_rfl) (by rw [← hW22]; exact ⟨kD HB21 0, kD HB21 1, kD HB2 8⟩) ?_
 rw [← hW22]
 clear hW22
 iterate 4 refine tk0 (h := ?_)
 refine sop (h := fun K9 hK9 => ?_)
 go_simp
 replace HX0 := kV jm5 (kW TW18 (kV j4c HX0))
 refine mN (under_any _ d _ HSx.out.1 HX0.out.den) fun w5 A5 k5 c5 HR5 j5c => ?_
 replace HB21 := kB HB21 j5c
 replace HB2 := kB HB2 j5c
 refine ckk hK9 (by exact ⟨kD HB21 0, kD HB21 1, kD HB2 8⟩) (h := ?_)
 clear hK9 K9
 refine sop (h := fun K9 hK9 => ?_)
 go_simp
 replace HX0 := kV j5c HX0
 refine mQ (over_any _ _ n2 d _ HX0.out.z2 HR5.out HSx.out.1 (by have := HSx.out.2.2.1.2.2.1; omega) (by have := HSx.out.2.2.2; omega)) fun w6 g6a A6a k6a c6a A6b k6b c6b HR6 j6c => ?_
 rw [mk_part HSx.out.1 HSx.out.2.1.2.2.1] at HR6
 replace HB21 := kB HB21 j6c
 replace HB2 := kB HB2 j6c
 refine ckk hK9 (by exact ⟨kD HB21 0, kD HB21 1, kD HB2 8⟩) (h := ?_)
 clear hK9 K9
 refine tk0 (h := ?_)
 refine sop (h := fun K9 hK9 => ?_)
 have jm6 := tt (tt jm5 j5c) j6c
 replace HB6 := kB HB6 jm6
 have t23h := kth 6 3 HB6
 refine smw 32 (w.heap.size + 2) 6 (ht := by exact t23h) (h := ?_)
 obtain ⟨W24, HW24⟩ : ∃ W, Hid (W = w6.setCells (w.heap.size + 2) 6 [.bool g6a, .slice A6a k6a c6a, .slice A6b k6b c6b]) := ⟨_, rfl⟩
 have TW24 := kN (kM HW24) HB6 rfl rfl
 replace HB6 := kP (ds := [.bool g2a, .slice A2a k2a c2a, .slice A2b k2b c2b, .bool g4a, .slice A4a k4a c4a, .slice A4b k4b c4b, .bool g6a, .slice A6a k6a c6a, .slice A6b k6b c6b, .bool false, .slice none 0 0, .slice none 0 0]) (kM HW24) HB6 rfl rfl
 rw [← HW24.out]
 replace HB21 := kO (kM HW24) HB21 n6b21.out.symm
 replace HB2 := kO (kM HW24) HB2 n2b6.out
 refine ckk hK9 (by exact ⟨kD HB21 0, kD HB21 1, kD HB2 8⟩) (h := ?_)
 clear hK9 K9 t23h
 refine seq_done (by kernel_rfl) ?_
 go_wp2_with fail
 rw [rounds_succ]
 have ix25 : ∀ w, (Instr.index 28 (.agg #[.bool gp0a, .slice Ap0a kp0a cp0a, .bool gp0b, .slice Ap0b kp0b cp0b, .bool gp0c, .slice Ap0c kp0c cp0c, .bool gp0d, .slice Ap0d kp0d cp0d]) (.int .i64 3)).run Tryz.prog w = .ok (.agg #[.bool gp0d, .slice Ap0d kp0d cp0d]) w := fun _ => by kernel_rfl
 obtain ⟨W26, HW26, HB27, s26w, j10⟩ := st_al0 W24 #[.bool gp0d, .slice Ap0d kp0d cp0d] 27
 have n6b27 : Hid (w.heap.size + 2 ≠ W24.heap.size) := by show _ ≠ _; have hlt := blk_lt HB6.out; omega
 go_wp2_with fail
 rw [← HW26.out]
 clear ix25
 obtain ⟨W28, hW28⟩ : ∃ W, W = W26.drew := ⟨_, rfl⟩
 have j11 : Below W26.heap.size W26 W28 := by rw [hW28]; exact (Below.refl _ _).drew
 replace HB27 := kB HB27 j11
 have jm7 := tt j10 j11
 replace HB2 := kB HB2 jm7
 refine seq_start (S := fun w' => w'.cell? ⟨W24.heap.size, 0, none⟩ = some (.bool gp0d) ∧ w'.cell? ⟨W24.heap.size, 1, none⟩ = some (.slice Ap0d kp0d cp0d) ∧ w'.cell? ⟨w.heap.size, 8, none⟩ = some (.slice Ap0e kp0e cp0e)) (by kernel_rfl) (by kernel_rfl) (by rw [← hW28]; exact ⟨kD HB27 0, kD HB27 1, kD HB2 8⟩) ?_
 rw [← hW28]
 clear hW28
 iterate 4 refine tk0 (h := ?_)
 refine sop (h := fun K9 hK9 => ?_)
 go_simp
 replace HX0 := kV jm7 (kW TW24 (kV j6c HX0))
 refine mN (under_any _ d _ HSx.out.1 HX0.out.den) fun w7 A7 k7 c7 HR7 j7c => ?_
 replace HB27 := kB HB27 j7c
 replace HB2 := kB HB2 j7c
 refine ckk hK9 (by exact ⟨kD HB27 0, kD HB27 1, kD HB2 8⟩) (h := ?_)
 clear hK9 K9
 refine sop (h := fun K9 hK9 => ?_)
 go_simp
 replace HX0 := kV j7c HX0
 refine mQ (over_any _ _ n3 d _ HX0.out.z3 HR7.out HSx.out.1 (by have := HSx.out.2.2.1.2.2.2; omega) (by have := HSx.out.2.2.2; omega)) fun w8 g8a A8a k8a c8a A8b k8b c8b HR8 j8c => ?_
 rw [mk_part HSx.out.1 HSx.out.2.1.2.2.2] at HR8
 replace HB27 := kB HB27 j8c
 replace HB2 := kB HB2 j8c
 refine ckk hK9 (by exact ⟨kD HB27 0, kD HB27 1, kD HB2 8⟩) (h := ?_)
 clear hK9 K9
 refine tk0 (h := ?_)
 refine sop (h := fun K9 hK9 => ?_)
 have jm8 := tt (tt jm7 j7c) j8c
 replace HB6 := kB HB6 jm8
 have t29h := kth 9 3 HB6
 refine smw 32 (w.heap.size + 2) 9 (ht := by exact t29h) (h := ?_)
 obtain ⟨W30, HW30⟩ : ∃ W, Hid (W = w8.setCells (w.heap.size + 2) 9 [.bool g8a, .slice A8a k8a c8a, .slice A8b k8b c8b]) := ⟨_, rfl⟩
 have TW30 := kN (kM HW30) HB6 rfl rfl
 replace HB6 := kP (ds := [.bool g2a, .slice A2a k2a c2a, .slice A2b k2b c2b, .bool g4a, .slice A4a k4a c4a, .slice A4b k4b c4b, .bool g6a, .slice A6a k6a c6a, .slice A6b k6b c6b, .bool g8a, .slice A8a k8a c8a, .slice A8b k8b c8b]) (kM HW30) HB6 rfl rfl
 rw [← HW30.out]
 replace HB27 := kO (kM HW30) HB27 n6b27.out.symm
 replace HB2 := kO (kM HW30) HB2 n2b6.out
 refine ckk hK9 (by exact ⟨kD HB27 0, kD HB27 1, kD HB2 8⟩) (h := ?_)
 clear hK9 K9 t29h
 refine seq_done (by kernel_rfl) ?_
 go_wp2_with fail
 rw [rounds_succ]
 have c31 := kC HB6 0 rfl
 have c32 := kC HB6 1 rfl
 have c33 := kC HB6 2 rfl
 have c34 := kC HB6 3 rfl
 have c35 := kC HB6 4 rfl
 have c36 := kC HB6 5 rfl
 have c37 := kC HB6 6 rfl
 have c38 := kC HB6 7 rfl
 have c39 := kC HB6 8 rfl
 have c40 := kC HB6 9 rfl
 have c41 := kC HB6 10 rfl
 have c42 := kC HB6 11 rfl
 have jm9 := tt j3 jm2
 replace HB4 := kO (kM HW30) (kB (kO (kM HW24) (kB (kO (kM HW18) (kB (kO (kM HW12) (kB HB4 jm9) n4b6.out) jm4) n4b6.out) jm6) n4b6.out) jm8) n4b6.out
 have t43h := kth 0 12 HB4
 obtain ⟨W44, HW44⟩ : ∃ W, Hid (W = W30.setCells (w.heap.size + 1) 0 [.bool g2a, .slice A2a k2a c2a, .slice A2b k2b c2b, .bool g4a, .slice A4a k4a c4a, .slice A4b k4b c4b, .bool g6a, .slice A6a k6a c6a, .slice A6b k6b c6b, .bool g8a, .slice A8a k8a c8a, .slice A8b k8b c8b]) := ⟨_, rfl⟩
 have TW44 := kN (kM HW44) HB4 rfl rfl
 replace HB4 := kP (ds := [.bool g2a, .slice A2a k2a c2a, .slice A2b k2b c2b, .bool g4a, .slice A4a k4a c4a, .slice A4b k4b c4b, .bool g6a, .slice A6a k6a c6a, .slice A6b k6b c6b, .bool g8a, .slice A8a k8a c8a, .slice A8b k8b c8b]) (kM HW44) HB4 rfl rfl
 go_wp2_with (refine smd 255 (w.heap.size + 1) 0 (ht := by exact t43h) (h := ?_))
 rw [← HW44.out]
 clear c31 c32 c33 c34 c35 c36 c37 c38 c39 c40 c41 c42 t43h
 replace HR2 := kW TW44 (kW TW30 (kV jm8 (kW TW24 (kV jm6 (kW TW18 (kV jm4 (kW TW12 HR2)))))))
 replace HR4 := kW TW44 (kW TW30 (kV jm8 (kW TW24 (kV jm6 (kW TW18 HR4)))))
 replace HR6 := kW TW44 (kW TW30 (kV jm8 (kW TW24 HR6)))
 replace HR8 := kW TW44 (kW TW30 HR8)
 have jm10 := tt j1c j2c
 replace HBw := kS (kM HW44) l4b (kS (kM HW30) l6b (kU (kS (kM HW24) l6b (kU (kS (kM HW18) l6b (kU (kS (kM HW12) l6b (kU HBw jm10)) jm4)) jm6)) jm8))
 exact bodyPost_ret (results_cell rfl (by rfl) (blk_all HB4.out) Tryz.underlying255 rfl (by kernel_rfl)) rfl ⟨⟨_, rfl, (RdR.mk HR2.out HR4.out HR6.out HR8.out)⟩, HBw.out⟩
theorem make_sx (q0 q1 q2 q3 : Rat) (Ks : Nat) (h0 : QS Ks q0) (h1 : QS Ks q1) (h2 : QS Ks q2) (h3 : QS Ks q3) :
  Sx ⟨q0, q1, q2, q3⟩ (q0.num * (((1 * q0.den * q1.den * q2.den * q3.den) / q0.den : Nat) : Int)) (q1.num * (((1 * q0.den * q1.den * q2.den * q3.den) / q1.den : Nat) : Int)) (q2.num * (((1 * q0.den * q1.den * q2.den * q3.den) / q2.den : Nat) : Int)) (q3.num * (((1 * q0.den * q1.den * q2.den * q3.den) / q3.den : Nat) : Int)) (1 * q0.den * q1.den * q2.den * q3.den) (5 * Ks + 1) := by
 have hd : dl ((1 * q0.den * q1.den * q2.den * q3.den)) ≤ 4 * Ks + 1 := by
  have a0 := dl_mul 1 q0.den
  have a1 := dl_mul (1 * q0.den) q1.den
  have a2 := dl_mul (1 * q0.den * q1.den) q2.den
  have a3 := dl_mul (1 * q0.den * q1.den * q2.den) q3.den
  have := h0.2; have := h1.2; have := h2.2; have := h3.2; have := dl_one
  omega
 have dv0 : q0.den ∣ (1 * q0.den * q1.den * q2.den * q3.den) := ⟨q1.den * q2.den * q3.den, by simp [Nat.mul_assoc]⟩
 have dv1 : q1.den ∣ (1 * q0.den * q1.den * q2.den * q3.den) := ⟨q0.den * q2.den * q3.den, by simp [Nat.mul_assoc, Nat.mul_comm, Nat.mul_left_comm]⟩
 have dv2 : q2.den ∣ (1 * q0.den * q1.den * q2.den * q3.den) := ⟨q0.den * q1.den * q3.den, by simp [Nat.mul_assoc, Nat.mul_comm, Nat.mul_left_comm]⟩
 have dv3 : q3.den ∣ (1 * q0.den * q1.den * q2.den * q3.den) := ⟨q0.den * q1.den * q2.den, by simp [Nat.mul_assoc, Nat.mul_comm, Nat.mul_left_comm]⟩
 have sz : ∀ (q : Rat), QS Ks q → dl (q.num * (((1 * q0.den * q1.den * q2.den * q3.den) / q.den : Nat) : Int)).natAbs ≤ 5 * Ks + 1 := fun q hq => by
  have h1 := dl_muln (b := (1 * q0.den * q1.den * q2.den * q3.den) / q.den) hq.1 (Nat.le_trans (dl_mono (Nat.div_le_self _ _)) hd)
  omega
 refine ⟨Nat.mul_ne_zero (Nat.mul_ne_zero (Nat.mul_ne_zero (Nat.mul_ne_zero (by decide) q0.den_nz) q1.den_nz) q2.den_nz) q3.den_nz, ⟨make_part dv0, make_part dv1, make_part dv2, make_part dv3⟩, ⟨sz _ h0, sz _ h1, sz _ h2, sz _ h3⟩, by omega⟩
theorem make_any (v : Value) (q0 q1 q2 q3 : Rat) (Ks : Nat) (w : World) (hv : RdR w v q0 q1 q2 q3) (h0 : QS Ks q0) (h1 : QS Ks q1) (h2 : QS Ks q2) (h3 : QS Ks q3) (hK : Ks ≤ 100000) :
  Calls Tryz.prog 184 #[v] w fun e w' => (∃ v', e = .returned v' ∧ RdS w' v' (⟨q0, q1, q2, q3⟩) (5 * Ks + 1)) ∧ Below w.heap.size w w' := by
 have HSM := h0d (make_sx q0 q1 q2 q3 Ks h0 h1 h2 h3)
 have HDD : Hid (True ∧ dl ((1 * q0.den * q1.den * q2.den * q3.den)) ≤ 900000) := ⟨trivial, by have := HSM.out.2.2.2; omega⟩
 have HDS : Hid (dl 1 ≤ 1000000 ∧ dl (1 * q0.den) ≤ 1000000 ∧ dl (1 * q0.den * q1.den) ≤ 1000000 ∧ dl (1 * q0.den * q1.den * q2.den) ≤ 1000000) := by
   have a0 := dl_mul 1 q0.den
   have a1 := dl_mul (1 * q0.den) q1.den
   have a2 := dl_mul (1 * q0.den * q1.den) q2.den
   have := h0.2; have := h1.2; have := h2.2; have := dl_one
   exact ⟨by omega, by omega, by omega, by omega⟩
 have HQ0 := h0d h0
 have HQ1 := h0d h1
 have HQ2 := h0d h2
 have HQ3 := h0d h3
 clear h0 h1 h2 h3
 obtain ⟨gp0a, Ap0a, kp0a, cp0a, Ap0b, kp0b, cp0b, gp0c, Ap0c, kp0c, cp0c, Ap0d, kp0d, cp0d, gp0e, Ap0e, kp0e, cp0e, Ap0f, kp0f, cp0f, gp0g, Ap0g, kp0g, cp0g, Ap0h, kp0h, cp0h, rfl, hv⟩ := hv.open
 have HX0 := h0d hv
 clear hv
 go_enter Tryz.func184, Tryz.ntmps184
 obtain ⟨W1, HW1, HB2, s1w, j1⟩ := st_al0 w #[.bool gp0a, .slice Ap0a kp0a cp0a, .slice Ap0b kp0b cp0b, .bool gp0c, .slice Ap0c kp0c cp0c, .slice Ap0d kp0d cp0d, .bool gp0e, .slice Ap0e kp0e cp0e, .slice Ap0f kp0f cp0f, .bool gp0g, .slice Ap0g kp0g cp0g, .slice Ap0h kp0h cp0h] 255
 have HBw := h0d j1
 obtain ⟨W3, HW3, HB4, s3w, j2⟩ := st_alk 1 2 #[.bool false, .slice none 0 0, .bool false, .slice none 0 0, .bool false, .slice none 0 0, .bool false, .slice none 0 0, .slice none 0 0] 30 s1w rfl
 have l4b : Hid (w.heap.size ≤ w.heap.size + 1) := by show _ ≤ _; omega
 go_wp2_with fail
 rw [← HW1.out, ← HW3.out]
 refine mN (word_any 1 _ (by unfold B64; omega)) fun w1 A1 k1 c1 HR1 j1c => ?_
 have jm1 := tt j2 j1c
 replace HB2 := kB HB2 jm1
 have c5 := kC HB2 0 rfl
 have c6 := kC HB2 1 rfl
 have c7 := kC HB2 2 rfl
 have c8 := kC HB2 3 rfl
 have c9 := kC HB2 4 rfl
 have c10 := kC HB2 5 rfl
 have c11 := kC HB2 6 rfl
 have c12 := kC HB2 7 rfl
 have c13 := kC HB2 8 rfl
 have c14 := kC HB2 9 rfl
 have c15 := kC HB2 10 rfl
 have c16 := kC HB2 11 rfl
 go_wp2_with fail
 clear c5 c6 c7 c8 c9 c10 c11 c12 c13 c14 c15 c16
 refine wp_loop_rounds 5 ?_
 rw [rounds_succ]
 have ix17 : ∀ w, (Instr.index 255 (.agg #[.bool gp0a, .slice Ap0a kp0a cp0a, .slice Ap0b kp0b cp0b, .bool gp0c, .slice Ap0c kp0c cp0c, .slice Ap0d kp0d cp0d, .bool gp0e, .slice Ap0e kp0e cp0e, .slice Ap0f kp0f cp0f, .bool gp0g, .slice Ap0g kp0g cp0g, .slice Ap0h kp0h cp0h]) (.int .i64 0)).run Tryz.prog w = .ok (.agg #[.bool gp0a, .slice Ap0a kp0a cp0a, .slice Ap0b kp0b cp0b]) w := fun _ => by kernel_rfl
 obtain ⟨W18, HW18, HB19, s18w, j3⟩ := st_al0 w1 #[.bool gp0a, .slice Ap0a kp0a cp0a, .slice Ap0b kp0b cp0b] 32
 go_wp2_with fail
 rw [← HW18.out]
 clear ix17
 have jm2 := tt jm1 j3
 replace HBw := kU HBw jm2
 replace HX0 := kV HBw.out HX0
 refine mN (under_any _ q0.den _ q0.den_nz HX0.out.q0.den) fun w2 A2 k2 c2 HR2 j2c => ?_
 go_wp2_with fail
 have jm3 := tt j3 j2c
 replace HR1 := kV jm3 HR1
 refine mN (times_any _ _ 1 q0.den _ HR1.out HR2.out HDS.out.1 (by have := HQ0.out.2; omega)) fun w3 A3 k3 c3 HR3 j3c => ?_
 go_wp2_with fail
 rw [rounds_succ]
 have ix20 : ∀ w, (Instr.index 255 (.agg #[.bool gp0a, .slice Ap0a kp0a cp0a, .slice Ap0b kp0b cp0b, .bool gp0c, .slice Ap0c kp0c cp0c, .slice Ap0d kp0d cp0d, .bool gp0e, .slice Ap0e kp0e cp0e, .slice Ap0f kp0f cp0f, .bool gp0g, .slice Ap0g kp0g cp0g, .slice Ap0h kp0h cp0h]) (.int .i64 1)).run Tryz.prog w = .ok (.agg #[.bool gp0c, .slice Ap0c kp0c cp0c, .slice Ap0d kp0d cp0d]) w := fun _ => by kernel_rfl
 obtain ⟨W21, HW21, HB22, s21w, j4⟩ := st_al0 w3 #[.bool gp0c, .slice Ap0c kp0c cp0c, .slice Ap0d kp0d cp0d] 32
 go_wp2_with fail
 rw [← HW21.out]
 clear ix20
 have jm4 := tt (tt j2c j3c) j4
 replace HX0 := kV jm4 HX0
 refine mN (under_any _ q1.den _ q1.den_nz HX0.out.q1.den) fun w4 A4 k4 c4 HR4 j4c => ?_
 go_wp2_with fail
 have jm5 := tt j4 j4c
 replace HR3 := kV jm5 HR3
 refine mN (times_any _ _ (1 * q0.den) q1.den _ HR3.out HR4.out HDS.out.2.1 (by have := HQ1.out.2; omega)) fun w5 A5 k5 c5 HR5 j5c => ?_
 go_wp2_with fail
 rw [rounds_succ]
 have ix23 : ∀ w, (Instr.index 255 (.agg #[.bool gp0a, .slice Ap0a kp0a cp0a, .slice Ap0b kp0b cp0b, .bool gp0c, .slice Ap0c kp0c cp0c, .slice Ap0d kp0d cp0d, .bool gp0e, .slice Ap0e kp0e cp0e, .slice Ap0f kp0f cp0f, .bool gp0g, .slice Ap0g kp0g cp0g, .slice Ap0h kp0h cp0h]) (.int .i64 2)).run Tryz.prog w = .ok (.agg #[.bool gp0e, .slice Ap0e kp0e cp0e, .slice Ap0f kp0f cp0f]) w := fun _ => by kernel_rfl
 obtain ⟨W24, HW24, HB25, s24w, j5⟩ := st_al0 w5 #[.bool gp0e, .slice Ap0e kp0e cp0e, .slice Ap0f kp0f cp0f] 32
 go_wp2_with fail
 rw [← HW24.out]
 clear ix23
 have jm6 := tt (tt j4c j5c) j5
 replace HX0 := kV jm6 HX0
 refine mN (under_any _ q2.den _ q2.den_nz HX0.out.q2.den) fun w6 A6 k6 c6 HR6 j6c => ?_
 go_wp2_with fail
 have jm7 := tt j5 j6c
 replace HR5 := kV jm7 HR5
 refine mN (times_any _ _ (1 * q0.den * q1.den) q2.den _ HR5.out HR6.out HDS.out.2.2.1 (by have := HQ2.out.2; omega)) fun w7 A7 k7 c7 HR7 j7c => ?_
 go_wp2_with fail
 rw [rounds_succ]
 have ix26 : ∀ w, (Instr.index 255 (.agg #[.bool gp0a, .slice Ap0a kp0a cp0a, .slice Ap0b kp0b cp0b, .bool gp0c, .slice Ap0c kp0c cp0c, .slice Ap0d kp0d cp0d, .bool gp0e, .slice Ap0e kp0e cp0e, .slice Ap0f kp0f cp0f, .bool gp0g, .slice Ap0g kp0g cp0g, .slice Ap0h kp0h cp0h]) (.int .i64 3)).run Tryz.prog w = .ok (.agg #[.bool gp0g, .slice Ap0g kp0g cp0g, .slice Ap0h kp0h cp0h]) w := fun _ => by kernel_rfl
 obtain ⟨W27, HW27, HB28, s27w, j6⟩ := st_al0 w7 #[.bool gp0g, .slice Ap0g kp0g cp0g, .slice Ap0h kp0h cp0h] 32
 go_wp2_with fail
 rw [← HW27.out]
 clear ix26
 have jm8 := tt (tt j6c j7c) j6
 replace HX0 := kV jm8 HX0
 refine mN (under_any _ q3.den _ q3.den_nz HX0.out.q3.den) fun w8 A8 k8 c8 HR8 j8c => ?_
 go_wp2_with fail
 have jm9 := tt j6 j8c
 replace HR7 := kV jm9 HR7
 refine mN (times_any _ _ (1 * q0.den * q1.den * q2.den) q3.den _ HR7.out HR8.out HDS.out.2.2.2 (by have := HQ3.out.2; omega)) fun w9 A9 k9 c9 HR9 j9c => ?_
 go_wp2_with fail
 rw [rounds_succ]
 obtain ⟨W29, HW29, HB30, s29w, j7⟩ := st_al0 w9 #[.bool false, .slice none 0 0, .bool false, .slice none 0 0, .bool false, .slice none 0 0, .bool false, .slice none 0 0] 28
 have n4b30 : Hid (w.heap.size + 1 ≠ w9.heap.size) := by show _ ≠ _; have hlt := blk_lt HB4.out; have := j1c.size; have := j3.size; have := j2c.size; have := j3c.size; have := j4.size; have := j4c.size; have := j5c.size; have := j5.size; have := j6c.size; have := j7c.size; have := j6.size; have := j8c.size; have := j9c.size; omega
 have l30b : Hid (w.heap.size ≤ w9.heap.size) := by show _ ≤ _; have hlt := HBw.out.size; have := j2c.size; have := j3c.size; have := j4.size; have := j4c.size; have := j5c.size; have := j5.size; have := j6c.size; have := j7c.size; have := j6.size; have := j8c.size; have := j9c.size; omega
 have jm10 := tt (tt (tt (tt (tt (tt (tt (tt (tt (tt (tt jm3 j3c) j4) j4c) j5c) j5) j6c) j7c) j6) j8c) j9c) j7
 replace HB2 := kB HB2 jm10
 have c31 := kC HB2 0 rfl
 have c32 := kC HB2 1 rfl
 have c33 := kC HB2 2 rfl
 have c34 := kC HB2 3 rfl
 have c35 := kC HB2 4 rfl
 have c36 := kC HB2 5 rfl
 have c37 := kC HB2 6 rfl
 have c38 := kC HB2 7 rfl
 have c39 := kC HB2 8 rfl
 have c40 := kC HB2 9 rfl
 have c41 := kC HB2 10 rfl
 have c42 := kC HB2 11 rfl
 rw [HW29.out] at c31
 rw [HW29.out] at c32
 rw [HW29.out] at c33
 rw [HW29.out] at c34
 rw [HW29.out] at c35
 rw [HW29.out] at c36
 rw [HW29.out] at c37
 rw [HW29.out] at c38
 rw [HW29.out] at c39
 rw [HW29.out] at c40
 rw [HW29.out] at c41
 rw [HW29.out] at c42
 go_wp2_with fail
 rw [← HW29.out]
 clear c31 c32 c33 c34 c35 c36 c37 c38 c39 c40 c41 c42
 refine wp_loop_rounds 5 ?_
 rw [rounds_succ]
 have ix43 : ∀ w, (Instr.index 255 (.agg #[.bool gp0a, .slice Ap0a kp0a cp0a, .slice Ap0b kp0b cp0b, .bool gp0c, .slice Ap0c kp0c cp0c, .slice Ap0d kp0d cp0d, .bool gp0e, .slice Ap0e kp0e cp0e, .slice Ap0f kp0f cp0f, .bool gp0g, .slice Ap0g kp0g cp0g, .slice Ap0h kp0h cp0h]) (.int .i64 0)).run Tryz.prog w = .ok (.agg #[.bool gp0a, .slice Ap0a kp0a cp0a, .slice Ap0b kp0b cp0b]) w := fun _ => by kernel_rfl
 obtain ⟨W44, HW44, HB45, s44w, j8⟩ := st_al0 W29 #[.bool gp0a, .slice Ap0a kp0a cp0a, .slice Ap0b kp0b cp0b] 32
 go_wp2_with fail
 rw [← HW44.out]
 clear ix43
 have jm11 := tt (tt (tt j8c j9c) j7) j8
 replace HX0 := kV jm11 HX0
 refine mN (under_any _ q0.den _ q0.den_nz HX0.out.q0.den) fun w10 A10 k10 c10 HR10 j10c => ?_
 go_wp2_with fail
 have jm12 := tt (tt j7 j8) j10c
 replace HR9 := kV jm12 HR9
 refine (divPair _ _ (1 * q0.den * q1.den * q2.den * q3.den) q0.den _ HR9.out HR10.out q0.den_nz HDD.out.2 (by have := HQ0.out.2; omega)).mono ?_
 rintro e w11 ⟨⟨vx, vy, rfl, hr, hr2⟩, j11c⟩
 obtain ⟨A11a, k11a, c11a, rfl, hr⟩ := hr.open
 obtain ⟨A11b, k11b, c11b, rfl, hr2⟩ := hr2.open
 have HR11 := h0d hr
 have HR11b := h0d hr2
 clear hr2
 clear hr
 have jm13 := tt j10c j11c
 replace HB45 := kB HB45 jm13
 have c46 := kC HB45 0 rfl
 have c47 := kC HB45 1 rfl
 go_wp2_with fail
 clear c46 c47
 replace HX0 := kV jm13 HX0
 refine mZ (scaled_any _ _ q0.num ((1 * q0.den * q1.den * q2.den * q3.den) / q0.den) _ HX0.out.q0.num HR11.out (by have := HQ0.out.1; omega) (Nat.le_trans (dl_mono (Nat.div_le_self _ _)) HDD.out.2)) fun w12 g12a A12a k12a c12a HR12 j12c => ?_
 have jm14 := tt (tt (tt j8 j10c) j11c) j12c
 replace HB30 := kB HB30 jm14
 have t48h := kth 0 2 HB30
 obtain ⟨W49, HW49⟩ : ∃ W, Hid (W = w12.setCells (w9.heap.size) 0 [.bool g12a, .slice A12a k12a c12a]) := ⟨_, rfl⟩
 have TW49 := kN (kM HW49) HB30 rfl rfl
 replace HB30 := kP (ds := [.bool g12a, .slice A12a k12a c12a, .bool false, .slice none 0 0, .bool false, .slice none 0 0, .bool false, .slice none 0 0]) (kM HW49) HB30 rfl rfl
 go_wp2_with (refine smd 27 (w9.heap.size) 0 (ht := by exact t48h) (h := ?_))
 rw [← HW49.out]
 clear t48h
 rw [rounds_succ]
 have ix50 : ∀ w, (Instr.index 255 (.agg #[.bool gp0a, .slice Ap0a kp0a cp0a, .slice Ap0b kp0b cp0b, .bool gp0c, .slice Ap0c kp0c cp0c, .slice Ap0d kp0d cp0d, .bool gp0e, .slice Ap0e kp0e cp0e, .slice Ap0f kp0f cp0f, .bool gp0g, .slice Ap0g kp0g cp0g, .slice Ap0h kp0h cp0h]) (.int .i64 1)).run Tryz.prog w = .ok (.agg #[.bool gp0c, .slice Ap0c kp0c cp0c, .slice Ap0d kp0d cp0d]) w := fun _ => by kernel_rfl
 obtain ⟨W51, HW51, HB52, s51w, j9⟩ := st_al0 W49 #[.bool gp0c, .slice Ap0c kp0c cp0c, .slice Ap0d kp0d cp0d] 32
 go_wp2_with fail
 rw [← HW51.out]
 clear ix50
 replace HX0 := kV j9 (kW TW49 (kV j12c HX0))
 refine mN (under_any _ q1.den _ q1.den_nz HX0.out.q1.den) fun w13 A13 k13 c13 HR13 j13c => ?_
 go_wp2_with fail
 have jm15 := tt j11c j12c
 have jm16 := tt j9 j13c
 replace HR9 := kV jm16 (kW TW49 (kV jm15 HR9))
 refine (divPair _ _ (1 * q0.den * q1.den * q2.den * q3.den) q1.den _ HR9.out HR13.out q1.den_nz HDD.out.2 (by have := HQ1.out.2; omega)).mono ?_
 rintro e w14 ⟨⟨vx, vy, rfl, hr, hr2⟩, j14c⟩
 obtain ⟨A14a, k14a, c14a, rfl, hr⟩ := hr.open
 obtain ⟨A14b, k14b, c14b, rfl, hr2⟩ := hr2.open
 have HR14 := h0d hr
 have HR14b := h0d hr2
 clear hr2
 clear hr
 have jm17 := tt j13c j14c
 replace HB52 := kB HB52 jm17
 have c53 := kC HB52 0 rfl
 have c54 := kC HB52 1 rfl
 go_wp2_with fail
 clear c53 c54
 replace HX0 := kV jm17 HX0
 refine mZ (scaled_any _ _ q1.num ((1 * q0.den * q1.den * q2.den * q3.den) / q1.den) _ HX0.out.q1.num HR14.out (by have := HQ1.out.1; omega) (Nat.le_trans (dl_mono (Nat.div_le_self _ _)) HDD.out.2)) fun w15 g15a A15a k15a c15a HR15 j15c => ?_
 have jm18 := tt (tt jm16 j14c) j15c
 replace HB30 := kB HB30 jm18
 have t55h := kth 2 2 HB30
 obtain ⟨W56, HW56⟩ : ∃ W, Hid (W = w15.setCells (w9.heap.size) 2 [.bool g15a, .slice A15a k15a c15a]) := ⟨_, rfl⟩
 have TW56 := kN (kM HW56) HB30 rfl rfl
 replace HB30 := kP (ds := [.bool g12a, .slice A12a k12a c12a, .bool g15a, .slice A15a k15a c15a, .bool false, .slice none 0 0, .bool false, .slice none 0 0]) (kM HW56) HB30 rfl rfl
 go_wp2_with (refine smd 27 (w9.heap.size) 2 (ht := by exact t55h) (h := ?_))
 rw [← HW56.out]
 clear t55h
 rw [rounds_succ]
 have ix57 : ∀ w, (Instr.index 255 (.agg #[.bool gp0a, .slice Ap0a kp0a cp0a, .slice Ap0b kp0b cp0b, .bool gp0c, .slice Ap0c kp0c cp0c, .slice Ap0d kp0d cp0d, .bool gp0e, .slice Ap0e kp0e cp0e, .slice Ap0f kp0f cp0f, .bool gp0g, .slice Ap0g kp0g cp0g, .slice Ap0h kp0h cp0h]) (.int .i64 2)).run Tryz.prog w = .ok (.agg #[.bool gp0e, .slice Ap0e kp0e cp0e, .slice Ap0f kp0f cp0f]) w := fun _ => by kernel_rfl
 obtain ⟨W58, HW58, HB59, s58w, j10⟩ := st_al0 W56 #[.bool gp0e, .slice Ap0e kp0e cp0e, .slice Ap0f kp0f cp0f] 32
 go_wp2_with fail
 rw [← HW58.out]
 clear ix57
 replace HX0 := kV j10 (kW TW56 (kV j15c HX0))
 refine mN (under_any _ q2.den _ q2.den_nz HX0.out.q2.den) fun w16 A16 k16 c16 HR16 j16c => ?_
 go_wp2_with fail
 have jm19 := tt j14c j15c
 have jm20 := tt j10 j16c
 replace HR9 := kV jm20 (kW TW56 (kV jm19 HR9))
 refine (divPair _ _ (1 * q0.den * q1.den * q2.den * q3.den) q2.den _ HR9.out HR16.out q2.den_nz HDD.out.2 (by have := HQ2.out.2; omega)).mono ?_
 rintro e w17 ⟨⟨vx, vy, rfl, hr, hr2⟩, j17c⟩
 obtain ⟨A17a, k17a, c17a, rfl, hr⟩ := hr.open
 obtain ⟨A17b, k17b, c17b, rfl, hr2⟩ := hr2.open
 have HR17 := h0d hr
 have HR17b := h0d hr2
 clear hr2
 clear hr
 have jm21 := tt j16c j17c
 replace HB59 := kB HB59 jm21
 have c60 := kC HB59 0 rfl
 have c61 := kC HB59 1 rfl
 go_wp2_with fail
 clear c60 c61
 replace HX0 := kV jm21 HX0
 refine mZ (scaled_any _ _ q2.num ((1 * q0.den * q1.den * q2.den * q3.den) / q2.den) _ HX0.out.q2.num HR17.out (by have := HQ2.out.1; omega) (Nat.le_trans (dl_mono (Nat.div_le_self _ _)) HDD.out.2)) fun w18 g18a A18a k18a c18a HR18 j18c => ?_
 have jm22 := tt (tt jm20 j17c) j18c
 replace HB30 := kB HB30 jm22
 have t62h := kth 4 2 HB30
 obtain ⟨W63, HW63⟩ : ∃ W, Hid (W = w18.setCells (w9.heap.size) 4 [.bool g18a, .slice A18a k18a c18a]) := ⟨_, rfl⟩
 have TW63 := kN (kM HW63) HB30 rfl rfl
 replace HB30 := kP (ds := [.bool g12a, .slice A12a k12a c12a, .bool g15a, .slice A15a k15a c15a, .bool g18a, .slice A18a k18a c18a, .bool false, .slice none 0 0]) (kM HW63) HB30 rfl rfl
 go_wp2_with (refine smd 27 (w9.heap.size) 4 (ht := by exact t62h) (h := ?_))
 rw [← HW63.out]
 clear t62h
 rw [rounds_succ]
 have ix64 : ∀ w, (Instr.index 255 (.agg #[.bool gp0a, .slice Ap0a kp0a cp0a, .slice Ap0b kp0b cp0b, .bool gp0c, .slice Ap0c kp0c cp0c, .slice Ap0d kp0d cp0d, .bool gp0e, .slice Ap0e kp0e cp0e, .slice Ap0f kp0f cp0f, .bool gp0g, .slice Ap0g kp0g cp0g, .slice Ap0h kp0h cp0h]) (.int .i64 3)).run Tryz.prog w = .ok (.agg #[.bool gp0g, .slice Ap0g kp0g cp0g, .slice Ap0h kp0h cp0h]) w := fun _ => by kernel_rfl
 obtain ⟨W65, HW65, HB66, s65w, j11⟩ := st_al0 W63 #[.bool gp0g, .slice Ap0g kp0g cp0g, .slice Ap0h kp0h cp0h] 32
 go_wp2_with fail
 rw [← HW65.out]
 clear ix64
 replace HX0 := kV j11 (kW TW63 (kV j18c HX0))
 refine mN (under_any _ q3.den _ q3.den_nz HX0.out.q3.den) fun w19 A19 k19 c19 HR19 j19c => ?_
 go_wp2_with fail
 have jm23 := tt j17c j18c
 have jm24 := tt j11 j19c
 replace HR9 := kV jm24 (kW TW63 (kV jm23 HR9))
 refine (divPair _ _ (1 * q0.den * q1.den * q2.den * q3.den) q3.den _ HR9.out HR19.out q3.den_nz HDD.out.2 (by have := HQ3.out.2; omega)).mono ?_
 rintro e w20 ⟨⟨vx, vy, rfl, hr, hr2⟩, j20c⟩
 obtain ⟨A20a, k20a, c20a, rfl, hr⟩ := hr.open
 obtain ⟨A20b, k20b, c20b, rfl, hr2⟩ := hr2.open
 have HR20 := h0d hr
 have HR20b := h0d hr2
 clear hr2
 clear hr
 have jm25 := tt j19c j20c
 replace HB66 := kB HB66 jm25
 have c67 := kC HB66 0 rfl
 have c68 := kC HB66 1 rfl
 go_wp2_with fail
 clear c67 c68
 replace HX0 := kV jm25 HX0
 refine mZ (scaled_any _ _ q3.num ((1 * q0.den * q1.den * q2.den * q3.den) / q3.den) _ HX0.out.q3.num HR20.out (by have := HQ3.out.1; omega) (Nat.le_trans (dl_mono (Nat.div_le_self _ _)) HDD.out.2)) fun w21 g21a A21a k21a c21a HR21 j21c => ?_
 have jm26 := tt (tt jm24 j20c) j21c
 replace HB30 := kB HB30 jm26
 have t69h := kth 6 2 HB30
 obtain ⟨W70, HW70⟩ : ∃ W, Hid (W = w21.setCells (w9.heap.size) 6 [.bool g21a, .slice A21a k21a c21a]) := ⟨_, rfl⟩
 have TW70 := kN (kM HW70) HB30 rfl rfl
 replace HB30 := kP (ds := [.bool g12a, .slice A12a k12a c12a, .bool g15a, .slice A15a k15a c15a, .bool g18a, .slice A18a k18a c18a, .bool g21a, .slice A21a k21a c21a]) (kM HW70) HB30 rfl rfl
 go_wp2_with (refine smd 27 (w9.heap.size) 6 (ht := by exact t69h) (h := ?_))
 rw [← HW70.out]
 clear t69h
 rw [rounds_succ]
 have c71 := kC HB30 0 rfl
 have c72 := kC HB30 1 rfl
 have c73 := kC HB30 2 rfl
 have c74 := kC HB30 3 rfl
 have c75 := kC HB30 4 rfl
 have c76 := kC HB30 5 rfl
 have c77 := kC HB30 6 rfl
 have c78 := kC HB30 7 rfl
 go_wp2_with fail
 clear c71 c72 c73 c74 c75 c76 c77 c78
 replace HR12 := kW TW70 (kV jm26 (kW TW63 (kV jm22 (kW TW56 (kV jm18 (kW TW49 HR12))))))
 replace HR15 := kW TW70 (kV jm26 (kW TW63 (kV jm22 (kW TW56 HR15))))
 replace HR18 := kW TW70 (kV jm26 (kW TW63 HR18))
 replace HR21 := kW TW70 HR21
 have jm27 := tt j20c j21c
 replace HR9 := kW TW70 (kV jm27 HR9)
 refine mS (surd_any _ _ ⟨q0, q1, q2, q3⟩ _ _ _ _ (1 * q0.den * q1.den * q2.den * q3.den) (5 * Ks + 1) _ (RdA.mk HR12.out HR15.out HR18.out HR21.out) HR9.out HSM.out (by omega)) fun w22 g22a A22a k22a c22a g22b A22b k22b c22b g22c A22c k22c c22c g22d A22d k22d c22d A22e k22e c22e HR22 j22c => ?_
 have jm28 := tt (tt (tt (tt (tt (tt (tt (tt (tt (tt (tt (tt (tt (tt (tt (tt (tt j1c j3) j2c) j3c) j4) j4c) j5c) j5) j6c) j7c) j6) j8c) j9c) j7) j8) j10c) j11c) j12c
 replace HB4 := kB (kO (kM HW70) (kB (kO (kM HW63) (kB (kO (kM HW56) (kB (kO (kM HW49) (kB HB4 jm28) n4b30.out) jm18) n4b30.out) jm22) n4b30.out) jm26) n4b30.out) j22c
 have t79h := kth 0 9 HB4
 obtain ⟨W80, HW80⟩ : ∃ W, Hid (W = w22.setCells (w.heap.size + 1) 0 [.bool g22a, .slice A22a k22a c22a, .bool g22b, .slice A22b k22b c22b, .bool g22c, .slice A22c k22c c22c, .bool g22d, .slice A22d k22d c22d, .slice A22e k22e c22e]) := ⟨_, rfl⟩
 have TW80 := kN (kM HW80) HB4 rfl rfl
 replace HB4 := kP (ds := [.bool g22a, .slice A22a k22a c22a, .bool g22b, .slice A22b k22b c22b, .bool g22c, .slice A22c k22c c22c, .bool g22d, .slice A22d k22d c22d, .slice A22e k22e c22e]) (kM HW80) HB4 rfl rfl
 go_wp2_with (refine smd 30 (w.heap.size + 1) 0 (ht := by exact t79h) (h := ?_))
 rw [← HW80.out]
 clear t79h
 replace HR22 := kW TW80 HR22
 have jm29 := tt (tt (tt (tt (tt (tt (tt (tt (tt (tt (tt (tt (tt jm4 j4c) j5c) j5) j6c) j7c) j6) j8c) j9c) j7) j8) j10c) j11c) j12c
 replace HBw := kS (kM HW80) l4b (kU (kS (kM HW70) l30b (kU (kS (kM HW63) l30b (kU (kS (kM HW56) l30b (kU (kS (kM HW49) l30b (kU HBw jm29)) jm18)) jm22)) jm26)) j22c)
 exact bodyPost_ret (results_cell rfl (by rfl) (blk_all HB4.out) Tryz.underlying30 rfl (by kernel_rfl)) rfl ⟨⟨_, rfl, HR22.out⟩, HBw.out⟩
theorem QS.up {a b : Nat} {x : Rat} (h : QS a x) (hab : a ≤ b) : QS b x := ⟨Nat.le_trans h.1 hab, Nat.le_trans h.2 hab⟩
theorem qs_int {n : Int} (h1 : -9223372036854775808 ≤ n) (h2 : n ≤ 9223372036854775807) : QS 1 (n : Rat) :=
 ⟨dl_small (n := n.natAbs) (by unfold B64; omega), by show dl 1 ≤ 1; rw [dl_one]; exact Nat.le_refl _⟩
theorem qsurd_any (a0 a1 a2 a3 : Int) (w : World) (hi : (-9223372036854775808 ≤ a0 ∧ a0 ≤ 9223372036854775807) ∧ (-9223372036854775808 ≤ a1 ∧ a1 ≤ 9223372036854775807) ∧ (-9223372036854775808 ≤ a2 ∧ a2 ≤ 9223372036854775807) ∧ (-9223372036854775808 ≤ a3 ∧ a3 ≤ 9223372036854775807)) :
  Calls Tryz.prog 96 #[.agg #[.int .i64 a0, .int .i64 a1, .int .i64 a2, .int .i64 a3]] w fun e w' => (∃ v', e = .returned v' ∧ RdS w' v' (⟨(a0 : Rat) / ((4 : Int) : Rat), (a1 : Rat) / ((4 : Int) : Rat), (a2 : Rat) / ((4 : Int) : Rat), (a3 : Rat) / ((4 : Int) : Rat)⟩) (11)) ∧ Below w.heap.size w w' := by
 have HI := h0d hi
 have H4 : Hid (((4 : Int) : Rat) ≠ 0) := by show _ ≠ _; decide
 clear hi
 go_enter Tryz.func96, Tryz.ntmps96
 obtain ⟨W1, HW1, HB2, s1w, j1⟩ := st_al0 w #[.int .i64 a0, .int .i64 a1, .int .i64 a2, .int .i64 a3] 183
 have HBw := h0d j1
 obtain ⟨W3, HW3, HB4, s3w, j2⟩ := st_alk 1 2 #[.bool false, .slice none 0 0, .bool false, .slice none 0 0, .bool false, .slice none 0 0, .bool false, .slice none 0 0, .slice none 0 0] 30 s1w rfl
 have l4b : Hid (w.heap.size ≤ w.heap.size + 1) := by show _ ≤ _; omega
 obtain ⟨W5, HW5, HB6, s5w, j3⟩ := st_alk 2 3 #[.bool false, .slice none 0 0, .slice none 0 0, .bool false, .slice none 0 0, .slice none 0 0, .bool false, .slice none 0 0, .slice none 0 0, .bool false, .slice none 0 0, .slice none 0 0] 255 s3w rfl
 have n4b6 : Hid (w.heap.size + 1 ≠ w.heap.size + 2) := by show _ ≠ _; omega
 have l6b : Hid (w.heap.size ≤ w.heap.size + 2) := by show _ ≤ _; omega
 go_wp2_with fail
 rw [← HW1.out, ← HW3.out, ← HW5.out]
 refine wp_loop_rounds 5 ?_
 rw [rounds_succ]
 have ix7 : ∀ w, (Instr.index 183 (.agg #[.int .i64 a0, .int .i64 a1, .int .i64 a2, .int .i64 a3]) (.int .i64 0)).run Tryz.prog w = .ok (.int .i64 a0) w := fun _ => by kernel_rfl
 go_wp2_with fail
 clear ix7
 refine mQ (int_any a0 _ HI.out.1.1 HI.out.1.2) fun w1 g1a A1a k1a c1a A1b k1b c1b HR1 j1c => ?_
 go_wp2_with fail
 refine mQ (int_any 4 _ (by omega) (by omega)) fun w2 g2a A2a k2a c2a A2b k2b c2b HR2 j2c => ?_
 go_wp2_with fail
 replace HR1 := kV j2c HR1
 refine mQ (ratioB_any _ _ (a0 : Rat) ((4 : Int) : Rat) _ HR1.out HR2.out H4.out ((qs_int HI.out.1.1 HI.out.1.2).up (by omega)) ((qs_int (n := 4) (by omega) (by omega)).up (by omega))) fun w3 g3a A3a k3a c3a A3b k3b c3b HR3 j3c => ?_
 have jm1 := tt (tt j1c j2c) j3c
 replace HB6 := kB HB6 jm1
 have t8h := kth 0 3 HB6
 obtain ⟨W9, HW9⟩ : ∃ W, Hid (W = w3.setCells (w.heap.size + 2) 0 [.bool g3a, .slice A3a k3a c3a, .slice A3b k3b c3b]) := ⟨_, rfl⟩
 have TW9 := kN (kM HW9) HB6 rfl rfl
 replace HB6 := kP (ds := [.bool g3a, .slice A3a k3a c3a, .slice A3b k3b c3b, .bool false, .slice none 0 0, .slice none 0 0, .bool false, .slice none 0 0, .slice none 0 0, .bool false, .slice none 0 0, .slice none 0 0]) (kM HW9) HB6 rfl rfl
 go_wp2_with (refine smd 32 (w.heap.size + 2) 0 (ht := by exact t8h) (h := ?_))
 rw [← HW9.out]
 clear t8h
 rw [rounds_succ]
 have ix10 : ∀ w, (Instr.index 183 (.agg #[.int .i64 a0, .int .i64 a1, .int .i64 a2, .int .i64 a3]) (.int .i64 1)).run Tryz.prog w = .ok (.int .i64 a1) w := fun _ => by kernel_rfl
 go_wp2_with fail
 clear ix10
 refine mQ (int_any a1 _ HI.out.2.1.1 HI.out.2.1.2) fun w4 g4a A4a k4a c4a A4b k4b c4b HR4 j4c => ?_
 go_wp2_with fail
 refine mQ (int_any 4 _ (by omega) (by omega)) fun w5 g5a A5a k5a c5a A5b k5b c5b HR5 j5c => ?_
 go_wp2_with fail
 replace HR4 := kV j5c HR4
 refine mQ (ratioB_any _ _ (a1 : Rat) ((4 : Int) : Rat) _ HR4.out HR5.out H4.out ((qs_int HI.out.2.1.1 HI.out.2.1.2).up (by omega)) ((qs_int (n := 4) (by omega) (by omega)).up (by omega))) fun w6 g6a A6a k6a c6a A6b k6b c6b HR6 j6c => ?_
 have jm2 := tt (tt j4c j5c) j6c
 replace HB6 := kB HB6 jm2
 have t11h := kth 3 3 HB6
 obtain ⟨W12, HW12⟩ : ∃ W, Hid (W = w6.setCells (w.heap.size + 2) 3 [.bool g6a, .slice A6a k6a c6a, .slice A6b k6b c6b]) := ⟨_, rfl⟩
 have TW12 := kN (kM HW12) HB6 rfl rfl
 replace HB6 := kP (ds := [.bool g3a, .slice A3a k3a c3a, .slice A3b k3b c3b, .bool g6a, .slice A6a k6a c6a, .slice A6b k6b c6b, .bool false, .slice none 0 0, .slice none 0 0, .bool false, .slice none 0 0, .slice none 0 0]) (kM HW12) HB6 rfl rfl
 go_wp2_with (refine smd 32 (w.heap.size + 2) 3 (ht := by exact t11h) (h := ?_))
 rw [← HW12.out]
 clear t11h
 rw [rounds_succ]
 have ix13 : ∀ w, (Instr.index 183 (.agg #[.int .i64 a0, .int .i64 a1, .int .i64 a2, .int .i64 a3]) (.int .i64 2)).run Tryz.prog w = .ok (.int .i64 a2) w := fun _ => by kernel_rfl
 go_wp2_with fail
 clear ix13
 refine mQ (int_any a2 _ HI.out.2.2.1.1 HI.out.2.2.1.2) fun w7 g7a A7a k7a c7a A7b k7b c7b HR7 j7c => ?_
 go_wp2_with fail
 refine mQ (int_any 4 _ (by omega) (by omega)) fun w8 g8a A8a k8a c8a A8b k8b c8b HR8 j8c => ?_
 go_wp2_with fail
 replace HR7 := kV j8c HR7
 refine mQ (ratioB_any _ _ (a2 : Rat) ((4 : Int) : Rat) _ HR7.out HR8.out H4.out ((qs_int HI.out.2.2.1.1 HI.out.2.2.1.2).up (by omega)) ((qs_int (n := 4) (by omega) (by omega)).up (by omega))) fun w9 g9a A9a k9a c9a A9b k9b c9b HR9 j9c => ?_
 have jm3 := tt (tt j7c j8c) j9c
 replace HB6 := kB HB6 jm3
 have t14h := kth 6 3 HB6
 obtain ⟨W15, HW15⟩ : ∃ W, Hid (W = w9.setCells (w.heap.size + 2) 6 [.bool g9a, .slice A9a k9a c9a, .slice A9b k9b c9b]) := ⟨_, rfl⟩
 have TW15 := kN (kM HW15) HB6 rfl rfl
 replace HB6 := kP (ds := [.bool g3a, .slice A3a k3a c3a, .slice A3b k3b c3b, .bool g6a, .slice A6a k6a c6a, .slice A6b k6b c6b, .bool g9a, .slice A9a k9a c9a, .slice A9b k9b c9b, .bool false, .slice none 0 0, .slice none 0 0]) (kM HW15) HB6 rfl rfl
 go_wp2_with (refine smd 32 (w.heap.size + 2) 6 (ht := by exact t14h) (h := ?_))
 rw [← HW15.out]
 clear t14h
 rw [rounds_succ]
 have ix16 : ∀ w, (Instr.index 183 (.agg #[.int .i64 a0, .int .i64 a1, .int .i64 a2, .int .i64 a3]) (.int .i64 3)).run Tryz.prog w = .ok (.int .i64 a3) w := fun _ => by kernel_rfl
 go_wp2_with fail
 clear ix16
 refine mQ (int_any a3 _ HI.out.2.2.2.1 HI.out.2.2.2.2) fun w10 g10a A10a k10a c10a A10b k10b c10b HR10 j10c => ?_
 go_wp2_with fail
 refine mQ (int_any 4 _ (by omega) (by omega)) fun w11 g11a A11a k11a c11a A11b k11b c11b HR11 j11c => ?_
 go_wp2_with fail
 replace HR10 := kV j11c HR10
 refine mQ (ratioB_any _ _ (a3 : Rat) ((4 : Int) : Rat) _ HR10.out HR11.out H4.out ((qs_int HI.out.2.2.2.1 HI.out.2.2.2.2).up (by omega)) ((qs_int (n := 4) (by omega) (by omega)).up (by omega))) fun w12 g12a A12a k12a c12a A12b k12b c12b HR12 j12c => ?_
 have jm4 := tt (tt j10c j11c) j12c
 replace HB6 := kB HB6 jm4
 have t17h := kth 9 3 HB6
 obtain ⟨W18, HW18⟩ : ∃ W, Hid (W = w12.setCells (w.heap.size + 2) 9 [.bool g12a, .slice A12a k12a c12a, .slice A12b k12b c12b]) := ⟨_, rfl⟩
 have TW18 := kN (kM HW18) HB6 rfl rfl
 replace HB6 := kP (ds := [.bool g3a, .slice A3a k3a c3a, .slice A3b k3b c3b, .bool g6a, .slice A6a k6a c6a, .slice A6b k6b c6b, .bool g9a, .slice A9a k9a c9a, .slice A9b k9b c9b, .bool g12a, .slice A12a k12a c12a, .slice A12b k12b c12b]) (kM HW18) HB6 rfl rfl
 go_wp2_with (refine smd 32 (w.heap.size + 2) 9 (ht := by exact t17h) (h := ?_))
 rw [← HW18.out]
 clear t17h
 rw [rounds_succ]
 have c19 := kC HB6 0 rfl
 have c20 := kC HB6 1 rfl
 have c21 := kC HB6 2 rfl
 have c22 := kC HB6 3 rfl
 have c23 := kC HB6 4 rfl
 have c24 := kC HB6 5 rfl
 have c25 := kC HB6 6 rfl
 have c26 := kC HB6 7 rfl
 have c27 := kC HB6 8 rfl
 have c28 := kC HB6 9 rfl
 have c29 := kC HB6 10 rfl
 have c30 := kC HB6 11 rfl
 go_wp2_with fail
 clear c19 c20 c21 c22 c23 c24 c25 c26 c27 c28 c29 c30
 replace HR3 := kW TW18 (kV jm4 (kW TW15 (kV jm3 (kW TW12 (kV jm2 (kW TW9 HR3))))))
 replace HR6 := kW TW18 (kV jm4 (kW TW15 (kV jm3 (kW TW12 HR6))))
 replace HR9 := kW TW18 (kV jm4 (kW TW15 HR9))
 replace HR12 := kW TW18 HR12
 refine mS (make_any _ _ _ _ _ 2 _ (RdR.mk HR3.out HR6.out HR9.out HR12.out) ((qs_int HI.out.1.1 HI.out.1.2).div (qs_int (n := 4) (by omega) (by omega)) H4.out) ((qs_int HI.out.2.1.1 HI.out.2.1.2).div (qs_int (n := 4) (by omega) (by omega)) H4.out) ((qs_int HI.out.2.2.1.1 HI.out.2.2.1.2).div (qs_int (n := 4) (by omega) (by omega)) H4.out) ((qs_int HI.out.2.2.2.1 HI.out.2.2.2.2).div (qs_int (n := 4) (by omega) (by omega)) H4.out) (by omega)) fun w13 g13a A13a k13a c13a g13b A13b k13b c13b g13c A13c k13c c13c g13d A13d k13d c13d A13e k13e c13e HR13 j13c => ?_
 have jm5 := tt j3 jm1
 replace HB4 := kB (kO (kM HW18) (kB (kO (kM HW15) (kB (kO (kM HW12) (kB (kO (kM HW9) (kB HB4 jm5) n4b6.out) jm2) n4b6.out) jm3) n4b6.out) jm4) n4b6.out) j13c
 have t31h := kth 0 9 HB4
 obtain ⟨W32, HW32⟩ : ∃ W, Hid (W = w13.setCells (w.heap.size + 1) 0 [.bool g13a, .slice A13a k13a c13a, .bool g13b, .slice A13b k13b c13b, .bool g13c, .slice A13c k13c c13c, .bool g13d, .slice A13d k13d c13d, .slice A13e k13e c13e]) := ⟨_, rfl⟩
 have TW32 := kN (kM HW32) HB4 rfl rfl
 replace HB4 := kP (ds := [.bool g13a, .slice A13a k13a c13a, .bool g13b, .slice A13b k13b c13b, .bool g13c, .slice A13c k13c c13c, .bool g13d, .slice A13d k13d c13d, .slice A13e k13e c13e]) (kM HW32) HB4 rfl rfl
 go_wp2_with (refine smd 30 (w.heap.size + 1) 0 (ht := by exact t31h) (h := ?_))
 rw [← HW32.out]
 clear t31h
 replace HR13 := kW TW32 HR13
 have jm6 := tt j2 jm5
 replace HBw := kS (kM HW32) l4b (kU (kS (kM HW18) l6b (kU (kS (kM HW15) l6b (kU (kS (kM HW12) l6b (kU (kS (kM HW9) l6b (kU HBw jm6)) jm2)) jm3)) jm4)) j13c)
 exact bodyPost_ret (results_cell rfl (by rfl) (blk_all HB4.out) Tryz.underlying30 rfl (by kernel_rfl)) rfl ⟨⟨_, rfl, HR13.out⟩, HBw.out⟩
end Go.Proofs.YtodckaioeomccaaGreat
namespace Go.Proofs.YtodckaioeomccaaGreat
open Go.RowKit
set_option linter.unusedVariables false
set_option linter.unusedSimpArgs false
theorem RdN.len_ {w : World} {A : Option Addr} {k c n : Nat} (h : RdN w (.slice A k c) n) : dl n = k := by
 obtain ⟨A', n', c', e, e1, _⟩ := RdW.open_ h
 simp only [Value.slice.injEq] at e
 obtain ⟨rfl, rfl, rfl⟩ := e
 exact e1
theorem RdN.one_ {w : World} {A : Option Addr} {k c n : Nat} (h : RdN w (.slice A k c) n) (h0 : n ≠ 0) (hn : n < B64) : k = 1 ∧ ∃ b off, A = some ⟨b, off, none⟩ ∧ w.cell? ⟨b, off, none⟩ = some (.int .u64 (n : Int)) := by
 have hk := h.len_
 have h1 := dl_small hn
 have h2 := dl_pos h0
 obtain rfl : k = 1 := by omega
 refine ⟨rfl, ?_⟩
 obtain ⟨A', n', c', e, e1, _, _, _, hc⟩ := RdW.open_ h
 simp only [Value.slice.injEq] at e
 obtain ⟨rfl, rfl, rfl⟩ := e
 obtain ⟨b, off, x, rfl, _, hx, hcx⟩ := hc 0 (by omega)
 refine ⟨b, off, rfl, ?_⟩
 rw [Nat.add_zero] at hcx
 have : digs B64 n = [n] := digs_small B64_2 h0 hn
 rw [this] at hx
 obtain rfl : n = x := by simpa using hx
 exact hcx
set_option maxRecDepth 100000 in
set_option maxHeartbeats 2000000 in
theorem whole_is (v : Value) (x : Rat) (w : World) (hv : RdQ w v x) (hd : x.den = 1) (hn : x.num.natAbs ≤ 4611686018427387904) :
  Calls Tryz.prog 179 #[v] w fun e w' => e = .returned (.tuple #[.int .i64 x.num, .bool true]) ∧ Below w.heap.size w w' := by
 obtain ⟨g, A, k, c, B, m, e, rfl, hv⟩ := hv.open
 have hg := hv.num.sign
 have hm : m = 0 := by
  have h := hv.den
  rw [hd] at h
  rw [← h.len_]; exact dl_zero
 subst hm
 obtain ⟨z, hz⟩ : ∃ z, z = x.num := ⟨_, rfl⟩
 have hab := hv.num.abs
 rw [← hz] at hg hn hab ⊢
 have hbel := (Below.refl w.heap.size w).alloc (Nat.le_refl _) (.cells #[.bool g, .slice A k c, .slice B 0 e] 32)
 have HB := h0d hbel
 have HLT : Hid (∀ (b off : Nat) u, w.cell? ⟨b, off, none⟩ = some u → (w.alloc (.cells #[.bool g, .slice A k c, .slice B 0 e] 32)).cell? ⟨b, off, none⟩ = some u) := fun b off u h => (((Below.refl _ w).alloc (Nat.le_refl _) _).cell (p := ⟨b, off, none⟩) (cell_lt h)).trans h
 by_cases h0 : z = 0
 ·subst h0
  have hk : k = 0 := by rw [← hab.len_]; exact dl_zero
  subst hk
  have hgf : g = false := by rw [hg]; rfl
  subst hgf
  clear hv hab hg hz hbel
  go_enter Tryz.func179, Tryz.ntmps179
  go_wp2_with fail
  go_ret2
  exact ⟨rfl, HB.out⟩
 ·obtain ⟨hk, b, off, rfl, hc⟩ := hab.one_ (by omega) (by unfold B64; omega)
  subst hk
  obtain ⟨a, ha⟩ : ∃ a, a = z.natAbs := ⟨_, rfl⟩
  rw [← ha] at hc hn
  have hc1 := HLT.out _ _ _ hc
  have ha0 : a ≠ 0 := by omega
  by_cases hneg : z < 0
  ·have hgt : g = true := by rw [hg]; exact decide_eq_true hneg
   subst hgt
   obtain ⟨u, hu⟩ : ∃ u : Nat, u = 18446744073709551616 - a := ⟨_, rfl⟩
   have hw1 : IntKind.u64.wrap (-(a : Int)) = (u : Int) := by rw [IntKind.wrap_u64]; omega
   have hw2 : IntKind.i64.wrap (u : Int) = z := by rw [IntKind.wrap_i64]; omega
   have hle : (a : Int) ≤ 9223372036854775808 := by omega
   clear hv hab hg hz hbel HLT hc h0 hneg hu ha
   go_enter Tryz.func179, Tryz.ntmps179
   go_wp2_with fail
   go_ret2
   exact ⟨rfl, HB.out⟩
  ·have hgt : g = false := by rw [hg]; exact decide_eq_false hneg
   subst hgt
   obtain rfl : z = (a : Int) := by omega
   have hw2 : IntKind.i64.wrap (a : Int) = (a : Int) := by rw [IntKind.wrap_i64]; omega
   have hle : (a : Int) < 9223372036854775808 := by omega
   clear hv hab hg hz hbel HLT hc h0 hneg ha
   go_enter Tryz.func179, Tryz.ntmps179
   go_wp2_with fail
   go_ret2
   exact ⟨rfl, HB.out⟩
end Go.Proofs.YtodckaioeomccaaGreat
