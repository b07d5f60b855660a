/- Walks of floats: Sqrt and Abs of what they are asked here; quad.float, quad.less where the floats are apart. -/
import Derived.Test.YtodckaioeomccaaGreatPart34
namespace Go.Proofs.YtodckaioeomccaaGreat
open Go.RowKit
set_option linter.unusedVariables false
set_option linter.unusedSimpArgs false
set_option maxRecDepth 100000
set_option maxHeartbeats 4000000
theorem ext_sqrt3 : ∀ w, (callFunc 304 #[.float .f64 4613937818241073152]).run Tryz.prog w = .ok (.value (.float .f64 4610479282544200874)) w := fun w => by kernel_rfl
set_option maxRecDepth 100000 in
theorem sqrt3 (w : World) : Calls Tryz.prog 277 #[.float .f64 4613937818241073152] w fun e w' => e = .returned (.float .f64 4610479282544200874) ∧ w' = w := by
 have he := ext_sqrt3
 go_enter Tryz.func277, Tryz.ntmps277
 go_wp2_with fail
 go_ret
 exact ⟨rfl, rfl⟩
theorem ext_sqrt6 : ∀ w, (callFunc 304 #[.float .f64 4618441417868443648]).run Tryz.prog w = .ok (.value (.float .f64 4612698179346440494)) w := fun w => by kernel_rfl
set_option maxRecDepth 100000 in
theorem sqrt6 (w : World) : Calls Tryz.prog 277 #[.float .f64 4618441417868443648] w fun e w' => e = .returned (.float .f64 4612698179346440494) ∧ w' = w := by
 have he := ext_sqrt6
 go_enter Tryz.func277, Tryz.ntmps277
 go_wp2_with fail
 go_ret
 exact ⟨rfl, rfl⟩
def FOp (op : BinOp) (x y z : Nat) : Prop := ∀ w, (binOp op 266 (.float .f64 x) (.float .f64 y)).run Tryz.prog w = .ok (.float .f64 z) w
def QFl (a0 a1 a2 a3 : Int) (z : Nat) : Prop := ∃ f0 f1 f2 f3 c1 c2 c3 d1 d2, floatOfInt .f64 a0 = f0 ∧ floatOfInt .f64 a1 = f1 ∧ floatOfInt .f64 a2 = f2 ∧ floatOfInt .f64 a3 = f3 ∧
 FOp .mul f1 4609047870845172685 c1 ∧ FOp .add f0 c1 d1 ∧ FOp .mul f2 4610479282544200874 c2 ∧ FOp .add d1 c2 d2 ∧ FOp .mul f3 4612698179346440494 c3 ∧ FOp .add d2 c3 z
set_option maxRecDepth 100000 in
set_option maxHeartbeats 4000000 in
theorem float_any (a0 a1 a2 a3 : Int) (z : Nat) (w : World) (hz : QFl a0 a1 a2 a3 z) : Calls Tryz.prog 238 #[.agg #[.int .i64 a0, .int .i64 a1, .int .i64 a2, .int .i64 a3]] w fun e w' => e = .returned (.float .f64 z) ∧ Below w.heap.size w w' := by
 obtain ⟨f0, f1, f2, f3, c1, c2, c3, d1, d2, h0, h1, h2, h3, m1, p1, m2, p2, m3, p3⟩ := hz
 unfold FOp at m1 p1 m2 p2 m3 p3
 go_enter Tryz.func238, Tryz.ntmps238
 obtain ⟨W1, HW1, HB2, s1w, j1⟩ := st_al0 w #[.int .i64 a0, .int .i64 a1, .int .i64 a2, .int .i64 a3] 183
 have l2b : Hid (w.heap.size ≤ w.heap.size) := by show _ ≤ _; omega
 have HBw := h0d j1
 go_wp2_with fail
 rw [← HW1.out]
 obtain ⟨W3, hW3⟩ : ∃ W, W = W1.drew := ⟨_, rfl⟩
 have j2 : Below W1.heap.size W1 W3 := by rw [hW3]; exact (Below.refl _ _).drew
 replace HB2 := kB HB2 j2
 refine seq_start (S := fun w' => w'.cell? ⟨w.heap.size, 0, none⟩ = some (.int .i64 a0) ∧ w'.cell? ⟨w.heap.size, 1, none⟩ = some (.int .i64 a1) ∧ w'.cell? ⟨w.heap.size, 2, none⟩ = some (.int .i64 a2) ∧ w'.cell? ⟨w.heap.size, 3, none⟩ = some (.int .i64 a3)) (by kernel_rfl) (by kernel_rfl) (by rw [← hW3]; exact ⟨kD HB2 0, kD HB2 1, kD HB2 2, kD HB2 3⟩) ?_
 rw [← hW3]
 clear hW3
 iterate 11 refine tk0 (h := ?_)
 iterate 3 (refine plq 3 (h := ?_); refine tk0 (h := ?_))
 refine sop (h := fun K9 hK9 => ?_)
 go_simp
 refine (sqrt3 _).mono ?_
 rintro e w1 ⟨rfl, hwx⟩
 obtain rfl := hwx.symm
 refine ckk hK9 (by exact ⟨kD HB2 0, kD HB2 1, kD HB2 2, kD HB2 3⟩) (h := ?_)
 clear hK9 K9
 iterate 2 refine tk0 (h := ?_)
 refine sop (h := fun K9 hK9 => ?_)
 go_simp
 refine (sqrt6 _).mono ?_
 rintro e w2 ⟨rfl, hwx⟩
 obtain rfl := hwx.symm
 refine ckk hK9 (by exact ⟨kD HB2 0, kD HB2 1, kD HB2 2, kD HB2 3⟩) (h := ?_)
 clear hK9 K9
 iterate 3 refine tk0 (h := ?_)
 refine seq_done (by kernel_rfl) ?_
 go_wp2_with fail
 go_ret
 replace HBw := kU HBw j2
 exact ⟨rfl, HBw.out⟩
def FAbs (b c : Nat) : Prop := ∃ u v : Nat, (∀ w, (callFunc 279 #[.float .f64 b]).run Tryz.prog w = .ok (.value (.int .u64 (u : Int))) w) ∧ bits .andNot .u64 (u : Int) 9223372036854775808 = (v : Int) ∧
 ∀ w, (callFunc 278 #[.int .u64 (v : Int)]).run Tryz.prog w = .ok (.value (.float .f64 c)) w
set_option maxRecDepth 100000 in
theorem abs_any (b c : Nat) (w : World) (h : FAbs b c) : Calls Tryz.prog 239 #[.float .f64 b] w fun e w' => e = .returned (.float .f64 c) ∧ w' = w := by
 obtain ⟨u, v, h1, h2, h3⟩ := h
 go_enter Tryz.func239, Tryz.ntmps239
 go_wp2_with fail
 go_ret
 exact ⟨rfl, rfl⟩
def QEq (a0 a1 a2 a3 b0 b1 b2 b3 : Int) (r : Bool) : Prop := ∀ w, (binOp .eql 183 (.agg #[.int .i64 a0, .int .i64 a1, .int .i64 a2, .int .i64 a3]) (.agg #[.int .i64 b0, .int .i64 b1, .int .i64 b2, .int .i64 b3])).run Tryz.prog w = .ok (.bool r) w
def QFar (a0 a1 a2 a3 b0 b1 b2 b3 : Int) (r : Bool) : Prop := QEq a0 a1 a2 a3 b0 b1 b2 b3 false ∧ ∃ z y d ad, QFl a0 a1 a2 a3 z ∧ QFl b0 b1 b2 b3 y ∧ FOp .sub z y d ∧ FAbs d ad ∧ (FloatKind.f64.format.order ad 4562254508917369340 == some Ordering.gt) = true ∧ (FloatKind.f64.format.order d 0 == some Ordering.lt) = r
theorem less_far (a0 a1 a2 a3 b0 b1 b2 b3 : Int) (r : Bool) (w : World) (h : QFar a0 a1 a2 a3 b0 b1 b2 b3 r) :
  Calls Tryz.prog 181 #[.agg #[.int .i64 a0, .int .i64 a1, .int .i64 a2, .int .i64 a3], .agg #[.int .i64 b0, .int .i64 b1, .int .i64 b2, .int .i64 b3]] w fun e w' => e = .returned (.bool r) ∧ Below w.heap.size w w' := by
 obtain ⟨hq, z, y, d, ad, hz, hy, hd, hab, hg, hl⟩ := h
 have HZ := h0d hz
 have HY := h0d hy
 have HAB := h0d hab
 unfold QEq at hq
 unfold FOp at hd
 clear hz hy hab
 go_enter Tryz.func181, Tryz.ntmps181
 obtain ⟨W1, HW1, HB2, s1w, j1⟩ := st_al0 w #[.int .i64 a0, .int .i64 a1, .int .i64 a2, .int .i64 a3] 183
 have HBw := h0d j1
 obtain ⟨W3, HW3, HB4, s3w, j2⟩ := st_alk 1 2 #[.int .i64 b0, .int .i64 b1, .int .i64 b2, .int .i64 b3] 183 s1w rfl
 go_wp2_with fail
 rw [← HW1.out, ← HW3.out]
 obtain ⟨W5, hW5⟩ : ∃ W, W = W3.drew := ⟨_, rfl⟩
 have j3 : Below W3.heap.size W3 W5 := by rw [hW5]; exact (Below.refl _ _).drew
 have jm1 := tt j2 j3
 replace HB2 := kB HB2 jm1
 replace HB4 := kB HB4 j3
 refine seq_start (S := fun w' => w'.cell? ⟨w.heap.size, 0, none⟩ = some (.int .i64 a0) ∧ w'.cell? ⟨w.heap.size, 1, none⟩ = some (.int .i64 a1) ∧ w'.cell? ⟨w.heap.size, 2, none⟩ = some (.int .i64 a2) ∧ w'.cell? ⟨w.heap.size, 3, none⟩ = some (.int .i64 a3) ∧ w'.cell? ⟨w.heap.size + 1, 0, none⟩ = some (.int .i64 b0) ∧ w'.cell? ⟨w.heap.size + 1, 1, none⟩ = some (.int .i64 b1) ∧ w'.cell? ⟨w.heap.size + 1, 2, none⟩ = some (.int .i64 b2) ∧ w'.cell? ⟨w.heap.size + 1, 3, none⟩ = some (.int .i64 b3)) (by kernel_rfl) (by kernel_rfl) (by rw [← hW5]; exact ⟨kD HB2 0, kD HB2 1, kD HB2 2, kD HB2 3, kD HB4 0, kD HB4 1, kD HB4 2, kD HB4 3⟩) ?_
 rw [← hW5]
 clear hW5
 refine tk0 (h := ?_)
 refine plq 1 (h := ?_)
 refine tk0 (h := ?_)
 refine sop (h := fun K9 hK9 => ?_)
 go_simp
 refine mV (float_any a0 a1 a2 a3 z _ HZ.out) fun w1 j1c => ?_
 replace HB2 := kB HB2 j1c
 replace HB4 := kB HB4 j1c
 refine ckk hK9 (by exact ⟨kD HB2 0, kD HB2 1, kD HB2 2, kD HB2 3, kD HB4 0, kD HB4 1, kD HB4 2, kD HB4 3⟩) (h := ?_)
 clear hK9 K9
 refine sop (h := fun K9 hK9 => ?_)
 go_simp
 refine mV (float_any b0 b1 b2 b3 y _ HY.out) fun w2 j2c => ?_
 replace HB2 := kB HB2 j2c
 replace HB4 := kB HB4 j2c
 refine ckk hK9 (by exact ⟨kD HB2 0, kD HB2 1, kD HB2 2, kD HB2 3, kD HB4 0, kD HB4 1, kD HB4 2, kD HB4 3⟩) (h := ?_)
 clear hK9 K9
 iterate 2 refine tk0 (h := ?_)
 refine seq_done (by kernel_rfl) ?_
 go_wp2_with fail
 refine (abs_any d ad _ HAB.out).mono ?_
 rintro e w3 ⟨rfl, hwx⟩
 obtain rfl := hwx.symm
 go_wp2_with fail
 go_ret
 have jm2 := tt (tt jm1 j1c) j2c
 replace HBw := kU HBw jm2
 exact ⟨rfl, HBw.out⟩
theorem less_same (a0 a1 a2 a3 b0 b1 b2 b3 : Int) (w : World) (h : QEq a0 a1 a2 a3 b0 b1 b2 b3 true) :
  Calls Tryz.prog 181 #[.agg #[.int .i64 a0, .int .i64 a1, .int .i64 a2, .int .i64 a3], .agg #[.int .i64 b0, .int .i64 b1, .int .i64 b2, .int .i64 b3]] w fun e w' => e = .returned (.bool false) ∧ Below w.heap.size w w' := by
 unfold QEq at h
 go_enter Tryz.func181, Tryz.ntmps181
 obtain ⟨W1, HW1, HB2, s1w, j1⟩ := st_al0 w #[.int .i64 a0, .int .i64 a1, .int .i64 a2, .int .i64 a3] 183
 have HBw := h0d j1
 obtain ⟨W3, HW3, HB4, s3w, j2⟩ := st_alk 1 2 #[.int .i64 b0, .int .i64 b1, .int .i64 b2, .int .i64 b3] 183 s1w rfl
 go_wp2_with fail
 rw [← HW1.out, ← HW3.out]
 go_ret
 replace HBw := kU HBw j2
 exact ⟨rfl, HBw.out⟩
end Go.Proofs.YtodckaioeomccaaGreat
