/- quad.less, where the floats of two quads are told by computing. -/
import Derived.Test.YtodckaioeomccaaGreatPart42
import Derived.Test.YtodckaioeomccaaGreatPart25
import Derived.Laws.FloatArith
namespace Go.Proofs.YtodckaioeomccaaGreat
open Go.RowKit Go.Proofs.Plc
set_option linter.unusedVariables false
set_option linter.unusedSimpArgs false
def qfl (x : Qd) : Option Nat :=
 (floatBits .mul .f64 (floatOfInt .f64 x.b) 4609047870845172685).bind fun c1 => (floatBits .add .f64 (floatOfInt .f64 x.a) c1).bind fun d1 =>
 (floatBits .mul .f64 (floatOfInt .f64 x.c) 4610479282544200874).bind fun c2 => (floatBits .add .f64 d1 c2).bind fun d2 =>
 (floatBits .mul .f64 (floatOfInt .f64 x.d) 4612698179346440494).bind fun c3 => floatBits .add .f64 d2 c3
theorem qfl_is {x : Qd} {z : Nat} (h : qfl x = some z) : QFl x.a x.b x.c x.d z := by
 unfold qfl at h
 simp only [Option.bind_eq_some_iff] at h
 obtain ⟨c1, h1, d1, h2, c2, h3, d2, h4, c3, h5, h6⟩ := h
 exact ⟨_, _, _, _, c1, c2, c3, d1, d2, rfl, rfl, rfl, rfl, fun w => run_float_arith w _ _ _ _ _ _ h1, fun w => run_float_arith w _ _ _ _ _ _ h2, fun w => run_float_arith w _ _ _ _ _ _ h3,
  fun w => run_float_arith w _ _ _ _ _ _ h4, fun w => run_float_arith w _ _ _ _ _ _ h5, fun w => run_float_arith w _ _ _ _ _ _ h6⟩
def lessC (x y : Qd) : Option Bool :=
 if x = y then some false else (qfl x).bind fun z => (qfl y).bind fun u => (floatBits .sub .f64 z u).bind fun d =>
  if (FloatKind.f64.format.order (d % 9223372036854775808) 4562254508917369340 == some Ordering.gt) = true then some (FloatKind.f64.format.order d 0 == some Ordering.lt) else none
theorem andNot_top (d : Nat) (hd : d < 18446744073709551616) : bits BinOp.andNot IntKind.u64 (d : Int) 9223372036854775808 = ((d % 9223372036854775808 : Nat) : Int) := by
 have h1 : (BitVec.ofInt IntKind.u64.bits (d : Int) &&& ~~~(BitVec.ofInt IntKind.u64.bits 9223372036854775808)).toNat = d % 9223372036854775808 := by
  rw [BitVec.toNat_and, show (~~~(BitVec.ofInt IntKind.u64.bits 9223372036854775808)).toNat = 2 ^ 63 - 1 from by decide, Nat.and_two_pow_sub_one_eq_mod]
  have : (BitVec.ofInt IntKind.u64.bits (d : Int)).toNat = d := by
   rw [BitVec.toNat_ofInt]
   show ((d : Int) % ((2 ^ 64 : Nat) : Int)).toNat = d
   omega
  rw [this]
 show IntKind.u64.wrap (((BitVec.ofInt IntKind.u64.bits (d : Int) &&& ~~~(BitVec.ofInt IntKind.u64.bits 9223372036854775808)).toNat : Nat) : Int) = _
 rw [h1, IntKind.wrap_u64]
 omega
theorem abs_is (d : Nat) (hd : d < 18446744073709551616) : FAbs d (d % 9223372036854775808) := by
 refine ⟨d, d % 9223372036854775808, fun w => ?_, andNot_top d hd, fun w => ?_⟩
 ·kernel_rfl
 ·kernel_rfl
theorem eqInt (d : Nat) (a b : Int) (w : World) : (Op.equalIn (d + 1) 3 (.int .i64 a) (.int .i64 b)).run Tryz.prog w = .ok (a == b) w := by kernel_rfl
theorem eqQd (d : Nat) (a0 a1 a2 a3 b0 b1 b2 b3 : Int) (w : World) : (Op.equalIn (d + 2) 183 (.agg #[.int .i64 a0, .int .i64 a1, .int .i64 a2, .int .i64 a3]) (.agg #[.int .i64 b0, .int .i64 b1, .int .i64 b2, .int .i64 b3])).run Tryz.prog w = .ok (decide (a0 = b0 ∧ a1 = b1 ∧ a2 = b2 ∧ a3 = b3)) w := by
 rw [Op.equalIn]
 have hu : ∀ w, (underlying 183).run Tryz.prog w = .ok (.array 4 3) w := fun w => by kernel_rfl
 have hs : ∀ w, (sizeOf 3).run Tryz.prog w = .ok 1 w := fun w => by kernel_rfl
 simp only [Sem.run_bind, hu, Result.andThen_ok, hs]
 simp [Std.Legacy.Range.forIn_eq_forIn_range', List.range', go_sem, eqInt]
 by_cases h0 : a0 = b0 <;> by_cases h1 : a1 = b1 <;> by_cases h2 : a2 = b2 <;> by_cases h3 : a3 = b3 <;> simp [h0, h1, h2, h3]
theorem qeq_is (x y : Qd) : QEq x.a x.b x.c x.d y.a y.b y.c y.d (decide (x = y)) := fun w => by
 have h := eqQd 9998 x.a x.b x.c x.d y.a y.b y.c y.d w
 have e : decide (x.a = y.a ∧ x.b = y.b ∧ x.c = y.c ∧ x.d = y.d) = decide (x = y) := by
  cases x; cases y
  simp only [Qd.mk.injEq]
 rw [e] at h
 simp only [binOp, Op.equal, Sem.run_bind]
 rw [show Op.maxDepth = 9998 + 2 from rfl, h]
 rfl
theorem less_c (x y : Qd) (r : Bool) (w : World) (h : lessC x y = some r) :
  Calls Tryz.prog 181 #[quadV x, quadV y] w fun e w' => e = .returned (.bool r) ∧ Below w.heap.size w w' := by
 unfold lessC at h
 have hq := qeq_is x y
 by_cases hxy : x = y
 ·rw [decide_eq_true hxy] at hq
  rw [if_pos hxy] at h
  obtain rfl : false = r := Option.some.inj h
  exact less_same _ _ _ _ _ _ _ _ w hq
 ·rw [decide_eq_false hxy] at hq
  rw [if_neg hxy] at h
  simp only [Option.bind_eq_some_iff] at h
  obtain ⟨z, hz, u, hu, d, hd, h⟩ := h
  split at h
  ·rename_i hg
   exact less_far _ _ _ _ _ _ _ _ r w ⟨hq, z, u, d, d % 9223372036854775808, qfl_is hz, qfl_is hu, fun w => run_float_arith w _ _ _ _ _ _ hd, abs_is d (FloatKind.f64.format.sub_lt hd), hg, Option.some.inj h⟩
  ·cases h
end Go.Proofs.YtodckaioeomccaaGreat
