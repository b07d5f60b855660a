/- BuildCuts: for every input the law returns true; each argument reads afterwards as it read before. No condition. -/
import Derived.Test.YtodckaioeomccaaGreatRows
import Derived.WalkKit
import Derived.ProofKit
import Derived.OpenShut
import Derived.ShutString
import Derived.ChangeOld
import Derived.Below
import Derived.Test.YtodckaioeomccaaGreatPart01
import Derived.Test.YtodckaioeomccaaGreatPart07
import Derived.Test.YtodckaioeomccaaGreatPart52
namespace Go.Proofs.YtodckaioeomccaaGreat
open Go.ChangeShapes Go.WideShapes Go.ChangeAt Go.RowKit
set_option linter.unusedVariables false
namespace buildCuts
theorem own : ownKnob Tryz.prog.godebug = none := by kernel_rfl
theorem laidOut : laidOutB Tryz.prog = true := Facts.laid
set_option maxRecDepth 100000 in
theorem lifted (os : Os) (started : os.Started) (H : Type) (enc : TypeId × Value → H) :
  ReturnsInHanded {} Tryz.checked os 8 .any (Rows.buildCutsSpec.pre6 enc Tryz.prog Tryz.f8 Rows.buildCutsRow.domain false) (Rows.buildCutsSpec.post enc Tryz.prog Tryz.f8 false true false false) := by
 refine returnsInHanded_of_change (C := Tryz.checked) own started (by kernel_rfl) Tryz.func8
  (ChangeSpec.witness6 (enc := enc) (C := Tryz.checked) false ⟨#[], #[.agg #[.int .i64 0, .int .i64 0], .agg #[.int .i64 0, .int .i64 0], .agg #[.int .i64 0, .int .i64 0, .int .i64 0, .int .i64 0, .int .i64 0, .int .i64 0, .int .i64 0, .int .i64 0]], []⟩ 8 (by kernel_rfl) (by kernel_rfl) (by kernel_rfl) (by kernel_rfl)) ?_
 intro W base args ds gs before hval0 hW hcnd _
 have hval : ∀ (j : Nat) t v, Tryz.f8.params[j]? = some t → args[j]? = some v → Value.okWide Tryz.prog W .any base t v := hval0
 have hW' := hW
 obtain ⟨p, q, hA0, hV, rfl, hfz, hnd⟩ := hW
 have hA : DataW.TrodAll enc Tryz.prog W 0 (fun _ => true) true Tryz.f8.params.toList args.toList ds p := hA0
 rw [Tryz.params8] at hA hval
 obtain ⟨v0, vs0, d0, ds0, p0, q0, hargs, rfl, rfl, h0, r0⟩ := trodAll_cons hA
 obtain ⟨v1, vs1, d1, ds1, p1, q1, rfl, rfl, rfl, h1, r1⟩ := trodAll_cons r0
 obtain ⟨v2, vs2, d2, ds2, p2, q2, rfl, rfl, rfl, h2, r2⟩ := trodAll_cons r1
 obtain ⟨rfl, rfl, rfl⟩ := trodAll_nil r2
 obtain rfl : args = #[v0, v1, v2] := by cases args; simp_all
 obtain ⟨rfl, rfl⟩ := trodVars_none hV
 have k0 := h0
 have lt0 : ∀ x ∈ p0, x.block < W.heap.size := by obtain ⟨m, hm⟩ := k0; exact DataW.trod_lt m _ _ _ hm
 have k1 := h1
 have lt1 : ∀ x ∈ p1, x.block < W.heap.size := by obtain ⟨m, hm⟩ := k1; exact DataW.trod_lt m _ _ _ hm
 have k2 := h2
 have lt2 : ∀ x ∈ p2, x.block < W.heap.size := by obtain ⟨m, hm⟩ := k2; exact DataW.trod_lt m _ _ _ hm
 obtain ⟨cs0, rfl, _⟩ := okWide_struct Tryz.underlying59 (hval 0 59 v0 rfl rfl)
 obtain ⟨n0, d0, rfl, e0⟩ : ∃ n0 d0 : Int, cs0 = #[.int .i64 n0, .int .i64 d0] ∧ (I64 n0 ∧ I64 d0) := by
  obtain ⟨fuel, hf⟩ := h0
  obtain ⟨n0, d0, hcs, hb⟩ := open_ratio hf
  exact ⟨n0, d0, Array.toList_inj.1 hcs, hb⟩
 obtain ⟨cs1, rfl, _⟩ := okWide_struct Tryz.underlying59 (hval 1 59 v1 rfl rfl)
 obtain ⟨n1, d1, rfl, e1⟩ : ∃ n1 d1 : Int, cs1 = #[.int .i64 n1, .int .i64 d1] ∧ (I64 n1 ∧ I64 d1) := by
  obtain ⟨fuel, hf⟩ := h1
  obtain ⟨n1, d1, hcs, hb⟩ := open_ratio hf
  exact ⟨n1, d1, Array.toList_inj.1 hcs, hb⟩
 obtain ⟨cs2, rfl, _⟩ := okWide_array Tryz.underlying75 (hval 2 75 v2 rfl rfl)
 obtain ⟨n20, d20, n21, d21, n22, d22, n23, d23, rfl, e2⟩ : ∃ n20 d20 n21 d21 n22 d22 n23 d23 : Int, cs2 = #[.int .i64 n20, .int .i64 d20, .int .i64 n21, .int .i64 d21, .int .i64 n22, .int .i64 d22, .int .i64 n23, .int .i64 d23] ∧ (I64 n20 ∧ I64 d20) ∧ (I64 n21 ∧ I64 d21) ∧ (I64 n22 ∧ I64 d22) ∧ (I64 n23 ∧ I64 d23) := by
  obtain ⟨fuel, hf⟩ := h2
  obtain ⟨n20, d20, n21, d21, n22, d22, n23, d23, hcs, hb⟩ := open_ratios4 hf
  exact ⟨n20, d20, n21, d21, n22, d22, n23, d23, Array.toList_inj.1 hcs, hb⟩
 clear hA0 hval0
 refine (buildCuts_any n0 d0 n1 d1 n20 d20 n21 d21 n22 d22 n23 d23 W e0 e1 e2).mono fun e W' ⟨he, bel⟩ => ?_
 subst he
 exact ⟨_, rfl, _, _, _, [], _, [], hW', trodAll_mk1 (shut_bool Tryz.underlying4 _), (trodAll_cons_mk (Below.trod laidOut (by kernel_rfl) (of_decide_eq_true (by kernel_rfl)) k0 bel lt0) (trodAll_cons_mk (Below.trod laidOut (by kernel_rfl) (of_decide_eq_true (by kernel_rfl)) k1 bel lt1) (trodAll_cons_mk (Below.trod laidOut (by kernel_rfl) (of_decide_eq_true (by kernel_rfl)) k2 bel lt2) trodAll_mk0))), rfl, bel.frame _, fun h => by cases h⟩
theorem place : (Rows.buildCutsRow.inPlace == Tryz.prog.inPlace 8) = true := by kernel_rfl
theorem unfol : (Rows.buildCutsRow.unfollowed == Tryz.prog.unfollowed 8) = true := by kernel_rfl
theorem recur : (Rows.buildCutsRow.recurses == Tryz.prog.recurses 8) = true := by kernel_rfl
theorem namd : (Rows.buildCutsRow.named == Tryz.prog.varsNamed 8) = true := by kernel_rfl
theorem closed : joinedFacts Tryz.prog 8 Tryz.f8 Rows.buildCutsSpec Rows.buildCutsRow = true :=
 joined_of Facts.laid Facts.rowed Facts.stops Facts.knobs Facts.keys Facts.heard Facts.enter Facts.lifts Facts.make (by kernel_rfl) (by kernel_rfl) (by kernel_rfl) (by kernel_rfl) (by kernel_rfl) place unfol recur namd
  (by kernel_rfl) (by kernel_rfl) (by kernel_rfl) (by kernel_rfl) (by kernel_rfl) (by kernel_rfl) (by kernel_rfl) (by kernel_rfl) (by kernel_rfl) rfl (by kernel_rfl) rfl rfl (by kernel_rfl) (by kernel_rfl) (by kernel_rfl) (by kernel_rfl)
theorem over : Rows.buildCutsRow.holds Tryz.pinned (OpenSpec.ofChange Rows.buildCutsSpec) :=
 OpenClaim.holds_of_wide 8 Tryz.f8 rfl rfl rfl rfl rfl rfl rfl ⟨rfl, rfl, rfl, rfl, rfl⟩ rfl rfl rfl rfl rfl (by kernel_rfl) Tryz.func8 closed
  (of_decide_eq_true (by kernel_rfl)) (by unfold Func.isWrapper; first | (rw [if_pos (by decide +kernel)]; kernel_rfl) | (rw [if_neg (by decide +kernel)]; exact ⟨rfl, rfl⟩))
  (fun os started H enc _ => lifted os started H enc)
theorem proved : Rows.BuildCutsSaid :=
 over
#print axioms proved
end buildCuts
end Go.Proofs.YtodckaioeomccaaGreat
