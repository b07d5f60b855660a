/- BuildPitches: for every input the law returns true; each argument reads afterwards as it read before. No condition. -/
import Derived.Test.YtodckaioeomccaaGreatRows
import Derived.WalkKit
import Derived.ProofKit
import Derived.OpenShut
import Derived.ShutString
import Derived.ChangeOld
import Derived.Below
import Derived.Test.YtodckaioeomccaaGreatPart01
import Derived.Test.YtodckaioeomccaaGreatPart07
import Derived.Test.YtodckaioeomccaaGreatPart55
namespace Go.Proofs.YtodckaioeomccaaGreat
open Go.ChangeShapes Go.WideShapes Go.ChangeAt Go.RowKit
set_option linter.unusedVariables false
namespace buildPitches
theorem own : ownKnob Tryz.prog.godebug = none := by kernel_rfl
theorem laidOut : laidOutB Tryz.prog = true := Facts.laid
set_option maxRecDepth 100000 in
theorem lifted (os : Os) (started : os.Started) (H : Type) (enc : TypeId × Value → H) :
  ReturnsInHanded {} Tryz.checked os 11 .any (Rows.buildPitchesSpec.pre6 enc Tryz.prog Tryz.f11 Rows.buildPitchesRow.domain false) (Rows.buildPitchesSpec.post enc Tryz.prog Tryz.f11 false true false false) := by
 refine returnsInHanded_of_change (C := Tryz.checked) own started (by kernel_rfl) Tryz.func11
  (ChangeSpec.witness6 (enc := enc) (C := Tryz.checked) false ⟨#[], #[.slice none 0 0, .int .i64 0], []⟩ 8 (by kernel_rfl) (by kernel_rfl) (by kernel_rfl) (by kernel_rfl)) ?_
 intro W base args ds gs before hval0 hW hcnd _
 have hval : ∀ (j : Nat) t v, Tryz.f11.params[j]? = some t → args[j]? = some v → Value.okWide Tryz.prog W .any base t v := hval0
 have hW' := hW
 obtain ⟨p, q, hA0, hV, rfl, hfz, hnd⟩ := hW
 have hA : DataW.TrodAll enc Tryz.prog W 0 (fun _ => true) true Tryz.f11.params.toList args.toList ds p := hA0
 rw [Tryz.params11] at hA hval
 obtain ⟨v0, vs0, d0, ds0, p0, q0, hargs, rfl, rfl, h0, r0⟩ := trodAll_cons hA
 obtain ⟨v1, vs1, d1, ds1, p1, q1, rfl, rfl, rfl, h1, r1⟩ := trodAll_cons r0
 obtain ⟨rfl, rfl, rfl⟩ := trodAll_nil r1
 obtain rfl : args = #[v0, v1] := by cases args; simp_all
 obtain ⟨rfl, rfl⟩ := trodVars_none hV
 have k0 := h0
 have lt0 : ∀ x ∈ p0, x.block < W.heap.size := by obtain ⟨m, hm⟩ := k0; exact DataW.trod_lt m _ _ _ hm
 have k1 := h1
 have lt1 : ∀ x ∈ p1, x.block < W.heap.size := by obtain ⟨m, hm⟩ := k1; exact DataW.trod_lt m _ _ _ hm
 obtain ⟨a0, len0, cap0, rfl⟩ := okWide_slice Tryz.underlying22 (hval 0 22 v0 rfl rfl)
 obtain ⟨xs0, e0, ww0⟩ : ∃ xs, RdL W (.slice a0 len0 cap0) xs ∧ ∀ z ∈ xs, (Lit.int .i64 z).wf = true := by
  obtain ⟨fuel, hf⟩ := h0
  obtain ⟨v, xs, hcs, h1, h2⟩ := open_ints_rd hf
  simp [Value.cells] at hcs
  subst hcs
  exact ⟨xs, h1, h2⟩
 obtain ⟨m1, rfl, rfl, rfl, w1⟩ := open_int Tryz.underlying3 (hval 1 3 v1 rfl rfl) h1
 have b1 := bounds_int w1
 clear hA0 hval0
 refine (buildPitches_any (.slice a0 len0 cap0) xs0 m1 W e0 b1).mono fun e W' ⟨he, bel⟩ => ?_
 subst he
 exact ⟨_, rfl, _, _, _, [], _, [], hW', trodAll_mk1 (shut_bool Tryz.underlying4 _), (trodAll_cons_mk (Below.trod laidOut (by kernel_rfl) (of_decide_eq_true (by kernel_rfl)) k0 bel lt0) (trodAll_cons_mk (shut_int Tryz.underlying3 w1) trodAll_mk0)), rfl, bel.frame _, fun h => by cases h⟩
theorem place : (Rows.buildPitchesRow.inPlace == Tryz.prog.inPlace 11) = true := by kernel_rfl
theorem unfol : (Rows.buildPitchesRow.unfollowed == Tryz.prog.unfollowed 11) = true := by kernel_rfl
theorem recur : (Rows.buildPitchesRow.recurses == Tryz.prog.recurses 11) = true := by kernel_rfl
theorem namd : (Rows.buildPitchesRow.named == Tryz.prog.varsNamed 11) = true := by kernel_rfl
theorem closed : joinedFacts Tryz.prog 11 Tryz.f11 Rows.buildPitchesSpec Rows.buildPitchesRow = true :=
 joined_of Facts.laid Facts.rowed Facts.stops Facts.knobs Facts.keys Facts.heard Facts.enter Facts.lifts Facts.make (by kernel_rfl) (by kernel_rfl) (by kernel_rfl) (by kernel_rfl) (by kernel_rfl) place unfol recur namd
  (by kernel_rfl) (by kernel_rfl) (by kernel_rfl) (by kernel_rfl) (by kernel_rfl) (by kernel_rfl) (by kernel_rfl) (by kernel_rfl) (by kernel_rfl) rfl (by kernel_rfl) rfl rfl (by kernel_rfl) (by kernel_rfl) (by kernel_rfl) (by kernel_rfl)
theorem over : Rows.buildPitchesRow.holds Tryz.pinned (OpenSpec.ofChange Rows.buildPitchesSpec) :=
 OpenClaim.holds_of_wide 11 Tryz.f11 rfl rfl rfl rfl rfl rfl rfl ⟨rfl, rfl, rfl, rfl, rfl⟩ rfl rfl rfl rfl rfl (by kernel_rfl) Tryz.func11 closed
  (of_decide_eq_true (by kernel_rfl)) (by unfold Func.isWrapper; first | (rw [if_pos (by decide +kernel)]; kernel_rfl) | (rw [if_neg (by decide +kernel)]; exact ⟨rfl, rfl⟩))
  (fun os started H enc _ => lifted os started H enc)
theorem proved : Rows.BuildPitchesSaid :=
 over
#print axioms proved
end buildPitches
end Go.Proofs.YtodckaioeomccaaGreat
