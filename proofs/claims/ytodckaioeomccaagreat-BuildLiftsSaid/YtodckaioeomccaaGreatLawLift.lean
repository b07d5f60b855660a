/- BuildLifts: for every input the law returns true; each argument reads afterwards as it read before. No condition. -/
import Derived.Test.YtodckaioeomccaaGreatRows
import Derived.WalkKit
import Derived.ProofKit
import Derived.OpenShut
import Derived.ShutString
import Derived.ChangeOld
import Derived.Below
import Derived.Test.YtodckaioeomccaaGreatPart01
import Derived.Test.YtodckaioeomccaaGreatPart07
import Derived.Test.YtodckaioeomccaaGreatPart52
namespace Go.Proofs.YtodckaioeomccaaGreat
open Go.ChangeShapes Go.WideShapes Go.ChangeAt Go.RowKit
set_option linter.unusedVariables false
namespace buildLifts
theorem own : ownKnob Tryz.prog.godebug = none := by kernel_rfl
theorem laidOut : laidOutB Tryz.prog = true := Facts.laid
set_option maxRecDepth 100000 in
theorem lifted (os : Os) (started : os.Started) (H : Type) (enc : TypeId × Value → H) :
  ReturnsInHanded {} Tryz.checked os 5 .any (Rows.buildLiftsSpec.pre6 enc Tryz.prog Tryz.f5 Rows.buildLiftsRow.domain false) (Rows.buildLiftsSpec.post enc Tryz.prog Tryz.f5 false true false false) := by
 refine returnsInHanded_of_change (C := Tryz.checked) own started (by kernel_rfl) Tryz.func5
  (ChangeSpec.witness6 (enc := enc) (C := Tryz.checked) false ⟨#[], #[.agg #[.int .i64 0, .int .i64 0], .agg #[.int .i64 0, .int .i64 0], .agg #[.int .i64 0, .int .i64 0], .agg #[.int .i64 0, .int .i64 0]], []⟩ 8 (by kernel_rfl) (by kernel_rfl) (by kernel_rfl) (by kernel_rfl)) ?_
 intro W base args ds gs before hval0 hW hcnd _
 have hval : ∀ (j : Nat) t v, Tryz.f5.params[j]? = some t → args[j]? = some v → Value.okWide Tryz.prog W .any base t v := hval0
 have hW' := hW
 obtain ⟨p, q, hA0, hV, rfl, hfz, hnd⟩ := hW
 have hA : DataW.TrodAll enc Tryz.prog W 0 (fun _ => true) true Tryz.f5.params.toList args.toList ds p := hA0
 rw [Tryz.params5] at hA hval
 obtain ⟨v0, vs0, d0, ds0, p0, q0, hargs, rfl, rfl, h0, r0⟩ := trodAll_cons hA
 obtain ⟨v1, vs1, d1, ds1, p1, q1, rfl, rfl, rfl, h1, r1⟩ := trodAll_cons r0
 obtain ⟨v2, vs2, d2, ds2, p2, q2, rfl, rfl, rfl, h2, r2⟩ := trodAll_cons r1
 obtain ⟨v3, vs3, d3, ds3, p3, q3, rfl, rfl, rfl, h3, r3⟩ := trodAll_cons r2
 obtain ⟨rfl, rfl, rfl⟩ := trodAll_nil r3
 obtain rfl : args = #[v0, v1, v2, v3] := by cases args; simp_all
 obtain ⟨rfl, rfl⟩ := trodVars_none hV
 have k0 := h0
 have lt0 : ∀ x ∈ p0, x.block < W.heap.size := by obtain ⟨m, hm⟩ := k0; exact DataW.trod_lt m _ _ _ hm
 have k1 := h1
 have lt1 : ∀ x ∈ p1, x.block < W.heap.size := by obtain ⟨m, hm⟩ := k1; exact DataW.trod_lt m _ _ _ hm
 have k2 := h2
 have lt2 : ∀ x ∈ p2, x.block < W.heap.size := by obtain ⟨m, hm⟩ := k2; exact DataW.trod_lt m _ _ _ hm
 have k3 := h3
 have lt3 : ∀ x ∈ p3, x.block < W.heap.size := by obtain ⟨m, hm⟩ := k3; exact DataW.trod_lt m _ _ _ hm
 obtain ⟨cs0, rfl, _⟩ := okWide_struct Tryz.underlying59 (hval 0 59 v0 rfl rfl)
 obtain ⟨n0, d0, rfl, e0⟩ : ∃ n0 d0 : Int, cs0 = #[.int .i64 n0, .int .i64 d0] ∧ (I64 n0 ∧ I64 d0) := by
  obtain ⟨fuel, hf⟩ := h0
  obtain ⟨n0, d0, hcs, hb⟩ := open_ratio hf
  exact ⟨n0, d0, Array.toList_inj.1 hcs, hb⟩
 obtain ⟨cs1, rfl, _⟩ := okWide_struct Tryz.underlying59 (hval 1 59 v1 rfl rfl)
 obtain ⟨n1, d1, rfl, e1⟩ : ∃ n1 d1 : Int, cs1 = #[.int .i64 n1, .int .i64 d1] ∧ (I64 n1 ∧ I64 d1) := by
  obtain ⟨fuel, hf⟩ := h1
  obtain ⟨n1, d1, hcs, hb⟩ := open_ratio hf
  exact ⟨n1, d1, Array.toList_inj.1 hcs, hb⟩
 obtain ⟨cs2, rfl, _⟩ := okWide_struct Tryz.underlying59 (hval 2 59 v2 rfl rfl)
 obtain ⟨n2, d2, rfl, e2⟩ : ∃ n2 d2 : Int, cs2 = #[.int .i64 n2, .int .i64 d2] ∧ (I64 n2 ∧ I64 d2) := by
  obtain ⟨fuel, hf⟩ := h2
  obtain ⟨n2, d2, hcs, hb⟩ := open_ratio hf
  exact ⟨n2, d2, Array.toList_inj.1 hcs, hb⟩
 obtain ⟨cs3, rfl, _⟩ := okWide_struct Tryz.underlying59 (hval 3 59 v3 rfl rfl)
 obtain ⟨n3, d3, rfl, e3⟩ : ∃ n3 d3 : Int, cs3 = #[.int .i64 n3, .int .i64 d3] ∧ (I64 n3 ∧ I64 d3) := by
  obtain ⟨fuel, hf⟩ := h3
  obtain ⟨n3, d3, hcs, hb⟩ := open_ratio hf
  exact ⟨n3, d3, Array.toList_inj.1 hcs, hb⟩
 clear hA0 hval0
 refine (buildLifts_any n0 d0 n1 d1 n2 d2 n3 d3 W e0 e1 e2 e3).mono fun e W' ⟨he, bel⟩ => ?_
 subst he
 exact ⟨_, rfl, _, _, _, [], _, [], hW', trodAll_mk1 (shut_bool Tryz.underlying4 _), (trodAll_cons_mk (Below.trod laidOut (by kernel_rfl) (of_decide_eq_true (by kernel_rfl)) k0 bel lt0) (trodAll_cons_mk (Below.trod laidOut (by kernel_rfl) (of_decide_eq_true (by kernel_rfl)) k1 bel lt1) (trodAll_cons_mk (Below.trod laidOut (by kernel_rfl) (of_decide_eq_true (by kernel_rfl)) k2 bel lt2) (trodAll_cons_mk (Below.trod laidOut (by kernel_rfl) (of_decide_eq_true (by kernel_rfl)) k3 bel lt3) trodAll_mk0)))), rfl, bel.frame _, fun h => by cases h⟩
theorem place : (Rows.buildLiftsRow.inPlace == Tryz.prog.inPlace 5) = true := by kernel_rfl
theorem unfol : (Rows.buildLiftsRow.unfollowed == Tryz.prog.unfollowed 5) = true := by kernel_rfl
theorem recur : (Rows.buildLiftsRow.recurses == Tryz.prog.recurses 5) = true := by kernel_rfl
theorem namd : (Rows.buildLiftsRow.named == Tryz.prog.varsNamed 5) = true := by kernel_rfl
theorem closed : joinedFacts Tryz.prog 5 Tryz.f5 Rows.buildLiftsSpec Rows.buildLiftsRow = true :=
 joined_of Facts.laid Facts.rowed Facts.stops Facts.knobs Facts.keys Facts.heard Facts.enter Facts.lifts Facts.make (by kernel_rfl) (by kernel_rfl) (by kernel_rfl) (by kernel_rfl) (by kernel_rfl) place unfol recur namd
  (by kernel_rfl) (by kernel_rfl) (by kernel_rfl) (by kernel_rfl) (by kernel_rfl) (by kernel_rfl) (by kernel_rfl) (by kernel_rfl) (by kernel_rfl) rfl (by kernel_rfl) rfl rfl (by kernel_rfl) (by kernel_rfl) (by kernel_rfl) (by kernel_rfl)
theorem over : Rows.buildLiftsRow.holds Tryz.pinned (OpenSpec.ofChange Rows.buildLiftsSpec) :=
 OpenClaim.holds_of_wide 5 Tryz.f5 rfl rfl rfl rfl rfl rfl rfl ⟨rfl, rfl, rfl, rfl, rfl⟩ rfl rfl rfl rfl rfl (by kernel_rfl) Tryz.func5 closed
  (of_decide_eq_true (by kernel_rfl)) (by unfold Func.isWrapper; first | (rw [if_pos (by decide +kernel)]; kernel_rfl) | (rw [if_neg (by decide +kernel)]; exact ⟨rfl, rfl⟩))
  (fun os started H enc _ => lifted os started H enc)
theorem proved : Rows.BuildLiftsSaid :=
 over
#print axioms proved
end buildLifts
end Go.Proofs.YtodckaioeomccaaGreat
