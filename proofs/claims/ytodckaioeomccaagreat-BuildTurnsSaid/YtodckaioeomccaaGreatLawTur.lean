/- BuildTurns: for every input the law returns true; each argument reads afterwards as it read before. No condition. -/
import Derived.SizedLaws
import Derived.Test.YtodckaioeomccaaGreatRows
import Derived.WalkKit
import Derived.ProofKit
import Derived.OpenShut
import Derived.ShutString
import Derived.ChangeOld
import Derived.Below
import Derived.Test.YtodckaioeomccaaGreatPart01
import Derived.Test.YtodckaioeomccaaGreatPart05
import Derived.Test.YtodckaioeomccaaGreatPart52
namespace Go.Proofs.YtodckaioeomccaaGreat
open Go.ChangeShapes Go.WideShapes Go.ChangeAt Go.RowKit
set_option linter.unusedVariables false
namespace buildTurns
theorem own : ownKnob Tryz.prog.godebug = none := by kernel_rfl
theorem laidOut : laidOutB Tryz.prog = true := Facts.laid
set_option maxRecDepth 100000 in
theorem lifted (os : Os) (started : os.Started) (H : Type) (enc : TypeId × Value → H) :
  ReturnsInHanded {} Tryz.checked os 12 .any (Rows.buildTurnsSpec.pre6 enc Tryz.prog Tryz.f12 Rows.buildTurnsRow.domain false) (Rows.buildTurnsSpec.post enc Tryz.prog Tryz.f12 false true false false) := by
 refine returnsInHanded_of_change_sized (C := Tryz.checked) own started (by kernel_rfl) Tryz.func12
  (ChangeSpec.witness6 (enc := enc) (C := Tryz.checked) false ⟨#[], #[.slice none 0 0, .slice none 0 0, .int .i64 0, .int .i64 0], []⟩ 8 (by kernel_rfl) (by kernel_rfl) (by kernel_rfl) (by kernel_rfl)) ?_
 intro W base args ds gs before hval0 hW hcnd hsz _
 have hval : ∀ (j : Nat) t v, Tryz.f12.params[j]? = some t → args[j]? = some v → Value.okWide Tryz.prog W .any base t v := hval0
 have hW' := hW
 obtain ⟨p, q, hA0, hV, rfl, hfz, hnd⟩ := hW
 have hA : DataW.TrodAll enc Tryz.prog W 0 (fun _ => true) true Tryz.f12.params.toList args.toList ds p := hA0
 rw [Tryz.params12] at hA hval
 obtain ⟨v0, vs0, d0, ds0, p0, q0, hargs, rfl, rfl, h0, r0⟩ := trodAll_cons hA
 obtain ⟨v1, vs1, d1, ds1, p1, q1, rfl, rfl, rfl, h1, r1⟩ := trodAll_cons r0
 obtain ⟨v2, vs2, d2, ds2, p2, q2, rfl, rfl, rfl, h2, r2⟩ := trodAll_cons r1
 obtain ⟨v3, vs3, d3, ds3, p3, q3, rfl, rfl, rfl, h3, r3⟩ := trodAll_cons r2
 obtain ⟨rfl, rfl, rfl⟩ := trodAll_nil r3
 obtain rfl : args = #[v0, v1, v2, v3] := by cases args; simp_all
 obtain ⟨rfl, rfl⟩ := trodVars_none hV
 have k0 := h0
 have lt0 : ∀ x ∈ p0, x.block < W.heap.size := by obtain ⟨m, hm⟩ := k0; exact DataW.trod_lt m _ _ _ hm
 have k1 := h1
 have lt1 : ∀ x ∈ p1, x.block < W.heap.size := by obtain ⟨m, hm⟩ := k1; exact DataW.trod_lt m _ _ _ hm
 have k2 := h2
 have lt2 : ∀ x ∈ p2, x.block < W.heap.size := by obtain ⟨m, hm⟩ := k2; exact DataW.trod_lt m _ _ _ hm
 have k3 := h3
 have lt3 : ∀ x ∈ p3, x.block < W.heap.size := by obtain ⟨m, hm⟩ := k3; exact DataW.trod_lt m _ _ _ hm
 obtain ⟨a0, len0, cap0, rfl⟩ := okWide_slice Tryz.underlying118 (hval 0 118 v0 rfl rfl)
 obtain ⟨xs0, e0, ww0⟩ : ∃ xs, RdP W (.slice a0 len0 cap0) xs ∧ ∀ z ∈ xs, PairWf z := by
  obtain ⟨fuel, hf⟩ := h0
  obtain ⟨v, xs, hcs, h1, h2⟩ := open_pairs hf
  simp [Value.cells] at hcs
  subst hcs
  exact ⟨xs, h1, h2⟩
 have z0 : xs0.length < 8796093022208 := by
  obtain ⟨fuel, hf⟩ := h0
  have hq : len0 = xs0.length := by obtain ⟨A, c, e, _⟩ := e0; injection e
  rw [← hq]
  exact pairs_small hsz (j := 0) (by kernel_rfl) rfl hf
 obtain ⟨a1, len1, cap1, rfl⟩ := okWide_slice Tryz.underlying118 (hval 1 118 v1 rfl rfl)
 obtain ⟨xs1, e1, ww1⟩ : ∃ xs, RdP W (.slice a1 len1 cap1) xs ∧ ∀ z ∈ xs, PairWf z := by
  obtain ⟨fuel, hf⟩ := h1
  obtain ⟨v, xs, hcs, h1, h2⟩ := open_pairs hf
  simp [Value.cells] at hcs
  subst hcs
  exact ⟨xs, h1, h2⟩
 have z1 : xs1.length < 8796093022208 := by
  obtain ⟨fuel, hf⟩ := h1
  have hq : len1 = xs1.length := by obtain ⟨A, c, e, _⟩ := e1; injection e
  rw [← hq]
  exact pairs_small hsz (j := 1) (by kernel_rfl) rfl hf
 obtain ⟨m2, rfl, rfl, rfl, w2⟩ := open_int Tryz.underlying3 (hval 2 3 v2 rfl rfl) h2
 have b2 := bounds_int w2
 obtain ⟨m3, rfl, rfl, rfl, w3⟩ := open_int Tryz.underlying3 (hval 3 3 v3 rfl rfl) h3
 have b3 := bounds_int w3
 clear hA0 hval0
 refine (buildTurns_any (.slice a0 len0 cap0) xs0 (.slice a1 len1 cap1) xs1 m2 m3 W z0 z1 e0 ww0 e1 ww1 b2 b3).mono fun e W' ⟨he, bel⟩ => ?_
 subst he
 exact ⟨_, rfl, _, _, _, [], _, [], hW', trodAll_mk1 (shut_bool Tryz.underlying4 _), (trodAll_cons_mk (Below.trod laidOut (by kernel_rfl) (of_decide_eq_true (by kernel_rfl)) k0 bel lt0) (trodAll_cons_mk (Below.trod laidOut (by kernel_rfl) (of_decide_eq_true (by kernel_rfl)) k1 bel lt1) (trodAll_cons_mk (shut_int Tryz.underlying3 w2) (trodAll_cons_mk (shut_int Tryz.underlying3 w3) trodAll_mk0)))), rfl, bel.frame _, fun h => by cases h⟩
theorem place : (Rows.buildTurnsRow.inPlace == Tryz.prog.inPlace 12) = true := by kernel_rfl
theorem unfol : (Rows.buildTurnsRow.unfollowed == Tryz.prog.unfollowed 12) = true := by kernel_rfl
theorem recur : (Rows.buildTurnsRow.recurses == Tryz.prog.recurses 12) = true := by kernel_rfl
theorem namd : (Rows.buildTurnsRow.named == Tryz.prog.varsNamed 12) = true := by kernel_rfl
theorem closed : joinedFacts Tryz.prog 12 Tryz.f12 Rows.buildTurnsSpec Rows.buildTurnsRow = true :=
 joined_of Facts.laid Facts.rowed Facts.stops Facts.knobs Facts.keys Facts.heard Facts.enter Facts.lifts Facts.make (by kernel_rfl) (by kernel_rfl) (by kernel_rfl) (by kernel_rfl) (by kernel_rfl) place unfol recur namd
  (by kernel_rfl) (by kernel_rfl) (by kernel_rfl) (by kernel_rfl) (by kernel_rfl) (by kernel_rfl) (by kernel_rfl) (by kernel_rfl) (by kernel_rfl) rfl (by kernel_rfl) rfl rfl (by kernel_rfl) (by kernel_rfl) (by kernel_rfl) (by kernel_rfl)
theorem over : Rows.buildTurnsRow.holds Tryz.pinned (OpenSpec.ofChange Rows.buildTurnsSpec) :=
 OpenClaim.holds_of_wide 12 Tryz.f12 rfl rfl rfl rfl rfl rfl rfl ⟨rfl, rfl, rfl, rfl, rfl⟩ rfl rfl rfl rfl rfl (by kernel_rfl) Tryz.func12 closed
  (of_decide_eq_true (by kernel_rfl)) (by unfold Func.isWrapper; first | (rw [if_pos (by decide +kernel)]; kernel_rfl) | (rw [if_neg (by decide +kernel)]; exact ⟨rfl, rfl⟩))
  (fun os started H enc _ => lifted os started H enc)
theorem proved : Rows.BuildTurnsSaid :=
 over
#print axioms proved
end buildTurns
end Go.Proofs.YtodckaioeomccaaGreat
