/- PlantTouches: for every input the law returns true; each argument reads afterwards as it read before. No condition. -/
import Derived.Test.YtlanephpmoajiaaRows
import Derived.WalkKit
import Derived.ProofKit
import Derived.OpenShut
import Derived.ShutString
import Derived.ChangeOld
import Derived.Below
import Derived.Test.YtlanephpmoajiaaItems
import Derived.Test.YtlanephpmoajiaaOpenF
import Derived.Test.YtlanephpmoajiaaTouches
namespace Go.Proofs.Ytlanephpmoajiaa
open Go.ChangeShapes Go.WideShapes Go.ChangeAt Go.RowKit
open Go.ChangeMaps (open_string shut_string)
set_option linter.unusedVariables false

namespace plantTouches
theorem own : ownKnob Try.prog.godebug = none := by kernel_rfl
theorem laidOut : laidOutB Try.prog = true := by kernel_rfl

set_option maxRecDepth 100000 in
theorem lifted (os : Os) (started : os.Started) (H : Type) (enc : TypeId × Value → H) :
    ReturnsInHanded {} Try.checked os 12 .any (Rows.plantTouchesSpec.pre6 enc Try.prog Try.f12 Rows.plantTouchesRow.domain false) (Rows.plantTouchesSpec.post enc Try.prog Try.f12 false true false false) := by
  refine returnsInHanded_of_change (C := Try.checked) own started (by kernel_rfl) Try.func12
    (ChangeSpec.witness6 (enc := enc) (C := Try.checked) false ⟨#[], #[.slice none 0 0, .slice none 0 0, .slice none 0 0, .string ByteArray.empty], []⟩ 8 (by kernel_rfl) (by kernel_rfl) (by kernel_rfl) (by kernel_rfl)) ?_
  intro W base args ds gs before hval0 hW hcnd _
  have hval : ∀ (j : Nat) t v, Try.f12.params[j]? = some t → args[j]? = some v → Value.okWide Try.prog W .any base t v := hval0
  have hW' := hW
  obtain ⟨p, q, hA0, hV, rfl, hfz, hnd⟩ := hW
  have hA : DataW.TrodAll enc Try.prog W 0 (fun _ => true) true Try.f12.params.toList args.toList ds p := hA0
  rw [Try.params12] at hA hval
  obtain ⟨v0, vs0, d0, ds0, p0, q0, hargs, rfl, rfl, h0, r0⟩ := trodAll_cons hA
  obtain ⟨v1, vs1, d1, ds1, p1, q1, rfl, rfl, rfl, h1, r1⟩ := trodAll_cons r0
  obtain ⟨v2, vs2, d2, ds2, p2, q2, rfl, rfl, rfl, h2, r2⟩ := trodAll_cons r1
  obtain ⟨v3, vs3, d3, ds3, p3, q3, rfl, rfl, rfl, h3, r3⟩ := trodAll_cons r2
  obtain ⟨rfl, rfl, rfl⟩ := trodAll_nil r3
  obtain rfl : args = #[v0, v1, v2, v3] := by cases args; simp_all
  obtain ⟨rfl, rfl⟩ := trodVars_none hV
  have k0 := h0
  have lt0 : ∀ x ∈ p0, x.block < W.heap.size := by obtain ⟨m, hm⟩ := k0; exact DataW.trod_lt m _ _ _ hm
  have k1 := h1
  have lt1 : ∀ x ∈ p1, x.block < W.heap.size := by obtain ⟨m, hm⟩ := k1; exact DataW.trod_lt m _ _ _ hm
  have k2 := h2
  have lt2 : ∀ x ∈ p2, x.block < W.heap.size := by obtain ⟨m, hm⟩ := k2; exact DataW.trod_lt m _ _ _ hm
  have k3 := h3
  have lt3 : ∀ x ∈ p3, x.block < W.heap.size := by obtain ⟨m, hm⟩ := k3; exact DataW.trod_lt m _ _ _ hm
  obtain ⟨a0, len0, cap0, rfl⟩ := okWide_slice Try.underlying27 (hval 0 27 v0 rfl rfl)
  obtain ⟨xs0, e0, ww0⟩ : ∃ xs0, RdI W (fun _ => True) (.slice a0 len0 cap0) xs0 ∧ ∀ x ∈ xs0, ItemWf x := by
    obtain ⟨fuel, hf⟩ := h0
    obtain ⟨v, xs, hcs, h1, h2⟩ := open_items hf
    simp [Value.cells] at hcs
    subst hcs
    exact ⟨xs, h1, h2⟩
  obtain ⟨a1, len1, cap1, rfl⟩ := okWide_slice Try.underlying98 (hval 1 98 v1 rfl rfl)
  obtain ⟨xs1, e1, ww1⟩ : ∃ xs1, RdK 3 ftC W (fun _ => True) (.slice a1 len1 cap1) xs1 ∧ ∀ x ∈ xs1, FaultWf x := by
    obtain ⟨fuel, hf⟩ := h1
    obtain ⟨v, xs, hcs, h1, h2⟩ := open_faults hf
    simp [Value.cells] at hcs
    subst hcs
    exact ⟨xs, h1, h2⟩
  obtain ⟨a2, len2, cap2, rfl⟩ := okWide_slice Try.underlying52 (hval 2 52 v2 rfl rfl)
  obtain ⟨xs2, e2, ww2⟩ : ∃ xs2, Rd .string W (fun _ => True) (.slice a2 len2 cap2) xs2 ∧ ∀ s ∈ xs2, s.size ≤ maxLen := by
    obtain ⟨fuel, hf⟩ := h2
    obtain ⟨v, xs, hcs, h1, h2⟩ := open_strs hf
    simp [Value.cells] at hcs
    subst hcs
    exact ⟨xs, h1, h2⟩
  obtain ⟨nm3, rfl⟩ := okWide_string Try.underlying9 (hval 3 9 v3 rfl rfl)
  have hnm3 : nm3.size ≤ maxLen := by
    obtain ⟨fuel, hf⟩ := h3
    obtain ⟨s, a, _, b⟩ := DataW.trod_string Try.underlying9 hf
    simp [Value.cells] at a
    subst a
    exact b
  clear hA0 hval0
  refine (touches_any (.slice a0 len0 cap0) xs0 (.slice a1 len1 cap1) xs1 (.slice a2 len2 cap2) xs2 nm3 W e0 ww0 e1 ww1 e2 ww2 hnm3).mono fun e W' ⟨he, bel⟩ => ?_
  subst he
  exact ⟨_, rfl, _, _, _, [], _, [], hW', trodAll_mk1 (shut_bool Try.underlying4 _), (trodAll_cons_mk (Below.trod laidOut (by kernel_rfl) (of_decide_eq_true (by kernel_rfl)) k0 bel lt0) (trodAll_cons_mk (Below.trod laidOut (by kernel_rfl) (of_decide_eq_true (by kernel_rfl)) k1 bel lt1) (trodAll_cons_mk (Below.trod laidOut (by kernel_rfl) (of_decide_eq_true (by kernel_rfl)) k2 bel lt2) (trodAll_cons_mk (Below.trod laidOut (by kernel_rfl) (of_decide_eq_true (by kernel_rfl)) k3 bel lt3) trodAll_mk0)))), rfl, bel.frame _, fun h => by cases h⟩

theorem over : Rows.plantTouchesRow.holds Try.pinned (OpenSpec.ofChange Rows.plantTouchesSpec) :=
  OpenClaim.holds_of_wide 12 Try.f12 rfl rfl rfl rfl rfl rfl rfl ⟨rfl, rfl, rfl, rfl, rfl⟩ rfl rfl rfl rfl rfl (by kernel_rfl) Try.func12 (by kernel_rfl)
    (of_decide_eq_true (by kernel_rfl)) (by unfold Func.isWrapper; first | (rw [if_pos (by decide +kernel)]; kernel_rfl) | (rw [if_neg (by decide +kernel)]; exact ⟨rfl, rfl⟩))
    (fun os started H enc _ => lifted os started H enc)

theorem proved : Rows.PlantTouchesSaid :=
  over
#print axioms proved
end plantTouches
end Go.Proofs.Ytlanephpmoajiaa
