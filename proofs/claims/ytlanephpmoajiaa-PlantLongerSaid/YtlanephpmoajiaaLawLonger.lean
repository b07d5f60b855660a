/- PlantLonger: for every input the law returns true; each argument reads afterwards as it read before. No condition. -/
import Derived.Test.YtlanephpmoajiaaRows
import Derived.WalkKit
import Derived.ProofKit
import Derived.OpenShut
import Derived.ShutString
import Derived.ChangeOld
import Derived.Below
import Derived.Test.YtlanephpmoajiaaLonger
namespace Go.Proofs.Ytlanephpmoajiaa
open Go.ChangeShapes Go.WideShapes Go.ChangeAt Go.RowKit
open Go.ChangeMaps (open_string shut_string)
set_option linter.unusedVariables false

section
variable {H : Type} {enc : TypeId × Value → H} {w : World} {base : Nat} {spare : Nat → Bool} {held : Bool}
set_option maxRecDepth 100000 in
theorem open_fault {fuel : Nat} {cs : List Value} {y : DataW H × List MemPlace} (h : DataW.trod enc Try.prog w base spare held fuel 47 cs = some y) :
    ∃ it si un, cs = [.string it, .int .i64 si, .int .i64 un] ∧ it.size ≤ maxLen ∧ (Lit.int .i64 si).wf = true ∧ (Lit.int .i64 un).wf = true := by
  obtain ⟨ys, n, _, _, hl, _, hf⟩ := DataW.trod_struct Try.underlying47 h
  have hl3 : cs.length = 3 := hl.trans (by kernel_rfl)
  match cs, hl3 with
  | [c0, c1, c2], _ =>
    have o9 : Try.prog.cellsOf 9 = 1 := by kernel_rfl
    have o3 : Try.prog.cellsOf 3 = 1 := by kernel_rfl
    have h0 : DataW.trod enc Try.prog w base spare held n 9 (([c0, c1, c2].drop 0).take (Try.prog.cellsOf 9)) = ys[0]? := hf 0 _ rfl
    rw [o9] at h0
    have h1 : DataW.trod enc Try.prog w base spare held n 3 (([c0, c1, c2].drop 1).take (Try.prog.cellsOf 3)) = ys[1]? := hf 1 _ rfl
    rw [o3] at h1
    have h2 : DataW.trod enc Try.prog w base spare held n 3 (([c0, c1, c2].drop 2).take (Try.prog.cellsOf 3)) = ys[2]? := hf 2 _ rfl
    rw [o3] at h2
    have e : ys.length = 3 := by assumption
    match ys, e with
    | [y0, y1, y2], _ =>
      replace h0 : DataW.trod enc Try.prog w base spare held n 9 [c0] = some y0 := h0
      replace h1 : DataW.trod enc Try.prog w base spare held n 3 [c1] = some y1 := h1
      replace h2 : DataW.trod enc Try.prog w base spare held n 3 [c2] = some y2 := h2
      obtain ⟨s, a1, _, a2⟩ := DataW.trod_string Try.underlying9 h0
      obtain ⟨k, b1, _, b2⟩ := DataW.trod_int Try.underlying3 h1
      obtain ⟨a, d1, _, d2⟩ := DataW.trod_int Try.underlying3 h2
      simp at a1 b1 d1
      subst a1 b1 d1
      exact ⟨s, k, a, rfl, a2, b2, d2⟩
set_option maxRecDepth 100000 in
theorem open_two {fuel : Nat} {cs : List Value} {y : DataW H × List MemPlace} (h : DataW.trod enc Try.prog w base spare held fuel 48 cs = some y) :
    ∃ m0 m1, cs = [.int .u8 m0, .int .u8 m1] ∧ (Lit.int .u8 m0).wf = true ∧ (Lit.int .u8 m1).wf = true := by
  obtain ⟨ys, n, _, _, hl, hy, hf⟩ := DataW.trod_array Try.underlying48 h
  have hl2 : cs.length = 2 := hl.trans (by kernel_rfl)
  match cs, hl2 with
  | [c0, c1], _ =>
    have o5 : Try.prog.cellsOf 5 = 1 := by kernel_rfl
    have h0 := hf 0 (by decide)
    have h1 := hf 1 (by decide)
    rw [o5] at h0 h1
    match ys, hy with
    | [y0, y1], _ =>
      replace h0 : DataW.trod enc Try.prog w base spare held n 5 [c0] = some y0 := h0
      replace h1 : DataW.trod enc Try.prog w base spare held n 5 [c1] = some y1 := h1
      obtain ⟨k, b1, _, b2⟩ := DataW.trod_int Try.underlying5 h0
      obtain ⟨a, d1, _, d2⟩ := DataW.trod_int Try.underlying5 h1
      simp at b1 d1
      subst b1 d1
      exact ⟨k, a, rfl, b2, d2⟩
end

namespace plantLonger
theorem own : ownKnob Try.prog.godebug = none := by kernel_rfl
theorem laidOut : laidOutB Try.prog = true := by kernel_rfl

set_option maxRecDepth 100000 in
theorem lifted (os : Os) (started : os.Started) (H : Type) (enc : TypeId × Value → H) :
    ReturnsInHanded {} Try.checked os 4 .any (Rows.plantLongerSpec.pre6 enc Try.prog Try.f4 Rows.plantLongerRow.domain false) (Rows.plantLongerSpec.post enc Try.prog Try.f4 false true false false) := by
  refine returnsInHanded_of_change (C := Try.checked) own started (by kernel_rfl) Try.func4
    (ChangeSpec.witness6 (enc := enc) (C := Try.checked) false ⟨#[], #[.slice none 0 0, .agg #[.string ByteArray.empty, .int .i64 0, .int .i64 0], .agg #[.int .u8 0, .int .u8 0]], []⟩ 8 (by kernel_rfl) (by kernel_rfl) (by kernel_rfl) (by kernel_rfl)) ?_
  intro W base args ds gs before hval0 hW hcnd _
  have hval : ∀ (j : Nat) t v, Try.f4.params[j]? = some t → args[j]? = some v → Value.okWide Try.prog W .any base t v := hval0
  have hW' := hW
  obtain ⟨p, q, hA0, hV, rfl, hfz, hnd⟩ := hW
  have hA : DataW.TrodAll enc Try.prog W 0 (fun _ => true) true Try.f4.params.toList args.toList ds p := hA0
  rw [Try.params4] at hA hval
  obtain ⟨v0, vs0, d0, ds0, p0, q0, hargs, rfl, rfl, h0, r0⟩ := trodAll_cons hA
  obtain ⟨v1, vs1, d1, ds1, p1, q1, rfl, rfl, rfl, h1, r1⟩ := trodAll_cons r0
  obtain ⟨v2, vs2, d2, ds2, p2, q2, rfl, rfl, rfl, h2, r2⟩ := trodAll_cons r1
  obtain ⟨rfl, rfl, rfl⟩ := trodAll_nil r2
  obtain rfl : args = #[v0, v1, v2] := by cases args; simp_all
  obtain ⟨rfl, rfl⟩ := trodVars_none hV
  have k0 := h0
  have k1 := h1
  have k2 := h2
  have lt0 : ∀ x ∈ p0, x.block < W.heap.size := by obtain ⟨m, hm⟩ := k0; exact DataW.trod_lt m _ _ _ hm
  have lt1 : ∀ x ∈ p1, x.block < W.heap.size := by obtain ⟨m, hm⟩ := k1; exact DataW.trod_lt m _ _ _ hm
  have lt2 : ∀ x ∈ p2, x.block < W.heap.size := by obtain ⟨m, hm⟩ := k2; exact DataW.trod_lt m _ _ _ hm
  obtain ⟨a0, len0, cap0, rfl⟩ := okWide_slice Try.underlying27 (hval 0 27 v0 rfl rfl)
  obtain ⟨cs1, rfl, _⟩ := okWide_struct Try.underlying47 (hval 1 47 v1 rfl rfl)
  obtain ⟨cs2, rfl⟩ : ∃ cs, v2 = .agg cs := by
    have := hval 2 48 v2 rfl rfl
    simp only [Value.okWide, Try.underlying48] at this
    obtain ⟨cs, h, _⟩ := this
    exact ⟨cs, h⟩
  obtain ⟨xs, w0, ww⟩ : ∃ xs, RdI W (fun _ => True) (.slice a0 len0 cap0) xs ∧ ∀ x ∈ xs, ItemWf x := by
    obtain ⟨fuel, hf⟩ := h0
    obtain ⟨v, xs, hcs, h1, h2⟩ := open_items hf
    simp [Value.cells] at hcs
    subst hcs
    exact ⟨xs, h1, h2⟩
  obtain ⟨it, si, un, rfl, hit, hsi, hun⟩ : ∃ it si un, cs1 = #[.string it, .int .i64 si, .int .i64 un] ∧ it.size ≤ maxLen ∧ (Lit.int .i64 si).wf = true ∧ (Lit.int .i64 un).wf = true := by
    obtain ⟨fuel, hf⟩ := h1
    obtain ⟨it, si, un, hcs, h⟩ := open_fault hf
    exact ⟨it, si, un, Array.toList_inj.1 hcs, h⟩
  obtain ⟨m0, m1, rfl, hm0, hm1⟩ : ∃ m0 m1, cs2 = #[.int .u8 m0, .int .u8 m1] ∧ (Lit.int .u8 m0).wf = true ∧ (Lit.int .u8 m1).wf = true := by
    obtain ⟨fuel, hf⟩ := h2
    obtain ⟨m0, m1, hcs, h⟩ := open_two hf
    exact ⟨m0, m1, Array.toList_inj.1 hcs, h⟩
  clear hA0 hval0
  refine (longer_any (.slice a0 len0 cap0) xs it si un m0 m1 W w0 ww hit (bounds_u8 hm0) (bounds_u8 hm1)).mono fun e W' ⟨he, bel⟩ => ?_
  subst he
  exact ⟨_, rfl, _, _, _, [], _, [], hW', trodAll_mk1 (shut_bool Try.underlying4 _), (trodAll_cons_mk (Below.trod laidOut (by kernel_rfl) (of_decide_eq_true (by kernel_rfl)) k0 bel lt0) (trodAll_cons_mk (Below.trod laidOut (by kernel_rfl) (of_decide_eq_true (by kernel_rfl)) k1 bel lt1) (trodAll_cons_mk (Below.trod laidOut (by kernel_rfl) (of_decide_eq_true (by kernel_rfl)) k2 bel lt2) trodAll_mk0))), rfl, bel.frame _, fun h => by cases h⟩

theorem over : Rows.plantLongerRow.holds Try.pinned (OpenSpec.ofChange Rows.plantLongerSpec) :=
  OpenClaim.holds_of_wide 4 Try.f4 rfl rfl rfl rfl rfl rfl rfl ⟨rfl, rfl, rfl, rfl, rfl⟩ rfl rfl rfl rfl rfl (by kernel_rfl) Try.func4 (by kernel_rfl)
    (of_decide_eq_true (by kernel_rfl)) (by unfold Func.isWrapper; first | (rw [if_pos (by decide +kernel)]; kernel_rfl) | (rw [if_neg (by decide +kernel)]; exact ⟨rfl, rfl⟩))
    (fun os started H enc _ => lifted os started H enc)

theorem proved : Rows.PlantLongerSaid :=
  over
#print axioms proved
end plantLonger
end Go.Proofs.Ytlanephpmoajiaa
