/- Faults, slices of faults and slices of bytes that came in: what they read as. -/
import Derived.Test.YtlanephpmoajiaaOpenK
import Derived.Test.YtlanephpmoajiaaFaults
namespace Go.Proofs.Ytlanephpmoajiaa
open Go.RowKit Go.ChangeShapes Go.WideShapes Go.Deep
set_option linter.unusedVariables false
structure FaultWf (f : FaultD) : Prop where
  item : f.item.size ≤ maxLen
  since : (Lit.int .i64 f.since).wf = true
  until_ : (Lit.int .i64 f.until_).wf = true
section
variable {H : Type} {enc : TypeId × Value → H} {w : World} {base : Nat} {spare : Nat → Bool} {held : Bool}
set_option maxRecDepth 100000 in
theorem open_faultD {fuel : Nat} {cs : List Value} {y : DataW H × List MemPlace} (h : DataW.trod enc Try.prog w base spare held fuel 47 cs = some y) :
    ∃ f : FaultD, cs = ftC f ∧ FaultWf f := by
  obtain ⟨ys, n, _, _, hl, _, hf⟩ := DataW.trod_struct Try.underlying47 h
  have hl3 : cs.length = 3 := hl.trans (by kernel_rfl)
  match cs, hl3 with
  | [c0, c1, c2], _ =>
    have o9 : Try.prog.cellsOf 9 = 1 := by kernel_rfl
    have o3 : Try.prog.cellsOf 3 = 1 := by kernel_rfl
    have h0 : DataW.trod enc Try.prog w base spare held n 9 (([c0, c1, c2].drop 0).take (Try.prog.cellsOf 9)) = ys[0]? := hf 0 _ rfl
    rw [o9] at h0
    have h1 : DataW.trod enc Try.prog w base spare held n 3 (([c0, c1, c2].drop 1).take (Try.prog.cellsOf 3)) = ys[1]? := hf 1 _ rfl
    rw [o3] at h1
    have h2 : DataW.trod enc Try.prog w base spare held n 3 (([c0, c1, c2].drop 2).take (Try.prog.cellsOf 3)) = ys[2]? := hf 2 _ rfl
    rw [o3] at h2
    have e : ys.length = 3 := by assumption
    match ys, e with
    | [y0, y1, y2], _ =>
      replace h0 : DataW.trod enc Try.prog w base spare held n 9 [c0] = some y0 := h0
      replace h1 : DataW.trod enc Try.prog w base spare held n 3 [c1] = some y1 := h1
      replace h2 : DataW.trod enc Try.prog w base spare held n 3 [c2] = some y2 := h2
      obtain ⟨s, a1, _, a2⟩ := DataW.trod_string Try.underlying9 h0
      obtain ⟨k, b1, _, b2⟩ := DataW.trod_int Try.underlying3 h1
      obtain ⟨a, d1, _, d2⟩ := DataW.trod_int Try.underlying3 h2
      simp at a1 b1 d1
      subst a1 b1 d1
      exact ⟨⟨s, k, a⟩, rfl, a2, b2, d2⟩
theorem open_faults {fuel : Nat} {cs : List Value} {x : DataW H × List MemPlace} (h : DataW.trod enc Try.prog w base spare held fuel 98 cs = some x) :
    ∃ v xs, cs = [v] ∧ RdK 3 ftC w (fun _ => True) v xs ∧ ∀ f ∈ xs, FaultWf f :=
  rdK_open (Q := FaultWf) Try.underlying98 (by kernel_rfl) (by decide) (fun n cs y hy => open_faultD hy) ftC_len h
theorem open_u8s {fuel : Nat} {cs : List Value} {x : DataW H × List MemPlace} (h : DataW.trod enc Try.prog w base spare held fuel 33 cs = some x) :
    ∃ v xs, cs = [v] ∧ Rd (fun n : Int => Value.int .u8 n) w (fun _ => True) v xs ∧ ∀ n ∈ xs, (Lit.int .u8 n).wf = true :=
  rd_of_slice1 (f := fun n : Int => Value.int .u8 n) (Q := fun n => (Lit.int .u8 n).wf = true) Try.underlying33 (by kernel_rfl) (fun n v y hy => by
    obtain ⟨k, b1, _, b2⟩ := DataW.trod_int Try.underlying5 hy
    simp at b1
    exact ⟨k, b1, b2⟩) h
end
end Go.Proofs.Ytlanephpmoajiaa
