/- Slices of whole numbers that came in. Ratios that came in. -/
import Derived.Test.YtodckaioeomccaaGreatPart05
import Derived.Deep.Slices
import Derived.Deep.Fields
import Derived.ChangeSame
import Derived.OpenShut
namespace Go.Proofs.YtodckaioeomccaaGreat
open Go.RowKit Go.ChangeShapes Go.WideShapes Go.Deep
section
variable {H : Type} {enc : TypeId × Value → H} {w : World} {base : Nat} {spare : Nat → Bool} {held : Bool}
end
theorem bounds_int {n : Int} (h : (Lit.int .i64 n).wf = true) : -9223372036854775808 ≤ n ∧ n ≤ 9223372036854775807 := by
 simp only [Lit.wf, Bool.and_eq_true, decide_eq_true_eq] at h
 exact h
end Go.Proofs.YtodckaioeomccaaGreat
namespace Go.Proofs.YtodckaioeomccaaGreat
open Go.RowKit Go.ChangeShapes Go.WideShapes Go.Deep
set_option linter.unusedVariables false
abbrev I64 (x : Int) : Prop := -9223372036854775808 ≤ x ∧ x ≤ 9223372036854775807
section
variable {H : Type} {enc : TypeId × Value → H} {w : World} {base : Nat} {spare : Nat → Bool} {held : Bool}
set_option maxRecDepth 100000 in
theorem open_ratio {fuel : Nat} {cs : List Value} {y : DataW H × List MemPlace} (h : DataW.trod enc Tryz.prog w base spare held fuel 59 cs = some y) :
  ∃ n d : Int, cs = [.int .i64 n, .int .i64 d] ∧ I64 n ∧ I64 d := by
 obtain ⟨ys, n, _, _, hl, _, hf⟩ := DataW.trod_struct Tryz.underlying59 h
 have hl2 : cs.length = 2 := hl.trans (by kernel_rfl)
 match cs, hl2 with
 | [c0, c1], _ =>
  have o9 : Tryz.prog.cellsOf 2 = 1 := by kernel_rfl
  have h0 : DataW.trod enc Tryz.prog w base spare held n 2 (([c0, c1].drop 0).take (Tryz.prog.cellsOf 2)) = ys[0]? := hf 0 _ rfl
  have h1 : DataW.trod enc Tryz.prog w base spare held n 2 (([c0, c1].drop 1).take (Tryz.prog.cellsOf 2)) = ys[1]? := hf 1 _ rfl
  rw [o9] at h0 h1
  have e : ys.length = 2 := by assumption
  match ys, e with
  | [y0, y1], _ =>
   replace h0 : DataW.trod enc Tryz.prog w base spare held n 2 [c0] = some y0 := h0
   replace h1 : DataW.trod enc Tryz.prog w base spare held n 2 [c1] = some y1 := h1
   obtain ⟨s, a1, _, a2⟩ := DataW.trod_int Tryz.underlying2 h0
   obtain ⟨k, b1, _, b2⟩ := DataW.trod_int Tryz.underlying2 h1
   simp at a1 b1
   subst a1 b1
   exact ⟨s, k, rfl, bounds_int a2, bounds_int b2⟩
end
end Go.Proofs.YtodckaioeomccaaGreat
