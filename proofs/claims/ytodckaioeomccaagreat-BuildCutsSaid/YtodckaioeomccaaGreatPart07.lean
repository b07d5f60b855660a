/- Slices of whole numbers that came in. Ratios that came in. -/
import Derived.Test.YtodckaioeomccaaGreatPart05
import Derived.Deep.Slices
import Derived.Deep.Fields
import Derived.ChangeSame
import Derived.OpenShut
namespace Go.Proofs.YtodckaioeomccaaGreat
open Go.RowKit Go.ChangeShapes Go.WideShapes Go.Deep
section
variable {H : Type} {enc : TypeId × Value → H} {w : World} {base : Nat} {spare : Nat → Bool} {held : Bool}
end
theorem bounds_int {n : Int} (h : (Lit.int .i64 n).wf = true) : -9223372036854775808 ≤ n ∧ n ≤ 9223372036854775807 := by
 simp only [Lit.wf, Bool.and_eq_true, decide_eq_true_eq] at h
 exact h
end Go.Proofs.YtodckaioeomccaaGreat
namespace Go.Proofs.YtodckaioeomccaaGreat
open Go.RowKit Go.ChangeShapes Go.WideShapes Go.Deep
set_option linter.unusedVariables false
theorem okWide_array {P : Program} {w : World} {r : Reach} {base : Nat} {t : TypeId} {v : Value} {n : Nat} {e : TypeId} (ht : P.underlying t = some (.array n e)) (h : Value.okWide P w r base t v) : ∃ cs, v = .agg cs ∧ cs.size = P.cellsOf t := by
 simp only [Value.okWide, ht] at h
 obtain ⟨cs, h1, h2, _⟩ := h
 exact ⟨cs, h1, h2⟩
abbrev I64 (x : Int) : Prop := -9223372036854775808 ≤ x ∧ x ≤ 9223372036854775807
section
variable {H : Type} {enc : TypeId × Value → H} {w : World} {base : Nat} {spare : Nat → Bool} {held : Bool}
set_option maxRecDepth 100000 in
theorem open_ratio {fuel : Nat} {cs : List Value} {y : DataW H × List MemPlace} (h : DataW.trod enc Tryz.prog w base spare held fuel 59 cs = some y) :
  ∃ n d : Int, cs = [.int .i64 n, .int .i64 d] ∧ I64 n ∧ I64 d := by
 obtain ⟨ys, n, _, _, hl, _, hf⟩ := DataW.trod_struct Tryz.underlying59 h
 have hl2 : cs.length = 2 := hl.trans (by kernel_rfl)
 match cs, hl2 with
 | [c0, c1], _ =>
  have o9 : Tryz.prog.cellsOf 2 = 1 := by kernel_rfl
  have h0 : DataW.trod enc Tryz.prog w base spare held n 2 (([c0, c1].drop 0).take (Tryz.prog.cellsOf 2)) = ys[0]? := hf 0 _ rfl
  have h1 : DataW.trod enc Tryz.prog w base spare held n 2 (([c0, c1].drop 1).take (Tryz.prog.cellsOf 2)) = ys[1]? := hf 1 _ rfl
  rw [o9] at h0 h1
  have e : ys.length = 2 := by assumption
  match ys, e with
  | [y0, y1], _ =>
   replace h0 : DataW.trod enc Tryz.prog w base spare held n 2 [c0] = some y0 := h0
   replace h1 : DataW.trod enc Tryz.prog w base spare held n 2 [c1] = some y1 := h1
   obtain ⟨s, a1, _, a2⟩ := DataW.trod_int Tryz.underlying2 h0
   obtain ⟨k, b1, _, b2⟩ := DataW.trod_int Tryz.underlying2 h1
   simp at a1 b1
   subst a1 b1
   exact ⟨s, k, rfl, bounds_int a2, bounds_int b2⟩
set_option maxRecDepth 100000 in
theorem open_ratios4 {fuel : Nat} {cs : List Value} {y : DataW H × List MemPlace} (h : DataW.trod enc Tryz.prog w base spare held fuel 75 cs = some y) :
  ∃ n0 d0 n1 d1 n2 d2 n3 d3 : Int, cs = [.int .i64 n0, .int .i64 d0, .int .i64 n1, .int .i64 d1, .int .i64 n2, .int .i64 d2, .int .i64 n3, .int .i64 d3] ∧ (I64 n0 ∧ I64 d0) ∧ (I64 n1 ∧ I64 d1) ∧ (I64 n2 ∧ I64 d2) ∧ I64 n3 ∧ I64 d3 := by
 obtain ⟨ys, n, _, _, hl, hlen, hf⟩ := DataW.trod_array Tryz.underlying75 h
 have o2 : Tryz.prog.cellsOf 59 = 2 := by kernel_rfl
 have o8 : Tryz.prog.cellsOf 75 = 8 := by kernel_rfl
 rw [o2] at hf
 match cs, (show cs.length = 8 from hl.trans o8) with
 | [c0, c1, c2, c3, c4, c5, c6, c7], _ =>
  match ys, (show ys.length = 4 from hlen) with
  | [y0, y1, y2, y3], _ =>
   have h0 : DataW.trod enc Tryz.prog w base spare held n 59 [c0, c1] = some y0 := hf 0 (by decide)
   have h1 : DataW.trod enc Tryz.prog w base spare held n 59 [c2, c3] = some y1 := hf 1 (by decide)
   have h2 : DataW.trod enc Tryz.prog w base spare held n 59 [c4, c5] = some y2 := hf 2 (by decide)
   have h3 : DataW.trod enc Tryz.prog w base spare held n 59 [c6, c7] = some y3 := hf 3 (by decide)
   obtain ⟨n0, d0, e0, b0, b0'⟩ := open_ratio h0
   obtain ⟨n1, d1, e1, b1, b1'⟩ := open_ratio h1
   obtain ⟨n2, d2, e2, b2, b2'⟩ := open_ratio h2
   obtain ⟨n3, d3, e3, b3, b3'⟩ := open_ratio h3
   simp only [List.cons.injEq, and_true] at e0 e1 e2 e3
   obtain ⟨rfl, rfl⟩ := e0
   obtain ⟨rfl, rfl⟩ := e1
   obtain ⟨rfl, rfl⟩ := e2
   obtain ⟨rfl, rfl⟩ := e3
   exact ⟨n0, d0, n1, d1, n2, d2, n3, d3, rfl, ⟨b0, b0'⟩, ⟨b1, b1'⟩, ⟨b2, b2'⟩, b3, b3'⟩
end
end Go.Proofs.YtodckaioeomccaaGreat
