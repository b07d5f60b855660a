/- Slices of structs of whole numbers that came in: what they read as. Faults, slices of faults and slices of bytes that came in: what they read as. -/
import Derived.Test.YtlanephpmoajiaaShifts
import Derived.Test.YtlanephpmoajiaaItems
import Derived.Test.YtlanephpmoajiaaFaults
namespace Go.Proofs.Ytlanephpmoajiaa
open Go.RowKit Go.ChangeShapes Go.WideShapes Go.Deep
set_option linter.unusedVariables false
section
variable {H : Type} {enc : TypeId × Value → H} {w : World} {base : Nat} {spare : Nat → Bool} {held : Bool}
theorem rdK_open {α : Type} {k : Nat} {f : α → List Value} {Q : α → Prop} {t e : TypeId} {fuel : Nat} {cs : List Value} {x : DataW H × List MemPlace} (ht : Try.prog.underlying t = some (.slice e)) (hc : Try.prog.cellsOf e = k) (hk : 0 < k)
    (hel : ∀ n cs y, DataW.trod enc Try.prog w base spare held n e cs = some y → ∃ a, cs = f a ∧ Q a) (hfl : ∀ a, (f a).length = k) (h : DataW.trod enc Try.prog w base spare held fuel t cs = some x) :
    ∃ v xs, cs = [v] ∧ RdK k f w (fun _ => True) v xs ∧ ∀ a ∈ xs, Q a := by
  rcases open_slice ht h with ⟨rfl, _⟩ | ⟨a, len, cap, m, n, D, Pl, rfl, hb, hl, hcm, hm, _, hx⟩
  · exact ⟨_, [], rfl, ⟨none, 0, rfl, Nat.le_refl _, by simp [maxLen], fun h => absurd rfl h⟩, by simp⟩
  · rw [hc] at hx
    have hlm : len ≤ m := by rw [hm]; split <;> omega
    have hA : ∀ i, i < len → ∃ x, w.cells? base (a.add (i * k)) k = some (f x) ∧ Q x := fun i hi => by
      obtain ⟨cs', h1, h2⟩ := hx i (by omega)
      obtain ⟨x, rfl, h4⟩ := hel _ _ _ h2
      exact ⟨x, h1, h4⟩
    obtain ⟨xs, hxl, hxs⟩ := list_of_lt hA
    refine ⟨_, xs, rfl, ⟨some a, cap, by rw [hxl], by omega, hcm, fun hne => ?_⟩, fun y hy => ?_⟩
    · obtain ⟨x, l, hxx⟩ := List.exists_cons_of_ne_nil hne
      obtain ⟨b, off, spot⟩ := a
      have hs : spot = none := by
        obtain ⟨h1, _⟩ := hxs 0 x (by rw [hxx]; rfl)
        have h2 := (World.cells?_some h1).2.2 0 hk
        have h3 := hfl x
        rw [List.getElem?_eq_getElem (by omega)] at h2
        simpa [Addr.add] using World.cell?_spot h2
      subst hs
      refine ⟨b, off, rfl, trivial, fun i x hi j u hu => ?_⟩
      obtain ⟨h1, _⟩ := hxs i x hi
      have hj : j < k := by rw [← hfl x]; exact (List.getElem?_eq_some_iff.1 hu).1
      have hcj := (World.cells?_some h1).2.2 j hj
      simp only [addr_add] at hcj
      exact hcj.trans hu
    · obtain ⟨i, hi, rfl⟩ := List.mem_iff_getElem.1 hy
      exact (hxs i _ (List.getElem?_eq_getElem hi)).2
set_option maxRecDepth 100000 in
/-- The cells of a struct of two whole numbers. -/
theorem open_st {fuel : Nat} {cs : List Value} {y : DataW H × List MemPlace} (h : DataW.trod enc Try.prog w base spare held fuel 74 cs = some y) :
    ∃ x : StockD, cs = stC x ∧ (Lit.int .i64 x.green).wf = true ∧ (Lit.int .i64 x.cured).wf = true := by
  obtain ⟨ys, n, _, _, hl, _, hf⟩ := DataW.trod_struct Try.underlying74 h
  have hl2 : cs.length = 2 := hl.trans (by kernel_rfl)
  match cs, hl2 with
  | [c0, c1], _ =>
    have o3 : Try.prog.cellsOf 3 = 1 := by kernel_rfl
    have h0 : DataW.trod enc Try.prog w base spare held n 3 (([c0, c1].drop 0).take (Try.prog.cellsOf 3)) = ys[0]? := hf 0 _ rfl
    rw [o3] at h0
    have h1 : DataW.trod enc Try.prog w base spare held n 3 (([c0, c1].drop 1).take (Try.prog.cellsOf 3)) = ys[1]? := hf 1 _ rfl
    rw [o3] at h1
    have e : ys.length = 2 := by assumption
    match ys, e with
    | [y0, y1], _ =>
      replace h0 : DataW.trod enc Try.prog w base spare held n 3 [c0] = some y0 := h0
      replace h1 : DataW.trod enc Try.prog w base spare held n 3 [c1] = some y1 := h1
      obtain ⟨k, b1, _, b2⟩ := DataW.trod_int Try.underlying3 h0
      obtain ⟨a, d1, _, d2⟩ := DataW.trod_int Try.underlying3 h1
      simp at b1 d1
      subst b1 d1
      exact ⟨⟨k, a⟩, rfl, b2, d2⟩
set_option maxRecDepth 100000 in
/-- The cells of a struct of five whole numbers. -/
theorem open_sh {fuel : Nat} {cs : List Value} {y : DataW H × List MemPlace} (h : DataW.trod enc Try.prog w base spare held fuel 139 cs = some y) : ∃ x : ShiftD, cs = shC x ∧ True := by
  obtain ⟨ys, n, _, _, hl, _, hf⟩ := DataW.trod_struct Try.underlying139 h
  have hl5 : cs.length = 5 := hl.trans (by kernel_rfl)
  match cs, hl5 with
  | [c0, c1, c2, c3, c4], _ =>
    have o3 : Try.prog.cellsOf 3 = 1 := by kernel_rfl
    have h0 : DataW.trod enc Try.prog w base spare held n 3 (([c0, c1, c2, c3, c4].drop 0).take (Try.prog.cellsOf 3)) = ys[0]? := hf 0 _ rfl
    have h1 : DataW.trod enc Try.prog w base spare held n 3 (([c0, c1, c2, c3, c4].drop 1).take (Try.prog.cellsOf 3)) = ys[1]? := hf 1 _ rfl
    have h2 : DataW.trod enc Try.prog w base spare held n 3 (([c0, c1, c2, c3, c4].drop 2).take (Try.prog.cellsOf 3)) = ys[2]? := hf 2 _ rfl
    have h3 : DataW.trod enc Try.prog w base spare held n 3 (([c0, c1, c2, c3, c4].drop 3).take (Try.prog.cellsOf 3)) = ys[3]? := hf 3 _ rfl
    have h4 : DataW.trod enc Try.prog w base spare held n 3 (([c0, c1, c2, c3, c4].drop 4).take (Try.prog.cellsOf 3)) = ys[4]? := hf 4 _ rfl
    rw [o3] at h0 h1 h2 h3 h4
    have e : ys.length = 5 := by assumption
    match ys, e with
    | [y0, y1, y2, y3, y4], _ =>
      replace h0 : DataW.trod enc Try.prog w base spare held n 3 [c0] = some y0 := h0
      replace h1 : DataW.trod enc Try.prog w base spare held n 3 [c1] = some y1 := h1
      replace h2 : DataW.trod enc Try.prog w base spare held n 3 [c2] = some y2 := h2
      replace h3 : DataW.trod enc Try.prog w base spare held n 3 [c3] = some y3 := h3
      replace h4 : DataW.trod enc Try.prog w base spare held n 3 [c4] = some y4 := h4
      obtain ⟨a0, b0, _, _⟩ := DataW.trod_int Try.underlying3 h0
      obtain ⟨a1, b1, _, _⟩ := DataW.trod_int Try.underlying3 h1
      obtain ⟨a2, b2, _, _⟩ := DataW.trod_int Try.underlying3 h2
      obtain ⟨a3, b3, _, _⟩ := DataW.trod_int Try.underlying3 h3
      obtain ⟨a4, b4, _, _⟩ := DataW.trod_int Try.underlying3 h4
      simp at b0 b1 b2 b3 b4
      subst b0 b1 b2 b3 b4
      exact ⟨⟨a0, a1, a2, a3, a4⟩, rfl, trivial⟩
theorem open_shifts {fuel : Nat} {cs : List Value} {x : DataW H × List MemPlace} (h : DataW.trod enc Try.prog w base spare held fuel 75 cs = some x) : ∃ v xs, cs = [v] ∧ RdK 5 shC w (fun _ => True) v xs := by
  obtain ⟨v, xs, h1, h2, _⟩ := rdK_open (Q := fun _ => True) Try.underlying75 (by kernel_rfl) (by decide) (fun n cs y hy => open_sh hy) shC_len h
  exact ⟨v, xs, h1, h2⟩
theorem open_stocks {fuel : Nat} {cs : List Value} {x : DataW H × List MemPlace} (h : DataW.trod enc Try.prog w base spare held fuel 76 cs = some x) : ∃ v xs, cs = [v] ∧ RdK 2 stC w (fun _ => True) v xs := by
  obtain ⟨v, xs, h1, h2, _⟩ := rdK_open (Q := fun _ => True) Try.underlying76 (by kernel_rfl) (by decide) (fun n cs y hy => (open_st hy).imp fun a h => ⟨h.1, trivial⟩) stC_len h
  exact ⟨v, xs, h1, h2⟩
end
end Go.Proofs.Ytlanephpmoajiaa

namespace Go.Proofs.Ytlanephpmoajiaa
open Go.RowKit Go.ChangeShapes Go.WideShapes Go.Deep
set_option linter.unusedVariables false
structure FaultWf (f : FaultD) : Prop where
  item : f.item.size ≤ maxLen
  since : (Lit.int .i64 f.since).wf = true
  until_ : (Lit.int .i64 f.until_).wf = true
section
variable {H : Type} {enc : TypeId × Value → H} {w : World} {base : Nat} {spare : Nat → Bool} {held : Bool}
set_option maxRecDepth 100000 in
theorem open_faultD {fuel : Nat} {cs : List Value} {y : DataW H × List MemPlace} (h : DataW.trod enc Try.prog w base spare held fuel 47 cs = some y) :
    ∃ f : FaultD, cs = ftC f ∧ FaultWf f := by
  obtain ⟨ys, n, _, _, hl, _, hf⟩ := DataW.trod_struct Try.underlying47 h
  have hl3 : cs.length = 3 := hl.trans (by kernel_rfl)
  match cs, hl3 with
  | [c0, c1, c2], _ =>
    have o9 : Try.prog.cellsOf 9 = 1 := by kernel_rfl
    have o3 : Try.prog.cellsOf 3 = 1 := by kernel_rfl
    have h0 : DataW.trod enc Try.prog w base spare held n 9 (([c0, c1, c2].drop 0).take (Try.prog.cellsOf 9)) = ys[0]? := hf 0 _ rfl
    rw [o9] at h0
    have h1 : DataW.trod enc Try.prog w base spare held n 3 (([c0, c1, c2].drop 1).take (Try.prog.cellsOf 3)) = ys[1]? := hf 1 _ rfl
    rw [o3] at h1
    have h2 : DataW.trod enc Try.prog w base spare held n 3 (([c0, c1, c2].drop 2).take (Try.prog.cellsOf 3)) = ys[2]? := hf 2 _ rfl
    rw [o3] at h2
    have e : ys.length = 3 := by assumption
    match ys, e with
    | [y0, y1, y2], _ =>
      replace h0 : DataW.trod enc Try.prog w base spare held n 9 [c0] = some y0 := h0
      replace h1 : DataW.trod enc Try.prog w base spare held n 3 [c1] = some y1 := h1
      replace h2 : DataW.trod enc Try.prog w base spare held n 3 [c2] = some y2 := h2
      obtain ⟨s, a1, _, a2⟩ := DataW.trod_string Try.underlying9 h0
      obtain ⟨k, b1, _, b2⟩ := DataW.trod_int Try.underlying3 h1
      obtain ⟨a, d1, _, d2⟩ := DataW.trod_int Try.underlying3 h2
      simp at a1 b1 d1
      subst a1 b1 d1
      exact ⟨⟨s, k, a⟩, rfl, a2, b2, d2⟩
theorem open_faults {fuel : Nat} {cs : List Value} {x : DataW H × List MemPlace} (h : DataW.trod enc Try.prog w base spare held fuel 98 cs = some x) :
    ∃ v xs, cs = [v] ∧ RdK 3 ftC w (fun _ => True) v xs ∧ ∀ f ∈ xs, FaultWf f :=
  rdK_open (Q := FaultWf) Try.underlying98 (by kernel_rfl) (by decide) (fun n cs y hy => open_faultD hy) ftC_len h
theorem open_u8s {fuel : Nat} {cs : List Value} {x : DataW H × List MemPlace} (h : DataW.trod enc Try.prog w base spare held fuel 33 cs = some x) :
    ∃ v xs, cs = [v] ∧ Rd (fun n : Int => Value.int .u8 n) w (fun _ => True) v xs ∧ ∀ n ∈ xs, (Lit.int .u8 n).wf = true :=
  rd_of_slice1 (f := fun n : Int => Value.int .u8 n) (Q := fun n => (Lit.int .u8 n).wf = true) Try.underlying33 (by kernel_rfl) (fun n v y hy => by
    obtain ⟨k, b1, _, b2⟩ := DataW.trod_int Try.underlying5 hy
    simp at b1
    exact ⟨k, b1, b2⟩) h
end
end Go.Proofs.Ytlanephpmoajiaa

