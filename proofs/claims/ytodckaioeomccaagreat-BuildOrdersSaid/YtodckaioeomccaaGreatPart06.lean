/- Slices of steps that came in: what they read as. -/
import Derived.Test.YtodckaioeomccaaGreatPart05
import Derived.Test.YtodckaioeomccaaGreatPart02
namespace Go.Proofs.YtodckaioeomccaaGreat
open Go.RowKit Go.ChangeShapes Go.WideShapes Go.Deep Go.Proofs.OrdS
set_option linter.unusedVariables false
/-- A list of names in memory. -/
def RdB (w : World) (v : Value) (l : List ByteArray) : Prop := Rd Value.string w (fun _ => True) v l
theorem RdB.below {w w' : World} {v : Value} {l : List ByteArray} (h : RdB w v l) (hb : Below w.heap.size w w') : RdB w' v l := Rd.below h hb
/-- The slice value v holds the steps xs, of two cells each. -/
def RdT (w : World) (v : Value) (xs : List StepD) : Prop :=
  ∃ A cap, v = .slice A xs.length cap ∧ xs.length ≤ cap ∧ cap ≤ maxLen ∧
    (xs ≠ [] → ∃ b off, A = some ⟨b, off, none⟩ ∧ ∀ i x, xs[i]? = some x → w.cell? ⟨b, off + i * 2, none⟩ = some (.string x.name) ∧ ∃ f, w.cell? ⟨b, off + i * 2 + 1, none⟩ = some f ∧ RdB w f x.after)
theorem RdT.below {w w' : World} {v : Value} {xs : List StepD} (h : RdT w v xs) (hb : Below w.heap.size w w') : RdT w' v xs := by
  obtain ⟨A, cap, rfl, h1, h2, h3⟩ := h
  refine ⟨A, cap, rfl, h1, h2, fun hn => ?_⟩
  obtain ⟨b, off, rfl, hc⟩ := h3 hn
  refine ⟨b, off, rfl, fun i x hx => ?_⟩
  obtain ⟨c0, f, c1, hf⟩ := hc i x hx
  exact ⟨(hb.cell (p := ⟨b, _, none⟩) (World.block_lt_of_cell? w ⟨b, _, none⟩ c0)).trans c0, f, (hb.cell (p := ⟨b, _, none⟩) (World.block_lt_of_cell? w ⟨b, _, none⟩ c1)).trans c1, hf.below hb⟩
/-- Opened for a walk. -/
theorem RdT.open_ {w : World} {v : Value} {xs : List StepD} (h : RdT w v xs) :
    ∃ A n cap, v = .slice A n cap ∧ xs.length = n ∧ n ≤ cap ∧ n ≤ 9223372036854775807 ∧ cap ≤ maxLen ∧
      (∀ k, k < n → ∃ b off x f, A = some ⟨b, off, none⟩ ∧ b < w.heap.size ∧ xs[k]? = some x ∧ w.cell? ⟨b, off + k * 2, none⟩ = some (.string x.name) ∧ w.cell? ⟨b, off + k * 2 + 1, none⟩ = some f ∧ RdB w f x.after) := by
  obtain ⟨A, cap, rfl, h1, h2, h3⟩ := h
  refine ⟨A, xs.length, cap, rfl, rfl, h1, by unfold maxLen at h2; omega, h2, fun k hk => ?_⟩
  obtain ⟨b, off, rfl, hc⟩ := h3 (fun e => by subst e; simp at hk)
  obtain ⟨c0, f, c1, hf⟩ := hc k _ (List.getElem?_eq_getElem hk)
  exact ⟨b, off, _, f, rfl, World.block_lt_of_cell? w ⟨b, _, none⟩ c0, List.getElem?_eq_getElem hk, c0, c1, hf⟩
/-- A step that came in. -/
structure StepWf (x : StepD) : Prop where
  name : x.name.size ≤ maxLen
  after : ∀ s ∈ x.after, s.size ≤ maxLen
section
variable {H : Type} {enc : TypeId × Value → H} {w : World} {base : Nat} {spare : Nat → Bool} {held : Bool}
theorem open_strs {fuel : Nat} {cs : List Value} {x : DataW H × List MemPlace} (h : DataW.trod enc Tryz.prog w base spare held fuel 99 cs = some x) :
    ∃ v xs, cs = [v] ∧ RdB w v xs ∧ ∀ s ∈ xs, s.size ≤ maxLen :=
  rd_of_slice1 (f := Value.string) (Q := fun s => s.size ≤ maxLen) Tryz.underlying99 (by kernel_rfl) (fun n v y hy => by
    obtain ⟨s, h1, _, h2⟩ := DataW.trod_string Tryz.underlying9 hy
    simp at h1
    exact ⟨s, h1, h2⟩) h
set_option maxRecDepth 100000 in
/-- The two cells of a step. -/
theorem open_step {fuel : Nat} {cs : List Value} {y : DataW H × List MemPlace} (h : DataW.trod enc Tryz.prog w base spare held fuel 101 cs = some y) :
    ∃ x f, cs = [.string x.name, f] ∧ RdB w f x.after ∧ StepWf x := by
  obtain ⟨ys, n, _, _, hl, _, hf⟩ := DataW.trod_struct Tryz.underlying101 h
  have hl2 : cs.length = 2 := hl.trans (by kernel_rfl)
  match cs, hl2 with
  | [c0, c1], _ =>
    have o9 : Tryz.prog.cellsOf 9 = 1 := by kernel_rfl
    have o99 : Tryz.prog.cellsOf 99 = 1 := by kernel_rfl
    have h0 : DataW.trod enc Tryz.prog w base spare held n 9 (([c0, c1].drop 0).take (Tryz.prog.cellsOf 9)) = ys[0]? := hf 0 _ rfl
    rw [o9] at h0
    have h1 : DataW.trod enc Tryz.prog w base spare held n 99 (([c0, c1].drop 1).take (Tryz.prog.cellsOf 99)) = ys[1]? := hf 1 _ rfl
    rw [o99] at h1
    have e : ys.length = 2 := by assumption
    match ys, e with
    | [y0, y1], _ =>
      replace h0 : DataW.trod enc Tryz.prog w base spare held n 9 [c0] = some y0 := h0
      replace h1 : DataW.trod enc Tryz.prog w base spare held n 99 [c1] = some y1 := h1
      obtain ⟨s, a1, _, a2⟩ := DataW.trod_string Tryz.underlying9 h0
      obtain ⟨v, xs, e1, e2, e3⟩ := open_strs h1
      simp at a1 e1
      subst a1 e1
      exact ⟨⟨s, xs⟩, c1, rfl, e2, ⟨a2, e3⟩⟩
theorem open_steps {fuel : Nat} {cs : List Value} {y : DataW H × List MemPlace} (h : DataW.trod enc Tryz.prog w base spare held fuel 97 cs = some y) :
    ∃ v xs, cs = [v] ∧ RdT w v xs ∧ ∀ x ∈ xs, StepWf x := by
  rcases open_slice Tryz.underlying97 h with ⟨rfl, _⟩ | ⟨a, len, cap, m, n, D, Pl, rfl, hb, hl, hcm, hm, _, hx⟩
  · exact ⟨_, [], rfl, ⟨none, 0, rfl, Nat.le_refl _, by simp [maxLen], fun h => absurd rfl h⟩, by simp⟩
  · have o2 : Tryz.prog.cellsOf 101 = 2 := by kernel_rfl
    rw [o2] at hx
    have hlm : len ≤ m := by rw [hm]; split <;> omega
    have hA : ∀ i, i < len → ∃ x f, w.cells? base (a.add (i * 2)) 2 = some [.string x.name, f] ∧ RdB w f x.after ∧ StepWf x := fun i hi => by
      obtain ⟨cs', h1, h2⟩ := hx i (by omega)
      obtain ⟨x, f, rfl, h3, h4⟩ := open_step h2
      exact ⟨x, f, h1, h3, h4⟩
    obtain ⟨xs, hxl, hxs'⟩ := list_of_lt hA
    have hxs : ∀ i x, xs[i]? = some x → (∃ f, w.cells? base (a.add (i * 2)) 2 = some [.string x.name, f] ∧ RdB w f x.after) ∧ StepWf x := fun i x hi => let ⟨f, h1, h2, h3⟩ := hxs' i x hi; ⟨⟨f, h1, h2⟩, h3⟩
    refine ⟨_, xs, rfl, ⟨some a, cap, by rw [hxl], by omega, hcm, fun hne => ?_⟩, fun y hy => ?_⟩
    · obtain ⟨x, l, hxx⟩ := List.exists_cons_of_ne_nil hne
      obtain ⟨b, off, spot⟩ := a
      have hs : spot = none := by
        obtain ⟨⟨f, h1, _⟩, _⟩ := hxs 0 x (by rw [hxx]; rfl)
        have := (World.cells?_some h1).2.2 0 (by omega)
        simpa [Addr.add] using World.cell?_spot this
      subst hs
      refine ⟨b, off, rfl, fun i x hi => ?_⟩
      obtain ⟨⟨f, h1, h2⟩, _⟩ := hxs i x hi
      have hc := (World.cells?_some h1).2.2
      have c0 := hc 0 (by omega); have c1 := hc 1 (by omega)
      simp only [addr_add, Nat.add_zero] at c0 c1
      exact ⟨c0, f, c1, h2⟩
    · obtain ⟨i, hi, rfl⟩ := List.mem_iff_getElem.1 hy
      exact (hxs i _ (List.getElem?_eq_getElem hi)).2
end
end Go.Proofs.YtodckaioeomccaaGreat
