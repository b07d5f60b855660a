/- Slices of items that came in: what they read as. -/
import Derived.Test.YtlanephpmoajiaaBook
import Derived.Deep.Slices
import Derived.Deep.Fields
import Derived.ChangeSame
import Derived.OpenShut
namespace Go.Proofs.Ytlanephpmoajiaa
open Go.RowKit Go.ChangeShapes Go.WideShapes Go.Deep

/-- The slice value v holds the items xs, of four cells each, in blocks of S. -/
def RdI (w : World) (S : Nat → Prop) (v : Value) (xs : List ItemD) : Prop :=
  ∃ A cap, v = .slice A xs.length cap ∧ xs.length ≤ cap ∧ cap ≤ maxLen ∧
    (xs ≠ [] → ∃ b off, A = some ⟨b, off, none⟩ ∧ S b ∧ ∀ i x, xs[i]? = some x → w.cell? ⟨b, off + i * 4, none⟩ = some (.string x.name) ∧ w.cell? ⟨b, off + i * 4 + 1, none⟩ = some (.int .i64 x.kind) ∧
      w.cell? ⟨b, off + i * 4 + 2, none⟩ = some (.int .i64 x.at_) ∧ ∃ f, w.cell? ⟨b, off + i * 4 + 3, none⟩ = some f ∧ Rd2 w S f x.frm)
theorem RdI.keep {w w' : World} {S : Nat → Prop} {v : Value} {xs : List ItemD} (h : RdI w S v xs) (hk : Keep S w w') : RdI w' S v xs := by
  obtain ⟨A, cap, rfl, h1, h2, h3⟩ := h
  refine ⟨A, cap, rfl, h1, h2, fun hn => ?_⟩
  obtain ⟨b, off, rfl, hb, hc⟩ := h3 hn
  refine ⟨b, off, rfl, hb, fun i x hx => ?_⟩
  obtain ⟨c0, c1, c2, f, c3, hf⟩ := hc i x hx
  exact ⟨(hk.cell (p := ⟨b, _, none⟩) hb).trans c0, (hk.cell (p := ⟨b, _, none⟩) hb).trans c1, (hk.cell (p := ⟨b, _, none⟩) hb).trans c2, f, (hk.cell (p := ⟨b, _, none⟩) hb).trans c3, hf.keep hk⟩
theorem RdI.mono {w : World} {S S' : Nat → Prop} {v : Value} {xs : List ItemD} (h : RdI w S v xs) (hs : ∀ k, S k → S' k) : RdI w S' v xs := by
  obtain ⟨A, cap, rfl, h1, h2, h3⟩ := h
  refine ⟨A, cap, rfl, h1, h2, fun hn => ?_⟩
  obtain ⟨b, off, rfl, hb, hc⟩ := h3 hn
  refine ⟨b, off, rfl, hs b hb, fun i x hx => ?_⟩
  obtain ⟨c0, c1, c2, f, c3, hf⟩ := hc i x hx
  exact ⟨c0, c1, c2, f, c3, hf.mono hs⟩
theorem RdI.lt {w : World} {S : Nat → Prop} {v : Value} {xs : List ItemD} (h : RdI w S v xs) : RdI w (fun b => S b ∧ b < w.heap.size) v xs := by
  obtain ⟨A, cap, rfl, h1, h2, h3⟩ := h
  refine ⟨A, cap, rfl, h1, h2, fun hn => ?_⟩
  obtain ⟨b, off, rfl, hb, hc⟩ := h3 hn
  obtain ⟨x, l, rfl⟩ := List.exists_cons_of_ne_nil hn
  refine ⟨b, off, rfl, ⟨hb, World.block_lt_of_cell? w ⟨b, _, none⟩ (hc 0 x rfl).1⟩, fun i x hx => ?_⟩
  obtain ⟨c0, c1, c2, f, c3, hf⟩ := hc i x hx
  exact ⟨c0, c1, c2, f, c3, hf.lt⟩
theorem RdI.below {w w' : World} {S : Nat → Prop} {v : Value} {xs : List ItemD} (h : RdI w S v xs) (hb : Below w.heap.size w w') : RdI w' S v xs :=
  ((h.lt.mono (S' := fun b => b < w.heap.size ∧ S b) (fun _ hk => ⟨hk.2, hk.1⟩)).keep ((Keep.of_below hb).mono fun _ hk => hk.1)).mono fun _ hk => hk.2
/-- Opened for a walk. -/
theorem RdI.open_ {w : World} {S : Nat → Prop} {v : Value} {xs : List ItemD} (h : RdI w S v xs) :
    ∃ A n cap, v = .slice A n cap ∧ xs.length = n ∧ n ≤ cap ∧ n ≤ 9223372036854775807 ∧
      (∀ k, k < n → ∃ b off x f, A = some ⟨b, off, none⟩ ∧ S b ∧ xs[k]? = some x ∧ w.cell? ⟨b, off + k * 4, none⟩ = some (.string x.name) ∧ w.cell? ⟨b, off + k * 4 + 1, none⟩ = some (.int .i64 x.kind) ∧
        w.cell? ⟨b, off + k * 4 + 2, none⟩ = some (.int .i64 x.at_) ∧ w.cell? ⟨b, off + k * 4 + 3, none⟩ = some f ∧ Rd2 w S f x.frm) := by
  obtain ⟨A, cap, rfl, h1, h2, h3⟩ := h
  refine ⟨A, xs.length, cap, rfl, rfl, h1, by unfold maxLen at h2; omega, fun k hk => ?_⟩
  obtain ⟨b, off, rfl, hb, hc⟩ := h3 (fun e => by subst e; simp at hk)
  obtain ⟨c0, c1, c2, f, c3, hf⟩ := hc k _ (List.getElem?_eq_getElem hk)
  exact ⟨b, off, _, f, rfl, hb, List.getElem?_eq_getElem hk, c0, c1, c2, c3, hf⟩

/-- An item that came in fits its kinds. -/
structure ItemWf (x : ItemD) : Prop where
  name : x.name.size ≤ maxLen
  kind : (Lit.int .i64 x.kind).wf = true
  at_ : (Lit.int .i64 x.at_).wf = true
  frm : ∀ c ∈ x.frm, ∀ s ∈ c, s.size ≤ maxLen

theorem list_of_lt {α : Type} {P : Nat → α → Prop} {n : Nat} (h : ∀ i, i < n → ∃ a, P i a) : ∃ xs : List α, xs.length = n ∧ ∀ (i : Nat) (x : α), xs[i]? = some x → P i x := by
  induction n with
  | zero => exact ⟨[], rfl, fun i x h => by simp at h⟩
  | succ k ih =>
    obtain ⟨ys, hl, hy⟩ := ih fun i hi => h i (by omega)
    obtain ⟨a, ha⟩ := h k (by omega)
    refine ⟨ys ++ [a], by simp [hl], fun i z hz => ?_⟩
    rcases Nat.lt_or_ge i ys.length with hi | hi
    · rw [List.getElem?_append_left hi] at hz; exact hy i z hz
    · have hi' : i = ys.length := by have := (List.getElem?_eq_some_iff.1 hz).1; simp at this; omega
      subst hi'
      rw [List.getElem?_append_right (Nat.le_refl _)] at hz
      simp at hz
      subst hz
      rw [hl]
      exact ha
section
variable {H : Type} {enc : TypeId × Value → H} {w : World} {base : Nat} {spare : Nat → Bool} {held : Bool}
theorem rd_of_slice1 {α : Type} {f : α → Value} {Q : α → Prop} {t e : TypeId} {fuel : Nat} {cs : List Value} {x : DataW H × List MemPlace} (ht : Try.prog.underlying t = some (.slice e)) (hc : Try.prog.cellsOf e = 1)
    (hel : ∀ n v y, DataW.trod enc Try.prog w base spare held n e [v] = some y → ∃ a, v = f a ∧ Q a) (h : DataW.trod enc Try.prog w base spare held fuel t cs = some x) :
    ∃ v xs, cs = [v] ∧ Rd f w (fun _ => True) v xs ∧ ∀ a ∈ xs, Q a := by
  rcases open_slice1 ht hc h with ⟨rfl, _⟩ | ⟨a, len, cap, m, n, V, D, Pl, rfl, hb, hl, hcm, hm, _, hx⟩
  · exact ⟨_, [], rfl, Rd.none_ _ _ _, by simp⟩
  · have hlm : len ≤ m := by rw [hm]; split <;> omega
    have hA : ∀ i, i < len → ∃ a', V i = f a' ∧ Q a' := fun i hi => hel n _ _ (hx i (by omega)).2
    obtain ⟨xs, hxl, hxs'⟩ := list_of_lt hA
    have hxs : ∀ i (h : i < xs.length), V i = f xs[i] ∧ Q xs[i] := fun i h => hxs' i _ (List.getElem?_eq_getElem h)
    refine ⟨_, xs, rfl, ⟨some a, cap, by rw [hxl], by omega, hcm, fun hne => ?_⟩, fun y hy => ?_⟩
    · have h0 : 0 < len := by rw [← hxl]; exact List.length_pos_iff.2 hne
      obtain ⟨b, off, spot⟩ := a
      have hs : spot = none := by simpa [Addr.add] using World.cell?_spot (hx 0 (by omega)).1
      subst hs
      refine ⟨b, off, rfl, trivial, fun i hi => ?_⟩
      have := (hx i (by omega)).1
      rw [addr_add] at this
      rw [this, (hxs i hi).1]
    · obtain ⟨i, hi, rfl⟩ := List.mem_iff_getElem.1 hy
      exact (hxs i hi).2
theorem open_strs {fuel : Nat} {cs : List Value} {x : DataW H × List MemPlace} (h : DataW.trod enc Try.prog w base spare held fuel 52 cs = some x) :
    ∃ v xs, cs = [v] ∧ Rd .string w (fun _ => True) v xs ∧ ∀ s ∈ xs, s.size ≤ maxLen :=
  rd_of_slice1 (f := Value.string) (Q := fun s => s.size ≤ maxLen) Try.underlying52 (by kernel_rfl) (fun n v y hy => by
    obtain ⟨s, h1, _, h2⟩ := DataW.trod_string Try.underlying9 hy
    simp at h1
    exact ⟨s, h1, h2⟩) h
theorem rd2_of {v : Value} {vs : List Value} {S : Nat → Prop} {Q : List ByteArray → Prop} (h : Rd id w S v vs) (hq : ∀ u ∈ vs, ∃ x, Rd .string w S u x ∧ Q x) : ∃ xss, Rd2 w S v xss ∧ ∀ x ∈ xss, Q x := by
  obtain ⟨xss, hl, hx⟩ := list_of_lt (n := vs.length) (P := fun i (x : List ByteArray) => (∃ u : Value, vs[i]? = some u ∧ Rd .string w S u x) ∧ Q x) fun i hi => by
    obtain ⟨x, h1, h2⟩ := hq _ (List.getElem_mem hi)
    exact ⟨x, ⟨_, List.getElem?_eq_getElem hi, h1⟩, h2⟩
  refine ⟨xss, ⟨vs, h, hl.symm, fun i x hi => (hx i x hi).1⟩, fun x hm => ?_⟩
  obtain ⟨i, hi, rfl⟩ := List.mem_iff_getElem.1 hm
  exact (hx i _ (List.getElem?_eq_getElem hi)).2
theorem open_strs2 {fuel : Nat} {cs : List Value} {x : DataW H × List MemPlace} (h : DataW.trod enc Try.prog w base spare held fuel 23 cs = some x) :
    ∃ v xss, cs = [v] ∧ Rd2 w (fun _ => True) v xss ∧ ∀ c ∈ xss, ∀ s ∈ c, s.size ≤ maxLen := by
  obtain ⟨v, vs, rfl, h1, h2⟩ := rd_of_slice1 (f := id) (Q := fun u => ∃ x, Rd .string w (fun _ => True) u x ∧ ∀ s ∈ x, s.size ≤ maxLen) Try.underlying23 (by kernel_rfl) (fun n v y hy => by
    obtain ⟨u, xs, h1, h2, h3⟩ := open_strs hy
    simp at h1
    subst h1
    exact ⟨v, rfl, xs, h2, h3⟩) h
  obtain ⟨xss, h3, h4⟩ := rd2_of h1 h2
  exact ⟨v, xss, rfl, h3, h4⟩
set_option maxRecDepth 100000 in
/-- The four cells of an item. -/
theorem open_item {fuel : Nat} {cs : List Value} {y : DataW H × List MemPlace} (h : DataW.trod enc Try.prog w base spare held fuel 25 cs = some y) :
    ∃ x f, cs = [.string x.name, .int .i64 x.kind, .int .i64 x.at_, f] ∧ Rd2 w (fun _ => True) f x.frm ∧ ItemWf x := by
  obtain ⟨ys, n, _, _, hl, _, hf⟩ := DataW.trod_struct Try.underlying25 h
  have hl4 : cs.length = 4 := hl.trans (by kernel_rfl)
  match cs, hl4 with
  | [c0, c1, c2, c3], _ =>
    have o9 : Try.prog.cellsOf 9 = 1 := by kernel_rfl
    have o3 : Try.prog.cellsOf 3 = 1 := by kernel_rfl
    have o23 : Try.prog.cellsOf 23 = 1 := by kernel_rfl
    have h0 : DataW.trod enc Try.prog w base spare held n 9 (([c0, c1, c2, c3].drop 0).take (Try.prog.cellsOf 9)) = ys[0]? := hf 0 _ rfl
    rw [o9] at h0
    have h1 : DataW.trod enc Try.prog w base spare held n 3 (([c0, c1, c2, c3].drop 1).take (Try.prog.cellsOf 3)) = ys[1]? := hf 1 _ rfl
    rw [o3] at h1
    have h2 : DataW.trod enc Try.prog w base spare held n 3 (([c0, c1, c2, c3].drop 2).take (Try.prog.cellsOf 3)) = ys[2]? := hf 2 _ rfl
    rw [o3] at h2
    have h3 : DataW.trod enc Try.prog w base spare held n 23 (([c0, c1, c2, c3].drop 3).take (Try.prog.cellsOf 23)) = ys[3]? := hf 3 _ rfl
    rw [o23] at h3
    have e : ys.length = 4 := by assumption
    match ys, e with
    | [y0, y1, y2, y3], _ =>
      replace h0 : DataW.trod enc Try.prog w base spare held n 9 [c0] = some y0 := h0
      replace h1 : DataW.trod enc Try.prog w base spare held n 3 [c1] = some y1 := h1
      replace h2 : DataW.trod enc Try.prog w base spare held n 3 [c2] = some y2 := h2
      replace h3 : DataW.trod enc Try.prog w base spare held n 23 [c3] = some y3 := h3
      obtain ⟨s, a1, _, a2⟩ := DataW.trod_string Try.underlying9 h0
      obtain ⟨k, b1, _, b2⟩ := DataW.trod_int Try.underlying3 h1
      obtain ⟨a, d1, _, d2⟩ := DataW.trod_int Try.underlying3 h2
      obtain ⟨v, xss, e1, e2, e3⟩ := open_strs2 h3
      simp at a1 b1 d1 e1
      subst a1 b1 d1 e1
      exact ⟨⟨s, k, a, xss⟩, c3, rfl, e2, ⟨a2, b2, d2, e3⟩⟩
theorem open_items {fuel : Nat} {cs : List Value} {y : DataW H × List MemPlace} (h : DataW.trod enc Try.prog w base spare held fuel 27 cs = some y) :
    ∃ v xs, cs = [v] ∧ RdI w (fun _ => True) v xs ∧ ∀ x ∈ xs, ItemWf x := by
  rcases open_slice Try.underlying27 h with ⟨rfl, _⟩ | ⟨a, len, cap, m, n, D, Pl, rfl, hb, hl, hcm, hm, _, hx⟩
  · exact ⟨_, [], rfl, ⟨none, 0, rfl, Nat.le_refl _, by simp [maxLen], fun h => absurd rfl h⟩, by simp⟩
  · have o25 : Try.prog.cellsOf 25 = 4 := by kernel_rfl
    rw [o25] at hx
    have hlm : len ≤ m := by rw [hm]; split <;> omega
    have hA : ∀ i, i < len → ∃ x f, w.cells? base (a.add (i * 4)) 4 = some [.string x.name, .int .i64 x.kind, .int .i64 x.at_, f] ∧ Rd2 w (fun _ => True) f x.frm ∧ ItemWf x := fun i hi => by
      obtain ⟨cs', h1, h2⟩ := hx i (by omega)
      obtain ⟨x, f, rfl, h3, h4⟩ := open_item h2
      exact ⟨x, f, h1, h3, h4⟩
    obtain ⟨xs, hxl, hxs'⟩ := list_of_lt hA
    have hxs : ∀ i x, xs[i]? = some x → (∃ f, w.cells? base (a.add (i * 4)) 4 = some [.string x.name, .int .i64 x.kind, .int .i64 x.at_, f] ∧ Rd2 w (fun _ => True) f x.frm) ∧ ItemWf x := fun i x hi => let ⟨f, h1, h2, h3⟩ := hxs' i x hi; ⟨⟨f, h1, h2⟩, h3⟩
    refine ⟨_, xs, rfl, ⟨some a, cap, by rw [hxl], by omega, hcm, fun hne => ?_⟩, fun y hy => ?_⟩
    · obtain ⟨x, l, hxx⟩ := List.exists_cons_of_ne_nil hne
      obtain ⟨b, off, spot⟩ := a
      have hs : spot = none := by
        obtain ⟨⟨f, h1, _⟩, _⟩ := hxs 0 x (by rw [hxx]; rfl)
        have := (World.cells?_some h1).2.2 0 (by omega)
        simpa [Addr.add] using World.cell?_spot this
      subst hs
      refine ⟨b, off, rfl, trivial, fun i x hi => ?_⟩
      obtain ⟨⟨f, h1, h2⟩, _⟩ := hxs i x hi
      have hc := (World.cells?_some h1).2.2
      have c0 := hc 0 (by omega); have c1 := hc 1 (by omega); have c2 := hc 2 (by omega); have c3 := hc 3 (by omega)
      simp only [addr_add, Nat.add_zero] at c0 c1 c2 c3
      exact ⟨c0, c1, c2, f, c3, h2⟩
    · obtain ⟨i, hi, rfl⟩ := List.mem_iff_getElem.1 hy
      exact (hxs i _ (List.getElem?_eq_getElem hi)).2
end
end Go.Proofs.Ytlanephpmoajiaa
