/- More words for memory: slices as sources of an append, slices of slices, items. -/
import Derived.Test.YtfondpakbiagjaaGreatDoorBase
namespace Go.Proofs.YtfondpakbiagjaaGreatDoor
open Go.RowKit
theorem info9 : (Tryz.prog.info? 9).map (fun i => (i.zero, i.size, i.bytes)) = some (some (.string ⟨#[]⟩), 1, 16) := by kernel_rfl
theorem info52 : (Tryz.prog.info? 172).map (fun i => (i.zero, i.size, i.bytes)) = some (some (.slice none 0 0), 1, 24) := by kernel_rfl

theorem Rd.nil_of {α : Type} {f : α → Value} {w : World} {S : Nat → Prop} {xs : List α} {n cap : Nat} (h : Rd f w S (.slice none n cap) xs) : xs = [] := by
  obtain ⟨A, c, he, _, _, h3⟩ := h
  by_cases h0 : xs = []
  · exact h0
  · obtain ⟨b, off, rfl, _⟩ := h3 h0
    simp at he
theorem Rd.none_ {α : Type} (f : α → Value) (w : World) (S : Nat → Prop) : Rd f w S (.slice none 0 0) [] := ⟨none, 0, rfl, Nat.le_refl _, by simp [maxLen], fun h => absurd rfl h⟩
theorem addr_add (b off j : Nat) : (⟨b, off, none⟩ : Addr).add j = ⟨b, off + j, none⟩ := by
  unfold Addr.add
  by_cases h : j = 0
  · subst h; simp
  · simp [h]
/-- The cells of a slice, in the form that an append asks of its source. -/
theorem Rd.cells {α : Type} {f : α → Value} {w : World} {S : Nat → Prop} {ad : Addr} {n cap : Nat} {xs : List α} (h : Rd f w S (.slice (some ad) n cap) xs) :
    ∀ j u, (xs.map f)[j]? = some u → w.cell? (ad.add j) = some u := by
  intro j u hu
  obtain ⟨A, c, he, _, _, h3⟩ := h
  have hne : xs ≠ [] := fun e => by subst e; simp at hu
  obtain ⟨b, off, rfl, _, hc⟩ := h3 hne
  simp only [Value.slice.injEq, Option.some.injEq] at he
  obtain ⟨rfl, _, _⟩ := he
  rw [List.getElem?_map, Option.map_eq_some_iff] at hu
  obtain ⟨x, hx, rfl⟩ := hu
  obtain ⟨hj, rfl⟩ := List.getElem?_eq_some_iff.1 hx
  rw [← hc j hj, addr_add]
theorem Rd.lt {α : Type} {f : α → Value} {w : World} {S : Nat → Prop} {v : Value} {xs : List α} (h : Rd f w S v xs) : Rd f w (fun b => S b ∧ b < w.heap.size) v xs := by
  obtain ⟨A, cap, rfl, h1, h2, h3⟩ := h
  refine ⟨A, cap, rfl, h1, h2, fun hn => ?_⟩
  obtain ⟨b, off, rfl, hb, hc⟩ := h3 hn
  exact ⟨b, off, rfl, ⟨hb, World.block_lt_of_cell? w ⟨b, off + 0, none⟩ (hc 0 (List.length_pos_iff.2 hn))⟩, hc⟩

/-- The slice value v holds slices, of which each holds a list of strings. -/
def Rd2 (w : World) (S : Nat → Prop) (v : Value) (xss : List (List ByteArray)) : Prop :=
  ∃ vs : List Value, Rd id w S v vs ∧ vs.length = xss.length ∧ ∀ (i : Nat) (x : List ByteArray), xss[i]? = some x → ∃ u : Value, vs[i]? = some u ∧ Rd .string w S u x
theorem Rd2.keep {w w' : World} {S : Nat → Prop} {v : Value} {xss : List (List ByteArray)} (h : Rd2 w S v xss) (hk : Keep S w w') : Rd2 w' S v xss := by
  obtain ⟨vs, h1, h2, h3⟩ := h
  exact ⟨vs, h1.keep hk, h2, fun i x hx => let ⟨u, h4, h5⟩ := h3 i x hx; ⟨u, h4, h5.keep hk⟩⟩
theorem Rd2.mono {w : World} {S S' : Nat → Prop} {v : Value} {xss : List (List ByteArray)} (h : Rd2 w S v xss) (hs : ∀ k, S k → S' k) : Rd2 w S' v xss := by
  obtain ⟨vs, h1, h2, h3⟩ := h
  exact ⟨vs, h1.mono hs, h2, fun i x hx => let ⟨u, h4, h5⟩ := h3 i x hx; ⟨u, h4, h5.mono hs⟩⟩
theorem Rd2.lt {w : World} {S : Nat → Prop} {v : Value} {xss : List (List ByteArray)} (h : Rd2 w S v xss) : Rd2 w (fun b => S b ∧ b < w.heap.size) v xss := by
  obtain ⟨vs, h1, h2, h3⟩ := h
  exact ⟨vs, h1.lt, h2, fun i x hx => let ⟨u, h4, h5⟩ := h3 i x hx; ⟨u, h4, h5.lt⟩⟩
/-- What a world below keeps, a reading keeps. -/
theorem Rd.below {α : Type} {f : α → Value} {w w' : World} {S : Nat → Prop} {v : Value} {xs : List α} (h : Rd f w S v xs) (hb : Below w.heap.size w w') : Rd f w' S v xs :=
  ((h.lt.mono (S' := fun b => b < w.heap.size ∧ S b) (fun _ hk => ⟨hk.2, hk.1⟩)).keep ((Keep.of_below hb).mono fun _ hk => hk.1)).mono fun _ hk => hk.2
theorem Rd2.below {w w' : World} {S : Nat → Prop} {v : Value} {xss : List (List ByteArray)} (h : Rd2 w S v xss) (hb : Below w.heap.size w w') : Rd2 w' S v xss :=
  ((h.lt.mono (S' := fun b => b < w.heap.size ∧ S b) (fun _ hk => ⟨hk.2, hk.1⟩)).keep ((Keep.of_below hb).mono fun _ hk => hk.1)).mono fun _ hk => hk.2
end Go.Proofs.YtfondpakbiagjaaGreatDoor
