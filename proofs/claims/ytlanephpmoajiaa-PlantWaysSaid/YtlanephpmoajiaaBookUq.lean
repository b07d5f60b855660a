/- Entered items: names are unique, and choices stand before the item. -/
import Derived.Test.YtlanephpmoajiaaUsesPlain
namespace Go.Proofs.Ytlanephpmoajiaa
open Go.RowKit

structure BookUq (xs : List ItemD) : Prop where
  uniq : ∀ (i : Nat) (x : ItemD), xs[i]? = some x → idx xs x.name = some i
  ord : ∀ (i : Nat) (x : ItemD), xs[i]? = some x → ∀ c ∈ x.frm, ∀ nm ∈ c, ∃ j, idx xs nm = some j ∧ j < i
theorem BookUq.nil : BookUq [] := ⟨fun i x h => by simp at h, fun i x h => by simp at h⟩
theorem BookUq.enter {xs : List ItemD} {x : ItemD} (h : BookUq xs) : BookUq (entNew xs x) := by
  rcases entNew_cases xs x with ⟨hz, he⟩ | he
  · rw [he]
    have hc := chk_zero hz
    have hidx := hc.2.2.2.2.2.2.2.1
    refine ⟨fun i y hy => ?_, fun i y hy c hc' nm hnm => ?_⟩
    · rcases Nat.lt_or_ge i xs.length with hi | hi
      · rw [List.getElem?_append_left hi] at hy
        exact idx_snoc_some (h.uniq i y hy)
      · have hi' : i = xs.length := by have := (List.getElem?_eq_some_iff.1 hy).1; simp at this; omega
        subst hi'
        rw [List.getElem?_append_right (Nat.le_refl _)] at hy
        simp at hy
        subst hy
        exact idx_snoc_same hidx
    · rcases Nat.lt_or_ge i xs.length with hi | hi
      · rw [List.getElem?_append_left hi] at hy
        obtain ⟨j, h1, h2⟩ := h.ord i y hy c hc' nm hnm
        exact ⟨j, idx_snoc_some h1, h2⟩
      · have hi' : i = xs.length := by have := (List.getElem?_eq_some_iff.1 hy).1; simp at this; omega
        subst hi'
        rw [List.getElem?_append_right (Nat.le_refl _)] at hy
        simp at hy
        subst hy
        have h0 := hc.2.2.2.2.2.2.2.2 c hc'
        obtain ⟨k, hk⟩ := List.mem_iff_getElem?.1 hnm
        have hkl := (List.getElem?_eq_some_iff.1 hk).1
        have h1 := firstNZ_all h0 (chkAt xs x c k) (List.mem_map.2 ⟨k, List.mem_range.2 hkl, rfl⟩)
        cases hi : idx xs nm with
        | none => rw [chkAt_none hk hi] at h1; cases h1
        | some j => exact ⟨j, idx_snoc_some hi, idx_lt hi⟩
  · rw [he]; exact h
theorem entAll_uq (xs : List ItemD) : BookUq (entAll xs) := by
  have key : ∀ (l acc : List ItemD), BookUq acc → BookUq (l.foldl entNew acc) := by
    intro l
    induction l with
    | nil => intro acc h; exact h
    | cons x l ih => intro acc h; exact ih _ h.enter
  exact key xs [] BookUq.nil
/-- The names of places are told apart by the places. -/
theorem BookUq.inj {xs : List ItemD} (h : BookUq xs) {i j : Nat} {x y : ItemD} (hx : xs[i]? = some x) (hy : xs[j]? = some y) (he : x.name = y.name) : i = j := by
  have h1 := h.uniq i x hx
  have h2 := h.uniq j y hy
  rw [he, h2] at h1
  exact (Option.some.inj h1).symm
end Go.Proofs.Ytlanephpmoajiaa
