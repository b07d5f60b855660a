/- Slices whose elements take several cells each, read as lists. -/
import Derived.Test.YtfondpakbiagjaaGreatDoorBase2
namespace Go.Proofs.YtfondpakbiagjaaGreatDoor
open Go.RowKit
set_option linter.unusedVariables false
/-- The slice value v holds the list xs, k cells an element. -/
def RdK {α : Type} (k : Nat) (f : α → List Value) (w : World) (S : Nat → Prop) (v : Value) (xs : List α) : Prop :=
  ∃ A cap, v = .slice A xs.length cap ∧ xs.length ≤ cap ∧ cap ≤ maxLen ∧
    (xs ≠ [] → ∃ b off, A = some ⟨b, off, none⟩ ∧ S b ∧ ∀ (i : Nat) (x : α), xs[i]? = some x → ∀ (j : Nat) (u : Value), (f x)[j]? = some u → w.cell? ⟨b, off + i * k + j, none⟩ = some u)
section
variable {α : Type} {k : Nat} {f : α → List Value} {w w' : World} {S S' : Nat → Prop} {v : Value} {xs : List α}
theorem RdK.keep (h : RdK k f w S v xs) (hk : Keep S w w') : RdK k f w' S v xs := by
  obtain ⟨A, cap, rfl, h1, h2, h3⟩ := h
  refine ⟨A, cap, rfl, h1, h2, fun hn => ?_⟩
  obtain ⟨b, off, rfl, hb, hc⟩ := h3 hn
  exact ⟨b, off, rfl, hb, fun i x hx j u hu => (hk.cell (p := ⟨b, _, none⟩) hb).trans (hc i x hx j u hu)⟩
theorem RdK.mono (h : RdK k f w S v xs) (hs : ∀ k, S k → S' k) : RdK k f w S' v xs := by
  obtain ⟨A, cap, rfl, h1, h2, h3⟩ := h
  refine ⟨A, cap, rfl, h1, h2, fun hn => ?_⟩
  obtain ⟨b, off, rfl, hb, hc⟩ := h3 hn
  exact ⟨b, off, rfl, hs b hb, hc⟩
theorem RdK.lt (h : RdK k f w S v xs) (hf : ∀ x, ∃ u, (f x)[0]? = some u) : RdK k f w (fun b => S b ∧ b < w.heap.size) v xs := by
  obtain ⟨A, cap, rfl, h1, h2, h3⟩ := h
  refine ⟨A, cap, rfl, h1, h2, fun hn => ?_⟩
  obtain ⟨b, off, rfl, hb, hc⟩ := h3 hn
  obtain ⟨x, l, rfl⟩ := List.exists_cons_of_ne_nil hn
  obtain ⟨u, hu⟩ := hf x
  exact ⟨b, off, rfl, ⟨hb, World.block_lt_of_cell? w ⟨b, _, none⟩ (hc 0 x rfl 0 u hu)⟩, hc⟩
theorem RdK.below (h : RdK k f w S v xs) (hf : ∀ x, ∃ u, (f x)[0]? = some u) (hb : Below w.heap.size w w') : RdK k f w' S v xs :=
  (((h.lt hf).mono (S' := fun b => b < w.heap.size ∧ S b) (fun _ hk => ⟨hk.2, hk.1⟩)).keep ((Keep.of_below hb).mono fun _ hk => hk.1)).mono fun _ hk => hk.2
theorem RdK.open_ (h : RdK k f w S v xs) : ∃ A n cap, v = .slice A n cap ∧ xs.length = n ∧ n ≤ cap ∧ n ≤ 9223372036854775807 ∧
    (∀ i, i < n → ∃ b off x, A = some ⟨b, off, none⟩ ∧ S b ∧ xs[i]? = some x ∧ ∀ (j : Nat) (u : Value), (f x)[j]? = some u → w.cell? ⟨b, off + i * k + j, none⟩ = some u) := by
  obtain ⟨A, cap, rfl, h1, h2, h3⟩ := h
  refine ⟨A, xs.length, cap, rfl, rfl, h1, by unfold maxLen at h2; omega, fun i hi => ?_⟩
  obtain ⟨b, off, rfl, hb, hc⟩ := h3 (fun e => by subst e; simp at hi)
  exact ⟨b, off, _, rfl, hb, List.getElem?_eq_getElem hi, hc i _ (List.getElem?_eq_getElem hi)⟩
theorem flat_len (hf : ∀ x, (f x).length = k) : ∀ (xs : List α), (xs.flatMap f).length = xs.length * k
  | [] => by simp
  | x :: xs => by rw [List.flatMap_cons, List.length_append, hf, flat_len hf xs, List.length_cons, Nat.add_mul]; omega
theorem flat_at (hf : ∀ x, (f x).length = k) : ∀ (xs : List α) (i : Nat) (x : α), xs[i]? = some x → ∀ (j : Nat) (u : Value), (f x)[j]? = some u → (xs.flatMap f)[i * k + j]? = some u
  | [], i, x, h, _, _, _ => by simp at h
  | y :: xs, 0, x, h, j, u, hu => by
    simp only [List.getElem?_cons_zero, Option.some.injEq] at h
    subst h
    rw [List.flatMap_cons, Nat.zero_mul, Nat.zero_add, List.getElem?_append_left (List.getElem?_eq_some_iff.1 hu).1, hu]
  | y :: xs, i + 1, x, h, j, u, hu => by
    simp only [List.getElem?_cons_succ] at h
    rw [List.flatMap_cons, List.getElem?_append_right (by rw [hf, Nat.add_mul]; omega), hf, show (i + 1) * k + j - k = i * k + j from by rw [Nat.add_mul]; omega]
    exact flat_at hf xs i x h j u hu
theorem RdK.of_own {base : Nat} {e : TypeId} {n : Nat} (hf : ∀ x, (f x).length = k) (h : w.ownsRow base e k v n (xs.flatMap f)) (hn : xs.length = n) : RdK k f w (base ≤ ·) v xs := by
  rcases h.2 with ⟨rfl, rfl⟩ | ⟨g, cap, cur, rfl, hb, hg, h1, h2, h3, h4⟩
  · exact ⟨none, 0, by rw [hn], by omega, by simp [maxLen], fun h0 => absurd (List.length_eq_zero_iff.1 hn) h0⟩
  · refine ⟨_, cap, by rw [hn], by omega, h2, fun _ => ⟨g, 0, rfl, hb, fun i x hx j u hu => ?_⟩⟩
    have hat := flat_at hf xs i x hx j u hu
    have hlt := (List.getElem?_eq_some_iff.1 hat).1
    have hc := h.cellAt (i * k + j) (by rw [flat_len hf] at hlt; rw [← hn]; exact hlt)
    rw [Nat.zero_add, hc, hat]
end
end Go.Proofs.YtfondpakbiagjaaGreatDoor
