/- Plain laws: what a mark of spread says. -/
import Derived.Test.YtlanephpmoajiaaBookUq
import Derived.Test.YtlanephpmoajiaaRefUses
namespace Go.Proofs.Ytlanephpmoajiaa
open Go.RowKit

theorem spGo_far {xs : List ItemD} {i : Nat} {q : ItemD → Bool} {k : Nat} : ∀ d, k < i + 1 ∨ i + 1 + d ≤ k → (spGo xs i q d).getD k false = false
  | 0, _ => by simp [spGo, List.getD, List.getElem?_replicate]; split <;> rfl
  | d + 1, h => by
    simp only [spGo, getD_set]
    rw [if_neg (by omega)]
    exact spGo_far d (by omega)
theorem spGo_keep {xs : List ItemD} {i : Nat} {q : ItemD → Bool} {k : Nat} : ∀ d e, k < i + 1 + d → d ≤ e → (spGo xs i q e).getD k false = (spGo xs i q d).getD k false
  | d, e, hk, he => by
    induction e with
    | zero => obtain rfl : d = 0 := by omega
              rfl
    | succ e ih =>
      rcases Nat.lt_or_ge e d with h | h
      · obtain rfl : d = e + 1 := by omega
        rfl
      · simp only [spGo, getD_set]
        rw [if_neg (by omega)]
        exact ih h
theorem spMark_congr {xs : List ItemD} (h : BookUq xs) {i : Nat} {q : ItemD → Bool} {m m' : List Bool} {k : Nat} (hm : ∀ c, c < k → m.getD c false = m'.getD c false) : spMark xs i q m k = spMark xs i q m' k := by
  unfold spMark
  cases hx : xs[k]? with
  | none => rfl
  | some x =>
    simp only
    rw [Bool.eq_iff_iff, List.any_eq_true, List.any_eq_true]
    have key : ∀ c ∈ x.frm, ∀ nm ∈ c, spHit xs m i (q x) nm = spHit xs m' i (q x) nm := fun c hc nm hnm => by
      obtain ⟨j, hj, hjk⟩ := h.ord k x hx c hc nm hnm
      unfold spHit
      simp only [hj, hm j hjk]
    constructor
    · rintro ⟨c, hc, hh⟩
      rw [List.any_eq_true] at hh
      obtain ⟨nm, hnm, hh⟩ := hh
      exact ⟨c, hc, List.any_eq_true.2 ⟨nm, hnm, by rw [← key c hc nm hnm]; exact hh⟩⟩
    · rintro ⟨c, hc, hh⟩
      rw [List.any_eq_true] at hh
      obtain ⟨nm, hnm, hh⟩ := hh
      exact ⟨c, hc, List.any_eq_true.2 ⟨nm, hnm, by rw [key c hc nm hnm]; exact hh⟩⟩
/-- No mark up to the item itself. -/
theorem spAll_low {xs : List ItemD} {i : Nat} {q : ItemD → Bool} {k : Nat} (hk : k ≤ i) : (spAll xs i q).getD k false = false := spGo_far _ (.inl (by omega))
/-- A mark behind it, out of the marks themselves. -/
theorem spAll_mark {xs : List ItemD} (h : BookUq xs) {i : Nat} {q : ItemD → Bool} {k : Nat} (hk : i < k) (hn : k < xs.length) : (spAll xs i q).getD k false = spMark xs i q (spAll xs i q) k := by
  have e1 : (spAll xs i q).getD k false = (spGo xs i q (k - (i + 1) + 1)).getD k false := spGo_keep _ _ (by omega) (by omega)
  have e2 : ∀ c, c < k → (spAll xs i q).getD c false = (spGo xs i q (k - (i + 1))).getD c false := fun c hc => by
    exact spGo_keep _ _ (by omega) (by omega)
  rw [e1, spMark_congr h e2]
  simp only [spGo, getD_set, spGo_len]
  rw [if_pos ⟨by omega, hn⟩, show i + 1 + (k - (i + 1)) = k from by omega]
end Go.Proofs.Ytlanephpmoajiaa
