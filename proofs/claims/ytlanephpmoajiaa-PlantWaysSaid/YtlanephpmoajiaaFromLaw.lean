/- Plain laws: what a mark of the reference's From says. -/
import Derived.Test.YtlanephpmoajiaaSpreadLaw
namespace Go.Proofs.Ytlanephpmoajiaa
open Go.RowKit

theorem fromGo_keep {xs : List ItemD} {m : List Bool} {k : Nat} : ∀ d e, k < d → d ≤ e → (fromGo xs m e).getD k false = (fromGo xs m d).getD k false := fun d e hk he => by
  induction e with
  | zero => omega
  | succ e ih =>
    rcases Nat.lt_or_ge e d with h | h
    · obtain rfl : d = e + 1 := by omega
      rfl
    · simp only [fromGo, getD_set]
      rw [if_neg (by omega)]
      exact ih h
theorem fromGo_far {xs : List ItemD} {m : List Bool} {k : Nat} : ∀ d, d ≤ k → (fromGo xs m d).getD k false = m.getD k false
  | 0, _ => rfl
  | d + 1, h => by
    simp only [fromGo, getD_set]
    rw [if_neg (by omega)]
    exact fromGo_far d (by omega)
/-- A mark of From, out of the marks themselves. -/
theorem fromAll_mark {xs : List ItemD} {m : List Bool} (hl : m.length = xs.length) {k : Nat} (hn : k < xs.length) :
    (fromGo xs m xs.length).getD k false = (m.getD k false || (List.range k).any (fromHit xs (fromGo xs m xs.length) k)) := by
  have e1 : (fromGo xs m xs.length).getD k false = (fromGo xs m (k + 1)).getD k false := fromGo_keep _ _ (by omega) (by omega)
  have e2 : ∀ c, c < k → (fromGo xs m xs.length).getD c false = (fromGo xs m k).getD c false := fun c hc => fromGo_keep _ _ hc (by omega)
  rw [e1]
  simp only [fromGo, getD_set, fromGo_len]
  rw [if_pos ⟨trivial, by omega⟩]
  unfold fromAt
  rw [fromGo_far k (Nat.le_refl _)]
  congr 1
  rw [Bool.eq_iff_iff, List.any_eq_true, List.any_eq_true]
  constructor
  · rintro ⟨c, hc, h⟩
    refine ⟨c, hc, ?_⟩
    unfold fromHit at h ⊢
    rw [e2 c (List.mem_range.1 hc)]; exact h
  · rintro ⟨c, hc, h⟩
    refine ⟨c, hc, ?_⟩
    unfold fromHit at h ⊢
    rw [← e2 c (List.mem_range.1 hc)]; exact h
end Go.Proofs.Ytlanephpmoajiaa
