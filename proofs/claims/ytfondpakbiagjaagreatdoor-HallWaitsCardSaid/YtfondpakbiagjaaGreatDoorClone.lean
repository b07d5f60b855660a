/- The walks of slices.Clone and of plant.copied. -/
import Derived.Test.YtfondpakbiagjaaGreatDoorBase2
import Derived.Deep.RegionWith
namespace Go.Proofs.YtfondpakbiagjaaGreatDoor
open Go.RowKit

theorem ownsRow_slice {w : World} {base : Nat} {e : TypeId} {size : Nat} {v : Value} {n : Nat} {xs : List Value} (h : w.ownsRow base e size v n xs) : ∃ A c, v = .slice A n c := by
  rcases h.2 with ⟨rfl, rfl⟩ | ⟨g, cap, cur, rfl, _⟩
  · exact ⟨_, _, rfl⟩
  · exact ⟨_, _, rfl⟩
theorem ownsRow_at {w : World} {base : Nat} {e : TypeId} {A : Option Addr} {n c : Nat} {xs : List Value} (h : w.ownsRow base e 1 (.slice A n c) n xs) (k : Nat) (hk : k < n) :
    ∃ g u, A = some ⟨g, 0, none⟩ ∧ base ≤ g ∧ g < w.heap.size ∧ xs[k]? = some u ∧ w.cell? ⟨g, k, none⟩ = some u ∧ w.frozen? ⟨g, k, none⟩ = false := by
  have hl := h.1
  rcases h.2 with ⟨he, h0⟩ | ⟨g, cap, cur, he, hb, hg, _⟩
  · omega
  · simp only [Value.slice.injEq] at he
    obtain ⟨rfl, _, rfl⟩ := he
    have hx : xs[k]? = some (xs[k]'(by omega)) := List.getElem?_eq_getElem (by omega)
    refine ⟨g, _, rfl, hb, (Array.getElem?_eq_some_iff.1 hg).1, hx, ?_, h.frozenAt k⟩
    rw [h.cellAt k (by omega), hx]
/-- Slices of the call's own, of which each owns a list of strings. -/
def Own2 (w : World) (B : Nat) (vf : Value) (xss : List (List ByteArray)) : Prop :=
  ∃ vs, w.ownsRow B 172 1 vf xss.length vs ∧ ∀ (i : Nat) (x : List ByteArray), xss[i]? = some x → ∃ u : Value, vs[i]? = some u ∧ w.ownsRow B 9 1 u x.length (x.map Value.string) ∧ (u.ownBlock = none ∨ u.ownBlock ≠ vf.ownBlock)

theorem ownsRow_kept_below {w w' : World} {base r : Nat} {e : TypeId} {size : Nat} {v : Value} {n : Nat} {xs : List Value} (h : w.ownsRow base e size v n xs) (hg : w.grownBy w' (some r)) (hr : r < base) : w'.ownsRow base e size v n xs := by
  refine h.kept hg ?_
  by_cases h0 : v.ownBlock = none
  · exact .inl h0
  · obtain ⟨b, hb⟩ := Option.ne_none_iff_exists'.1 h0
    refine .inr (fun e => ?_)
    have := (h.lt b hb).1
    rw [hb] at e
    have := Option.some.inj e
    omega
theorem ownsRow_mono {w : World} {base base' : Nat} {e : TypeId} {size : Nat} {v : Value} {n : Nat} {xs : List Value} (h : w.ownsRow base e size v n xs) (hb : base' ≤ base) : w.ownsRow base' e size v n xs := by
  refine ⟨h.1, h.2.imp id ?_⟩
  rintro ⟨g, cap, cur, e1, e2, e3⟩
  exact ⟨g, cap, cur, e1, by omega, e3⟩
end Go.Proofs.YtfondpakbiagjaaGreatDoor
