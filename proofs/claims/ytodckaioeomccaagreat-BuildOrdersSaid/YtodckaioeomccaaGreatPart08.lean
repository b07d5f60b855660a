/- A set of names that the call made, as a map from names to bools. -/
import Derived.Test.YtodckaioeomccaaGreatPart07
import Derived.StringKeys
import Derived.Maps.Own
import Derived.Maps.OwnOps
import Derived.Maps.OwnSet
import Derived.Maps.Views
namespace Go.Proofs.YtodckaioeomccaaGreat
open Go.RowKit Go.Maps Go.WideMaps
set_option linter.unusedVariables false
theorem ba_inj {a b : ByteArray} (h : a.data.toList = b.data.toList) : a = b := by
  cases a with | mk a => cases b with | mk b => congr 1; exact Array.toList_inj.1 h

theorem keyed9 : Keyed Tryz.prog 9 := string_keyed Tryz.underlying9
theorem zero4 (w : World) : (zeroValue 4).run Tryz.prog w = .ok (.bool false) w := by kernel_rfl
theorem plainElem_bool_inv {H : Type} {P : Program} {e : TypeId} (he : P.underlying e = some .bool) {v : Value} {z : DataW H × List MemPlace} (h : plainElem P e v = some z) : ∃ b, v = .bool b ∧ z = (.lit (.bool b), []) := by
  unfold plainElem at h
  rw [he] at h
  cases v <;> simp at h
  exact ⟨_, rfl, h.symm⟩
/-- Block b is a map of at most c entries that leads a name to true if m does, and else to false or nowhere. -/
def SetIs (w : World) (b c : Nat) (m : ByteArray → Bool) : Prop :=
  ∃ (n : Nat) (D : DataW Unit), w.ownsMap Tryz.prog 9 (plainElem Tryz.prog 4) b n D ∧ n ≤ c ∧ IsMap D ∧ ∀ nm : ByteArray, D.atKey (.string nm.data.toList) (.lit (.bool false)) = .lit (.bool (m nm))
theorem SetIs.same {w w' : World} {b c : Nat} {m : ByteArray → Bool} (h : SetIs w b c m) (hb : w'.heap[b]? = w.heap[b]?) : SetIs w' b c m := by
  obtain ⟨n, D, ⟨es, clock, h1, h2⟩, h3⟩ := h
  exact ⟨n, D, ⟨es, clock, hb.trans h1, h2⟩, h3⟩
theorem SetIs.lt {w : World} {b c : Nat} {m : ByteArray → Bool} (h : SetIs w b c m) : b < w.heap.size := let ⟨_, _, h, _⟩ := h; h.lt
theorem SetIs.made (w : World) : SetIs (w.alloc (.map #[] 0)) w.heap.size 0 (fun _ => false) :=
  ⟨0, .map [], World.ownsMap_made _ _ _ _, Nat.le_refl _, isMap_empty, fun _ => rfl⟩
theorem SetIs.look {w : World} {b c : Nat} {m : ByteArray → Bool} {nm : ByteArray} (h : SetIs w b c m) (hnm : nm.size ≤ maxLen) : (Instr.lookup 220 (.map (some b)) (.string nm) false).run Tryz.prog w = .ok (.bool (m nm)) w := by
  have hk : keyOf Tryz.prog 9 (.string nm) = some (.string nm.data.toList) := keyOf_string_mk Tryz.underlying9 hnm
  obtain ⟨n, D, h1, h2, h3, h4⟩ := h
  obtain ⟨v, ps, hr, hv⟩ := h1.lookup keyed9 Tryz.underlying220 (zero4 w) (plainElem_bool (H := Unit) Tryz.underlying4 false) hk
  rw [hr]
  obtain ⟨q, rfl, hq⟩ := plainElem_bool_inv Tryz.underlying4 hv
  rw [h4 nm] at hq
  simp only [Prod.mk.injEq, DataW.lit.injEq, Lit.bool.injEq] at hq
  rw [hq.1]
theorem SetIs.add {w : World} {b c : Nat} {m : ByteArray → Bool} {nm : ByteArray} (h : SetIs w b c m) (hnm : nm.size ≤ maxLen) (hc : c ≤ 2000) :
    ∃ w', (Instr.mapUpdate 220 (.map (some b)) (.string nm) (.bool true)).run Tryz.prog w = .ok () w' ∧ SetIs w' b (c + 1) (fun t => decide (t = nm) || m t) ∧ w.grownBy w' (some b) := by
  have hk : keyOf Tryz.prog 9 (.string nm) = some (.string nm.data.toList) := keyOf_string_mk Tryz.underlying9 hnm
  obtain ⟨n, D, h1, h2, h3, h4⟩ := h
  obtain ⟨w', hr, ho, hg⟩ := h1.update keyed9 Tryz.underlying220 (by unfold maxLen; omega) hk (plainElem_bool (H := Unit) Tryz.underlying4 true)
  refine ⟨w', hr, ⟨n + 1, _, ho, by omega, h3.put _ _, fun t => ?_⟩, hg⟩
  by_cases hn : nm = t
  · subst hn
    rw [atKey_put_same h3 (Keyed.key keyed9 hk)]
    simp
  · rw [atKey_put_other (by intro e; simp only [Lit.string.injEq] at e; exact hn (ba_inj e).symm), h4]
    simp [show ¬ t = nm from fun e => hn e.symm]
end Go.Proofs.YtodckaioeomccaaGreat
