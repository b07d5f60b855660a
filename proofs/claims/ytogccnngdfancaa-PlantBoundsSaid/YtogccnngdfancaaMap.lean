/- Items of a genealogy, and a map from their names to their places. -/
import Derived.Test.YtogccnngdfancaaBase2
import Derived.StringKeys
import Derived.Maps.Own
import Derived.Maps.OwnOps
import Derived.Maps.OwnSet
import Derived.Maps.Views
namespace Go.Proofs.Ytogccnngdfancaa
open Go.RowKit Go.Maps Go.WideMaps

structure ItemD where
  name : ByteArray
  kind : Int
  at_ : Int
  frm : List (List ByteArray)

/-- The place of the first item with a name. -/
def idx (xs : List ItemD) (nm : ByteArray) : Option Nat := xs.findIdx? (fun x => decide (x.name = nm))
def idxI (xs : List ItemD) (nm : ByteArray) : Int := match idx xs nm with | some i => i | none => 0
theorem idx_lt {xs : List ItemD} {nm : ByteArray} {i : Nat} (h : idx xs nm = some i) : i < xs.length := by
  unfold idx at h; rw [List.findIdx?_eq_some_iff_getElem] at h; exact h.1
theorem idx_get {xs : List ItemD} {nm : ByteArray} {i : Nat} (h : idx xs nm = some i) : ∃ x, xs[i]? = some x ∧ x.name = nm := by
  unfold idx at h; rw [List.findIdx?_eq_some_iff_getElem] at h
  obtain ⟨h1, h2, _⟩ := h
  exact ⟨_, List.getElem?_eq_getElem h1, by simpa using h2⟩
theorem idx_none {xs : List ItemD} {nm : ByteArray} : idx xs nm = none ↔ ∀ x ∈ xs, x.name ≠ nm := by
  unfold idx; rw [List.findIdx?_eq_none_iff]; simp
theorem idx_snoc_other {xs : List ItemD} {x : ItemD} {nm : ByteArray} (h : x.name ≠ nm) : idx (xs ++ [x]) nm = idx xs nm := by
  unfold idx; rw [List.findIdx?_append]; simp [List.findIdx?_cons, h]
theorem idx_snoc_same {xs : List ItemD} {x : ItemD} (h : idx xs x.name = none) : idx (xs ++ [x]) x.name = some xs.length := by
  unfold idx at h ⊢; rw [List.findIdx?_append, h]; simp [List.findIdx?_cons]
theorem ba_inj {a b : ByteArray} (h : a.data.toList = b.data.toList) : a = b := by
  cases a with | mk a => cases b with | mk b => congr 1; exact Array.toList_inj.1 h

theorem keyed9 : Keyed Try.prog 9 := string_keyed Try.underlying9
theorem zero3 (w : World) : (zeroValue 3).run Try.prog w = .ok (.int .i64 0) w := by kernel_rfl

/-- Block b is a map that leads each name to its place. -/
def MapIs (w : World) (b : Nat) (xs : List ItemD) : Prop :=
  ∃ (n : Nat) (D : DataW Unit), w.ownsMap Try.prog 9 (plainElem Try.prog 3) b n D ∧ n ≤ xs.length ∧ IsMap D ∧
    ∀ nm : ByteArray, ∀ z, D.atKey (.string nm.data.toList) z = match idx xs nm with | some i => .lit (.int .i64 i) | none => z
/-- The map value r, nil or not, leads each name to its place. -/
def MapV (w : World) (r : Option Nat) (xs : List ItemD) : Prop := (r = none ∧ xs = []) ∨ ∃ b, r = some b ∧ MapIs w b xs

theorem MapIs.same {w w' : World} {b : Nat} {xs : List ItemD} (h : MapIs w b xs) (hb : w'.heap[b]? = w.heap[b]?) : MapIs w' b xs := by
  obtain ⟨n, D, ⟨es, clock, h1, h2⟩, h3⟩ := h
  exact ⟨n, D, ⟨es, clock, hb.trans h1, h2⟩, h3⟩
theorem MapIs.lt {w : World} {b : Nat} {xs : List ItemD} (h : MapIs w b xs) : b < w.heap.size := let ⟨_, _, h, _⟩ := h; h.lt
theorem MapIs.isMap {w : World} {b : Nat} {xs : List ItemD} (h : MapIs w b xs) : ∃ es c, w.heap[b]? = some (.map es c) := let ⟨_, _, ⟨es, c, h, _⟩, _⟩ := h; ⟨es, c, h⟩
theorem MapIs.made (w : World) : MapIs (w.alloc (.map #[] 0)) w.heap.size [] :=
  ⟨0, .map [], World.ownsMap_made _ _ _ _, Nat.le_refl _, isMap_empty, fun _ _ => rfl⟩

theorem MapV.look_ok {w : World} {r : Option Nat} {xs : List ItemD} {nm : ByteArray} (h : MapV w r xs) (hnm : nm.size ≤ maxLen) :
    (Instr.lookup 77 (.map r) (.string nm) true).run Try.prog w = .ok (.tuple #[.int .i64 (idxI xs nm), .bool (idx xs nm).isSome]) w := by
  have hk : keyOf Try.prog 9 (.string nm) = some (.string nm.data.toList) := keyOf_string_mk Try.underlying9 hnm
  rcases h with ⟨rfl, rfl⟩ | ⟨b, rfl, n, D, h1, h2, h3, h4⟩
  · rw [look_nil true keyed9 Try.underlying77 (zero3 w) hk]; rfl
  · obtain ⟨v, ps, hr, hv⟩ := h1.look_ok keyed9 Try.underlying77 (zero3 w) (plainElem_int Try.underlying3 (by decide)) hk
    rw [hr]
    obtain ⟨a, rfl, ha, _⟩ := plainElem_int_inv Try.underlying3 hv
    simp only [Prod.mk.injEq] at ha
    have h5 := h4 nm
    cases hi : idx xs nm with
    | none =>
      simp only [hi] at h5
      rw [h5] at ha
      have := ha.1
      simp only [DataW.lit.injEq, Lit.int.injEq, true_and] at this
      rw [has_false_of_atKey h5]
      simp [idxI, hi, this]
    | some i =>
      simp only [hi] at h5
      rw [h5] at ha
      have := ha.1
      simp only [DataW.lit.injEq, Lit.int.injEq, true_and] at this
      rw [has_true_of_atKey h5]
      simp [idxI, hi, this]
theorem MapV.look {w : World} {r : Option Nat} {xs : List ItemD} {nm : ByteArray} (h : MapV w r xs) (hnm : nm.size ≤ maxLen) :
    (Instr.lookup 77 (.map r) (.string nm) false).run Try.prog w = .ok (.int .i64 (idxI xs nm)) w := by
  have hk : keyOf Try.prog 9 (.string nm) = some (.string nm.data.toList) := keyOf_string_mk Try.underlying9 hnm
  rcases h with ⟨rfl, rfl⟩ | ⟨b, rfl, n, D, h1, h2, h3, h4⟩
  · rw [look_nil false keyed9 Try.underlying77 (zero3 w) hk]; rfl
  · obtain ⟨c, hr, hc, _⟩ := h1.lookup_int keyed9 Try.underlying77 Try.underlying3 (zero3 w) hk
    rw [hr]
    have h5 := h4 nm (.lit (.int .i64 0))
    rw [hc] at h5
    cases hi : idx xs nm with
    | none => simp only [hi] at h5; simp only [DataW.lit.injEq, Lit.int.injEq, true_and] at h5; simp [idxI, hi, h5]
    | some i => simp only [hi] at h5; simp only [DataW.lit.injEq, Lit.int.injEq, true_and] at h5; simp [idxI, hi, h5]
theorem MapIs.update {w : World} {b : Nat} {xs : List ItemD} {x : ItemD} (h : MapIs w b xs) (hx : idx xs x.name = none) (hnm : x.name.size ≤ maxLen) (hl : xs.length ≤ 2000) :
    ∃ w', (Instr.mapUpdate 77 (.map (some b)) (.string x.name) (.int .i64 xs.length)).run Try.prog w = .ok () w' ∧ MapIs w' b (xs ++ [x]) ∧ w.grownBy w' (some b) := by
  have hk : keyOf Try.prog 9 (.string x.name) = some (.string x.name.data.toList) := keyOf_string_mk Try.underlying9 hnm
  obtain ⟨n, D, h1, h2, h3, h4⟩ := h
  have hwf : (Lit.int .i64 (xs.length : Int)).wf = true := WalkArith.wf_i64 (by omega)
  obtain ⟨w', hr, ho, hg⟩ := h1.update keyed9 Try.underlying77 (by unfold maxLen; omega) hk (plainElem_int (H := Unit) Try.underlying3 hwf)
  refine ⟨w', hr, ⟨n + 1, _, ho, by simp; omega, h3.put _ _, fun nm z => ?_⟩, hg⟩
  by_cases hn : x.name = nm
  · subst hn
    rw [atKey_put_same h3 (Keyed.key keyed9 hk), idx_snoc_same hx]
  · rw [atKey_put_other (by intro e; simp only [Lit.string.injEq] at e; exact hn (ba_inj e).symm), h4, idx_snoc_other hn]
end Go.Proofs.Ytogccnngdfancaa
