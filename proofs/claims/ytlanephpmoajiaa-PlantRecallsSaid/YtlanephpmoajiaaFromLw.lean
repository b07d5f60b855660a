/- Entered items: names are unique, and choices stand before the item. Plain laws: what a mark of spread says. Plain laws: what a mark of the reference's From says. Plain laws: the ways of a book, as a relation of places; what spread, From and gather mark of them. -/
import Derived.Test.YtlanephpmoajiaaUsesPlain
import Derived.Test.YtlanephpmoajiaaRefUse
import Derived.Test.YtlanephpmoajiaaUses
namespace Go.Proofs.Ytlanephpmoajiaa
open Go.RowKit

structure BookUq (xs : List ItemD) : Prop where
  uniq : ∀ (i : Nat) (x : ItemD), xs[i]? = some x → idx xs x.name = some i
  ord : ∀ (i : Nat) (x : ItemD), xs[i]? = some x → ∀ c ∈ x.frm, ∀ nm ∈ c, ∃ j, idx xs nm = some j ∧ j < i
theorem BookUq.nil : BookUq [] := ⟨fun i x h => by simp at h, fun i x h => by simp at h⟩
theorem BookUq.enter {xs : List ItemD} {x : ItemD} (h : BookUq xs) : BookUq (entNew xs x) := by
  rcases entNew_cases xs x with ⟨hz, he⟩ | he
  · rw [he]
    have hc := chk_zero hz
    have hidx := hc.2.2.2.2.2.2.2.1
    refine ⟨fun i y hy => ?_, fun i y hy c hc' nm hnm => ?_⟩
    · rcases Nat.lt_or_ge i xs.length with hi | hi
      · rw [List.getElem?_append_left hi] at hy
        exact idx_snoc_some (h.uniq i y hy)
      · have hi' : i = xs.length := by have := (List.getElem?_eq_some_iff.1 hy).1; simp at this; omega
        subst hi'
        rw [List.getElem?_append_right (Nat.le_refl _)] at hy
        simp at hy
        subst hy
        exact idx_snoc_same hidx
    · rcases Nat.lt_or_ge i xs.length with hi | hi
      · rw [List.getElem?_append_left hi] at hy
        obtain ⟨j, h1, h2⟩ := h.ord i y hy c hc' nm hnm
        exact ⟨j, idx_snoc_some h1, h2⟩
      · have hi' : i = xs.length := by have := (List.getElem?_eq_some_iff.1 hy).1; simp at this; omega
        subst hi'
        rw [List.getElem?_append_right (Nat.le_refl _)] at hy
        simp at hy
        subst hy
        have h0 := hc.2.2.2.2.2.2.2.2 c hc'
        obtain ⟨k, hk⟩ := List.mem_iff_getElem?.1 hnm
        have hkl := (List.getElem?_eq_some_iff.1 hk).1
        have h1 := firstNZ_all h0 (chkAt xs x c k) (List.mem_map.2 ⟨k, List.mem_range.2 hkl, rfl⟩)
        cases hi : idx xs nm with
        | none => rw [chkAt_none hk hi] at h1; cases h1
        | some j => exact ⟨j, idx_snoc_some hi, idx_lt hi⟩
  · rw [he]; exact h
theorem entAll_uq (xs : List ItemD) : BookUq (entAll xs) := by
  have key : ∀ (l acc : List ItemD), BookUq acc → BookUq (l.foldl entNew acc) := by
    intro l
    induction l with
    | nil => intro acc h; exact h
    | cons x l ih => intro acc h; exact ih _ h.enter
  exact key xs [] BookUq.nil
/-- The names of places are told apart by the places. -/
theorem BookUq.inj {xs : List ItemD} (h : BookUq xs) {i j : Nat} {x y : ItemD} (hx : xs[i]? = some x) (hy : xs[j]? = some y) (he : x.name = y.name) : i = j := by
  have h1 := h.uniq i x hx
  have h2 := h.uniq j y hy
  rw [he, h2] at h1
  exact (Option.some.inj h1).symm
end Go.Proofs.Ytlanephpmoajiaa

namespace Go.Proofs.Ytlanephpmoajiaa
open Go.RowKit

theorem spGo_far {xs : List ItemD} {i : Nat} {q : ItemD → Bool} {k : Nat} : ∀ d, k < i + 1 ∨ i + 1 + d ≤ k → (spGo xs i q d).getD k false = false
  | 0, _ => by simp [spGo, List.getD, List.getElem?_replicate]; split <;> rfl
  | d + 1, h => by
    simp only [spGo, getD_set]
    rw [if_neg (by omega)]
    exact spGo_far d (by omega)
theorem spGo_keep {xs : List ItemD} {i : Nat} {q : ItemD → Bool} {k : Nat} : ∀ d e, k < i + 1 + d → d ≤ e → (spGo xs i q e).getD k false = (spGo xs i q d).getD k false
  | d, e, hk, he => by
    induction e with
    | zero => obtain rfl : d = 0 := by omega
              rfl
    | succ e ih =>
      rcases Nat.lt_or_ge e d with h | h
      · obtain rfl : d = e + 1 := by omega
        rfl
      · simp only [spGo, getD_set]
        rw [if_neg (by omega)]
        exact ih h
theorem spMark_congr {xs : List ItemD} (h : BookUq xs) {i : Nat} {q : ItemD → Bool} {m m' : List Bool} {k : Nat} (hm : ∀ c, c < k → m.getD c false = m'.getD c false) : spMark xs i q m k = spMark xs i q m' k := by
  unfold spMark
  cases hx : xs[k]? with
  | none => rfl
  | some x =>
    simp only
    rw [Bool.eq_iff_iff, List.any_eq_true, List.any_eq_true]
    have key : ∀ c ∈ x.frm, ∀ nm ∈ c, spHit xs m i (q x) nm = spHit xs m' i (q x) nm := fun c hc nm hnm => by
      obtain ⟨j, hj, hjk⟩ := h.ord k x hx c hc nm hnm
      unfold spHit
      simp only [hj, hm j hjk]
    constructor
    · rintro ⟨c, hc, hh⟩
      rw [List.any_eq_true] at hh
      obtain ⟨nm, hnm, hh⟩ := hh
      exact ⟨c, hc, List.any_eq_true.2 ⟨nm, hnm, by rw [← key c hc nm hnm]; exact hh⟩⟩
    · rintro ⟨c, hc, hh⟩
      rw [List.any_eq_true] at hh
      obtain ⟨nm, hnm, hh⟩ := hh
      exact ⟨c, hc, List.any_eq_true.2 ⟨nm, hnm, by rw [key c hc nm hnm]; exact hh⟩⟩
/-- No mark up to the item itself. -/
theorem spAll_low {xs : List ItemD} {i : Nat} {q : ItemD → Bool} {k : Nat} (hk : k ≤ i) : (spAll xs i q).getD k false = false := spGo_far _ (.inl (by omega))
/-- A mark behind it, out of the marks themselves. -/
theorem spAll_mark {xs : List ItemD} (h : BookUq xs) {i : Nat} {q : ItemD → Bool} {k : Nat} (hk : i < k) (hn : k < xs.length) : (spAll xs i q).getD k false = spMark xs i q (spAll xs i q) k := by
  have e1 : (spAll xs i q).getD k false = (spGo xs i q (k - (i + 1) + 1)).getD k false := spGo_keep _ _ (by omega) (by omega)
  have e2 : ∀ c, c < k → (spAll xs i q).getD c false = (spGo xs i q (k - (i + 1))).getD c false := fun c hc => by
    exact spGo_keep _ _ (by omega) (by omega)
  rw [e1, spMark_congr h e2]
  simp only [spGo, getD_set, spGo_len]
  rw [if_pos ⟨by omega, hn⟩, show i + 1 + (k - (i + 1)) = k from by omega]
end Go.Proofs.Ytlanephpmoajiaa

namespace Go.Proofs.Ytlanephpmoajiaa
open Go.RowKit

theorem fromGo_keep {xs : List ItemD} {m : List Bool} {k : Nat} : ∀ d e, k < d → d ≤ e → (fromGo xs m e).getD k false = (fromGo xs m d).getD k false := fun d e hk he => by
  induction e with
  | zero => omega
  | succ e ih =>
    rcases Nat.lt_or_ge e d with h | h
    · obtain rfl : d = e + 1 := by omega
      rfl
    · simp only [fromGo, getD_set]
      rw [if_neg (by omega)]
      exact ih h
theorem fromGo_far {xs : List ItemD} {m : List Bool} {k : Nat} : ∀ d, d ≤ k → (fromGo xs m d).getD k false = m.getD k false
  | 0, _ => rfl
  | d + 1, h => by
    simp only [fromGo, getD_set]
    rw [if_neg (by omega)]
    exact fromGo_far d (by omega)
/-- A mark of From, out of the marks themselves. -/
theorem fromAll_mark {xs : List ItemD} {m : List Bool} (hl : m.length = xs.length) {k : Nat} (hn : k < xs.length) :
    (fromGo xs m xs.length).getD k false = (m.getD k false || (List.range k).any (fromHit xs (fromGo xs m xs.length) k)) := by
  have e1 : (fromGo xs m xs.length).getD k false = (fromGo xs m (k + 1)).getD k false := fromGo_keep _ _ (by omega) (by omega)
  have e2 : ∀ c, c < k → (fromGo xs m xs.length).getD c false = (fromGo xs m k).getD c false := fun c hc => fromGo_keep _ _ hc (by omega)
  rw [e1]
  simp only [fromGo, getD_set, fromGo_len]
  rw [if_pos ⟨trivial, by omega⟩]
  unfold fromAt
  rw [fromGo_far k (Nat.le_refl _)]
  congr 1
  rw [Bool.eq_iff_iff, List.any_eq_true, List.any_eq_true]
  constructor
  · rintro ⟨c, hc, h⟩
    refine ⟨c, hc, ?_⟩
    unfold fromHit at h ⊢
    rw [e2 c (List.mem_range.1 hc)]; exact h
  · rintro ⟨c, hc, h⟩
    refine ⟨c, hc, ?_⟩
    unfold fromHit at h ⊢
    rw [← e2 c (List.mem_range.1 hc)]; exact h
end Go.Proofs.Ytlanephpmoajiaa

namespace Go.Proofs.Ytlanephpmoajiaa
open Go.RowKit
set_option linter.unusedVariables false
set_option linter.unusedSimpArgs false

/-- Place j holds a choice of the item at place k. -/
def Edge (xs : List ItemD) (k j : Nat) : Prop := ∃ x, xs[k]? = some x ∧ ∃ c ∈ x.frm, ∃ nm ∈ c, idx xs nm = some j
theorem Edge.lt {xs : List ItemD} (h : BookUq xs) {k j : Nat} (e : Edge xs k j) : j < k := by
  obtain ⟨x, hx, c, hc, nm, hnm, hj⟩ := e
  obtain ⟨l, hl, hlt⟩ := h.ord k x hx c hc nm hnm
  rw [hj] at hl
  obtain rfl := Option.some.inj hl
  exact hlt
theorem hasN_iff' {xs : List ByteArray} {nm : ByteArray} : hasN xs nm = true ↔ nm ∈ xs := by
  unfold hasN
  rw [List.any_eq_true]
  constructor
  · rintro ⟨x, hx, h⟩; obtain rfl := of_decide_eq_true h; exact hx
  · intro h; exact ⟨nm, h, by simp⟩
theorem chosenB_iff {x : ItemD} {nm : ByteArray} : chosenB x nm = true ↔ ∃ c ∈ x.frm, nm ∈ c := by
  unfold chosenB
  rw [List.any_eq_true]
  constructor
  · rintro ⟨c, hc, h⟩; exact ⟨c, hc, hasN_iff'.1 h⟩
  · rintro ⟨c, hc, h⟩; exact ⟨c, hc, hasN_iff'.2 h⟩
theorem edge_chosen {xs : List ItemD} (h : BookUq xs) {k j : Nat} {x : ItemD} {nm : ByteArray} (hx : xs[k]? = some x) (hn : idx xs nm = some j) : chosenB x nm = true ↔ Edge xs k j := by
  rw [chosenB_iff]
  constructor
  · rintro ⟨c, hc, hm⟩; exact ⟨x, hx, c, hc, nm, hm, hn⟩
  · rintro ⟨x', hx', c, hc, nm', hm, hn'⟩
    rw [hx] at hx'
    obtain rfl := Option.some.inj hx'
    obtain ⟨y, hy, e1⟩ := idx_get hn
    obtain ⟨y', hy', e2⟩ := idx_get hn'
    rw [hy] at hy'
    obtain rfl := Option.some.inj hy'
    exact ⟨c, hc, by rw [← e1, e2]; exact hm⟩
inductive Anc (xs : List ItemD) : Nat → Nat → Prop
  | one {k j : Nat} (e : Edge xs k j) : Anc xs k j
  | more {k l j : Nat} (e : Edge xs k l) (h : Anc xs l j) : Anc xs k j
theorem Anc.lt {xs : List ItemD} (h : BookUq xs) {k j : Nat} (a : Anc xs k j) : j < k := by
  induction a with
  | one e => exact e.lt h
  | more e _ ih => have := e.lt h; omega
theorem Anc.trans {xs : List ItemD} {k l j : Nat} (a : Anc xs k l) (b : Anc xs l j) : Anc xs k j := by
  induction a with
  | one e => exact .more e b
  | more e _ ih => exact .more e (ih b)
theorem Anc.last {xs : List ItemD} {k j : Nat} : Anc xs k j ↔ ∃ l, Edge xs k l ∧ (Anc xs l j ∨ l = j) := by
  constructor
  · intro a
    cases a with
    | one e => exact ⟨j, e, .inr rfl⟩
    | more e h => exact ⟨_, e, .inl h⟩
  · rintro ⟨l, e, h | rfl⟩
    · exact .more e h
    · exact .one e
theorem spMark_iff {xs : List ItemD} {i : Nat} {q : ItemD → Bool} {m : List Bool} {k : Nat} {x : ItemD} (hx : xs[k]? = some x) :
    spMark xs i q m k = true ↔ ∃ j, Edge xs k j ∧ (m.getD j false = true ∨ (j = i ∧ q x = true)) := by
  unfold spMark
  simp only [hx]
  rw [List.any_eq_true]
  constructor
  · rintro ⟨c, hc, h⟩
    rw [List.any_eq_true] at h
    obtain ⟨nm, hnm, h⟩ := h
    unfold spHit at h
    cases hj : idx xs nm with
    | none => rw [hj] at h; cases h
    | some j =>
      rw [hj] at h
      simp only [Bool.or_eq_true, Bool.and_eq_true, decide_eq_true_eq] at h
      exact ⟨j, ⟨x, hx, c, hc, nm, hnm, hj⟩, h⟩
  · rintro ⟨j, ⟨x', hx', c, hc, nm, hnm, hj⟩, h⟩
    rw [hx] at hx'
    obtain rfl := Option.some.inj hx'
    refine ⟨c, hc, List.any_eq_true.2 ⟨nm, hnm, ?_⟩⟩
    unfold spHit
    rw [hj]
    simp only [Bool.or_eq_true, Bool.and_eq_true, decide_eq_true_eq]
    exact h
theorem spAll_iff {xs : List ItemD} (h : BookUq xs) {i : Nat} {q : ItemD → Bool} {k : Nat} {x : ItemD} (hx : xs[k]? = some x) :
    (spAll xs i q).getD k false = true ↔ ∃ j, Edge xs k j ∧ ((spAll xs i q).getD j false = true ∨ (j = i ∧ q x = true)) := by
  have hn := (List.getElem?_eq_some_iff.1 hx).1
  rcases Nat.lt_or_ge i k with hk | hk
  · rw [spAll_mark h hk hn, spMark_iff hx]
  · rw [spAll_low hk]
    constructor
    · intro h; cases h
    · rintro ⟨j, e, h1 | ⟨rfl, _⟩⟩
      · have := e.lt h; rw [spAll_low (by omega)] at h1; exact h1
      · have := e.lt h; omega
theorem fromAll_iff {xs : List ItemD} (h : BookUq xs) {m : List Bool} (hl : m.length = xs.length) {k : Nat} (hn : k < xs.length) :
    (fromGo xs m xs.length).getD k false = true ↔ m.getD k false = true ∨ ∃ j, Edge xs k j ∧ (fromGo xs m xs.length).getD j false = true := by
  rw [fromAll_mark hl hn, Bool.or_eq_true, List.any_eq_true]
  refine or_congr Iff.rfl ?_
  have hx : xs[k]? = some xs[k] := List.getElem?_eq_getElem hn
  constructor
  · rintro ⟨j, hj, hh⟩
    have hjk := List.mem_range.1 hj
    have hy : xs[j]? = some xs[j] := List.getElem?_eq_getElem (by omega)
    unfold fromHit at hh
    rw [Bool.and_eq_true] at hh
    obtain ⟨h1, h2⟩ := hh
    simp only [hx, hy] at h2
    exact ⟨j, (edge_chosen h hx (h.uniq j _ hy)).1 h2, h1⟩
  · rintro ⟨j, e, h1⟩
    have hjk := e.lt h
    have hy : xs[j]? = some xs[j] := List.getElem?_eq_getElem (by omega)
    refine ⟨j, List.mem_range.2 hjk, ?_⟩
    unfold fromHit
    rw [Bool.and_eq_true]
    refine ⟨h1, ?_⟩
    simp only [hx, hy]
    exact (edge_chosen h hx (h.uniq j _ hy)).2 e
/-- The marks of a fault. -/
theorem from_spread {xs : List ItemD} (h : BookUq xs) {m : List Bool} (hl : m.length = xs.length) {i : Nat} {q : ItemD → Bool}
    (hm : ∀ (k : Nat) (x : ItemD), xs[k]? = some x → (m.getD k false = true ↔ (q x = true ∧ Edge xs k i))) : fromGo xs m xs.length = spAll xs i q := by
  have key : ∀ (k : Nat), k < xs.length → ((fromGo xs m xs.length).getD k false = true ↔ (spAll xs i q).getD k false = true) := by
    intro k
    induction k using Nat.strongRecOn with
    | _ k ih =>
      intro hn
      have hx : xs[k]? = some xs[k] := List.getElem?_eq_getElem hn
      rw [fromAll_iff h hl hn, spAll_iff h hx, hm k _ hx]
      constructor
      · rintro (⟨h1, e⟩ | ⟨j, e, h1⟩)
        · exact ⟨i, e, .inr ⟨rfl, h1⟩⟩
        · exact ⟨j, e, .inl ((ih j (e.lt h) (by have := e.lt h; omega)).1 h1)⟩
      · rintro ⟨j, e, h1 | ⟨rfl, h1⟩⟩
        · exact .inr ⟨j, e, (ih j (e.lt h) (by have := e.lt h; omega)).2 h1⟩
        · exact .inl ⟨h1, e⟩
  have e1 := fromGo_len xs m xs.length
  have e2 : (spAll xs i q).length = xs.length := spGo_len _ _ _ _
  refine List.ext_getElem (by omega) fun k h1 h2 => ?_
  have := key k (by omega)
  rw [List.getD_eq_getElem?_getD, List.getD_eq_getElem?_getD, List.getElem?_eq_getElem h1, List.getElem?_eq_getElem h2] at this
  exact Bool.eq_iff_iff.2 this
theorem getD_one {n i k : Nat} (h : k < n) : ((List.replicate n false).set i true).getD k false = true ↔ k = i := by
  rw [getD_set, List.length_replicate]
  constructor
  · intro h1
    split at h1
    · rename_i h2; exact h2.1.symm
    · simp [List.getD, List.getElem?_replicate, h] at h1
  · rintro rfl; rw [if_pos ⟨rfl, h⟩]
/-- From of one item: itself and its uses. -/
theorem from_one {xs : List ItemD} (h : BookUq xs) {i k : Nat} (hn : k < xs.length) : (fromGo xs ((List.replicate xs.length false).set i true) xs.length).getD k false = true ↔ (k = i ∨ Anc xs k i) := by
  induction k using Nat.strongRecOn with
  | _ k ih =>
    rw [fromAll_iff h (by simp) hn, getD_one hn, Anc.last]
    refine or_congr Iff.rfl ?_
    constructor
    · rintro ⟨j, e, h1⟩
      rcases (ih j (e.lt h) (by have := e.lt h; omega)).1 h1 with rfl | h2
      · exact ⟨j, e, .inr rfl⟩
      · exact ⟨j, e, .inl h2⟩
    · rintro ⟨j, e, h1 | rfl⟩
      · exact ⟨j, e, (ih j (e.lt h) (by have := e.lt h; omega)).2 (.inr h1)⟩
      · exact ⟨j, e, (ih j (e.lt h) (by have := e.lt h; omega)).2 (.inl rfl)⟩
theorem uses_anc {xs : List ItemD} (h : BookUq xs) {i k : Nat} (hn : k < xs.length) : (spAll xs i (fun _ => true)).getD k false = true ↔ Anc xs k i := by
  induction k using Nat.strongRecOn with
  | _ k ih =>
    have hx : xs[k]? = some xs[k] := List.getElem?_eq_getElem hn
    rw [spAll_iff h hx, Anc.last]
    constructor
    · rintro ⟨j, e, h1 | ⟨rfl, _⟩⟩
      · exact ⟨j, e, .inl ((ih j (e.lt h) (by have := e.lt h; omega)).1 h1)⟩
      · exact ⟨j, e, .inr rfl⟩
    · rintro ⟨j, e, h1 | rfl⟩
      · exact ⟨j, e, .inl ((ih j (e.lt h) (by have := e.lt h; omega)).2 h1)⟩
      · exact ⟨j, e, .inr ⟨rfl, rfl⟩⟩
theorem eq_of_getD {a b : List Bool} (hl : a.length = b.length) (h : ∀ k, k < a.length → (a.getD k false = true ↔ b.getD k false = true)) : a = b := by
  refine List.ext_getElem hl fun k h1 h2 => ?_
  have := h k h1
  rw [List.getD_eq_getElem?_getD, List.getD_eq_getElem?_getD, List.getElem?_eq_getElem h1, List.getElem?_eq_getElem h2] at this
  exact Bool.eq_iff_iff.2 this
/-- The reference's marks of uses are the program's. -/
theorem refUses_eq {xs : List ItemD} (h : BookUq xs) {i : Nat} {nm : ByteArray} (hi : idx xs nm = some i) : refUsesMs xs i = usesMs xs nm := by
  unfold refUsesMs usesMs
  simp only [hi]
  have e1 : (onlyM (fromGo xs ((List.replicate xs.length false).set i true) xs.length) i).length = xs.length := by rw [onlyM_len, fromGo_len]; simp
  have e2 : (spAll xs i (fun _ => true)).length = xs.length := spGo_len _ _ _ _
  refine eq_of_getD (by omega) fun k hk => ?_
  have hk' : k < xs.length := by omega
  rw [uses_anc h hk', List.getD_eq_getElem?_getD, onlyM_get]
  have hk2 : k < (fromGo xs ((List.replicate xs.length false).set i true) xs.length).length := by rw [fromGo_len]; simp; exact hk'
  have := from_one h (i := i) hk'
  rw [List.getD_eq_getElem?_getD, List.getElem?_eq_getElem hk2] at this
  rw [List.getElem?_eq_getElem hk2]
  simp only [Option.map_some, Option.getD_some, Bool.and_eq_true, decide_eq_true_eq] at this ⊢
  rw [this]
  constructor
  · rintro ⟨rfl | h1, h2⟩
    · omega
    · exact h1
  · intro h1; exact ⟨.inr h1, by have := h1.lt h; omega⟩

/-- The marks of the sources of the item at place i. -/
def ancMs (xs : List ItemD) (i : Nat) : List Bool := (List.range xs.length).map (fun j => (spAll xs j (fun _ => true)).getD i false)
theorem ancMs_len (xs : List ItemD) (i : Nat) : (ancMs xs i).length = xs.length := by simp [ancMs]
theorem ancMs_iff {xs : List ItemD} (h : BookUq xs) {i j : Nat} (hi : i < xs.length) (hj : j < xs.length) : (ancMs xs i).getD j false = true ↔ Anc xs i j := by
  rw [← uses_anc h hi, ancMs, List.getD_eq_getElem?_getD]
  simp [hj]
/-- What is closed below place i. -/
def ClB (xs : List ItemD) (i : Nat) (m : List Bool) : Prop := ∀ k, k < i → m.getD k false = true → ∀ j, Edge xs k j → m.getD j false = true
/-- What gather leaves. -/
structure Gath (xs : List ItemD) (i : Nat) (m m' : List Bool) : Prop where
  len : m'.length = m.length
  le : LeM m m'
  new : ∀ j, m'.getD j false = true → m.getD j false = true ∨ Anc xs i j
  done : ∀ j, Edge xs i j → m'.getD j false = true
  cl : ClB xs i m'
/-- .. in the midst of it: the inputs before a, and of input a the choices before b, are marked. -/
structure GMid (xs : List ItemD) (i : Nat) (x : ItemD) (m m' : List Bool) (a b : Nat) : Prop where
  len : m'.length = m.length
  le : LeM m m'
  new : ∀ j, m'.getD j false = true → m.getD j false = true ∨ Anc xs i j
  done : ∀ (a' : Nat) (c : List ByteArray) (b' : Nat) (nm : ByteArray) (j : Nat), x.frm[a']? = some c → c[b']? = some nm → (a' < a ∨ (a' = a ∧ b' < b)) → idx xs nm = some j → m'.getD j false = true
  cl : ClB xs i m'
theorem GMid.start {xs : List ItemD} {i : Nat} {x : ItemD} {m : List Bool} (hc : ClB xs i m) : GMid xs i x m m 0 0 :=
  ⟨rfl, fun _ h => h, fun _ h => .inl h, fun a' c b' nm j _ _ h _ => by omega, hc⟩
theorem GMid.next {xs : List ItemD} {i : Nat} {x : ItemD} {m m' : List Bool} {a b : Nat} {c : List ByteArray} (h : GMid xs i x m m' a b) (hc : x.frm[a]? = some c) (hb : c.length ≤ b) : GMid xs i x m m' (a + 1) 0 :=
  ⟨h.len, h.le, h.new, fun a' c' b' nm j h1 h2 h3 h4 => by
    rcases Nat.lt_or_ge a' a with h5 | h5
    · exact h.done a' c' b' nm j h1 h2 (.inl h5) h4
    · obtain rfl : a' = a := by omega
      rw [hc] at h1
      obtain rfl := Option.some.inj h1
      have := (List.getElem?_eq_some_iff.1 h2).1
      exact h.done a' c b' nm j hc h2 (.inr ⟨rfl, by omega⟩) h4, h.cl⟩
theorem GMid.done_all {xs : List ItemD} {i : Nat} {x : ItemD} {m m' : List Bool} {a : Nat} (h : GMid xs i x m m' a 0) (hx : xs[i]? = some x) (ha : x.frm.length ≤ a) : Gath xs i m m' :=
  ⟨h.len, h.le, h.new, fun j ⟨x', hx', c, hc, nm, hnm, hj⟩ => by
    rw [hx] at hx'
    obtain rfl := Option.some.inj hx'
    obtain ⟨a', ha'⟩ := List.mem_iff_getElem?.1 hc
    obtain ⟨b', hb'⟩ := List.mem_iff_getElem?.1 hnm
    have := (List.getElem?_eq_some_iff.1 ha').1
    exact h.done a' c b' nm j ha' hb' (.inl (by omega)) hj, h.cl⟩
theorem GMid.had {xs : List ItemD} {i : Nat} {x : ItemD} {m m' : List Bool} {a b : Nat} {c : List ByteArray} {nm : ByteArray} {k : Nat} (h : GMid xs i x m m' a b) (hc : x.frm[a]? = some c) (hb : c[b]? = some nm) (hk : idx xs nm = some k)
    (hm : m'.getD k false = true) : GMid xs i x m m' a (b + 1) :=
  ⟨h.len, h.le, h.new, fun a' c' b' nm' j h1 h2 h3 h4 => by
    by_cases h5 : a' < a ∨ (a' = a ∧ b' < b)
    · exact h.done a' c' b' nm' j h1 h2 h5 h4
    · obtain ⟨rfl, rfl⟩ : a' = a ∧ b' = b := by omega
      rw [hc] at h1
      obtain rfl := Option.some.inj h1
      rw [hb] at h2
      obtain rfl := Option.some.inj h2
      rw [hk] at h4
      obtain rfl := Option.some.inj h4
      exact hm, h.cl⟩
theorem GMid.pre {xs : List ItemD} {i : Nat} {x : ItemD} {m m' : List Bool} {a b k : Nat} (h : GMid xs i x m m' a b) (hki : k < i) : ClB xs k (m'.set k true) := fun l hl hm j e => by
  rw [getD_set] at hm ⊢
  rw [if_neg (by omega)] at hm
  have := h.cl l (by omega) hm j e
  split
  · rfl
  · exact this
theorem GMid.step {xs : List ItemD} (hu : BookUq xs) {i : Nat} {x : ItemD} {m m' m2 : List Bool} {a b : Nat} {c : List ByteArray} {nm : ByteArray} {k : Nat} (h : GMid xs i x m m' a b) (hx : xs[i]? = some x) (hc : x.frm[a]? = some c) (hb : c[b]? = some nm)
    (hk : idx xs nm = some k) (hkl : k < m'.length) (hg : Gath xs k (m'.set k true) m2) : GMid xs i x m m2 a (b + 1) := by
  have e : Edge xs i k := ⟨x, hx, c, List.mem_of_getElem? hc, nm, List.mem_of_getElem? hb, hk⟩
  have hki := e.lt hu
  have hle : LeM m' m2 := fun j hj => hg.le j (by rw [getD_set]; split <;> first | rfl | exact hj)
  have hkm : m2.getD k false = true := hg.le k (by rw [getD_set, if_pos ⟨rfl, hkl⟩])
  refine ⟨by rw [hg.len, List.length_set, h.len], fun j hj => hle j (h.le j hj), fun j hj => ?_, fun a' c' b' nm' j h1 h2 h3 h4 => ?_, fun l hl hm j e' => ?_⟩
  · rcases hg.new j hj with h1 | h1
    · rw [getD_set] at h1
      split at h1
      · rename_i h2; rw [← h2.1]; exact .inr (.one e)
      · exact h.new j h1
    · exact .inr (.more e h1)
  · by_cases h5 : a' < a ∨ (a' = a ∧ b' < b)
    · exact hle j (h.done a' c' b' nm' j h1 h2 h5 h4)
    · obtain ⟨rfl, rfl⟩ : a' = a ∧ b' = b := by omega
      rw [hc] at h1
      obtain rfl := Option.some.inj h1
      rw [hb] at h2
      obtain rfl := Option.some.inj h2
      rw [hk] at h4
      obtain rfl := Option.some.inj h4
      exact hkm
  · rcases Nat.lt_trichotomy l k with h1 | rfl | h1
    · exact hg.cl l h1 hm j e'
    · exact hg.done j e'
    · have h2 : m'.getD l false = true := by
        rcases hg.new l hm with h3 | h3
        · rw [getD_set, if_neg (by omega)] at h3; exact h3
        · have := h3.lt hu; omega
      exact hle j (h.cl l hl h2 j e')
theorem gath_all {xs : List ItemD} (hu : BookUq xs) {i : Nat} (hi : i < xs.length) {m' : List Bool} (hg : Gath xs i (List.replicate xs.length false) m') : m' = ancMs xs i := by
  have e1 := hg.len
  rw [List.length_replicate] at e1
  refine eq_of_getD (by rw [ancMs_len, e1]) fun j hj => ?_
  rw [ancMs_iff hu hi (by omega)]
  constructor
  · intro h
    rcases hg.new j h with h1 | h1
    · simp [List.getD, List.getElem?_replicate] at h1; split at h1 <;> simp at h1
    · exact h1
  · have key : ∀ l j, Anc xs l j → l < i → m'.getD l false = true → m'.getD j false = true := by
      intro l j a
      induction a with
      | one e => intro hl hm; exact hg.cl _ hl hm _ e
      | more e _ ih => intro hl hm; exact ih (by have := e.lt hu; omega) (hg.cl _ hl hm _ e)
    intro a
    cases a with
    | one e => exact hg.done _ e
    | more e h => exact key _ _ h (e.lt hu) (hg.done _ e)
theorem clB_none (xs : List ItemD) (i : Nat) : ClB xs i (List.replicate xs.length false) := fun k _ h => by
  simp [List.getD, List.getElem?_replicate] at h; split at h <;> simp at h
end Go.Proofs.Ytlanephpmoajiaa

