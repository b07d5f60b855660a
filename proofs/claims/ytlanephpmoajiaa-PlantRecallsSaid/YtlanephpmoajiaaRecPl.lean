/- Plain laws of recalls: what PlantRecalls says of the marks. Plain laws of PlantTouches: what Trail returns, by whether the name is touched. -/
import Derived.Test.YtlanephpmoajiaaTrails
import Derived.Test.YtlanephpmoajiaaRecall
namespace Go.Proofs.Ytlanephpmoajiaa
open Go.RowKit
set_option linter.unusedVariables false
set_option linter.unusedSimpArgs false
theorem recallErr_one (xs : List ItemD) (f : FaultD) : recallErr xs [f] = faultErr xs f := by
  unfold recallErr
  rw [if_neg (by simp)]
  show (if faultErr xs f = 0 then (0 : Int) else faultErr xs f) = _
  split
  · rename_i h; exact h.symm
  · rfl
theorem recallErr_two (xs : List ItemD) (f g : FaultD) : recallErr xs [f, g] = if faultErr xs f = 0 then faultErr xs g else faultErr xs f := by
  unfold recallErr
  rw [if_neg (by simp)]
  show (if faultErr xs f = 0 then (if faultErr xs g = 0 then (0 : Int) else faultErr xs g) else faultErr xs f) = _
  split
  · split
    · rename_i h; exact h.symm
    · rfl
  · rfl
theorem orT_iff {xs : List ItemD} {T M : List Bool} {i : Nat} (hi : i < T.length) : (orT xs T M).getD i false = true ↔ (T.getD i false = true ∨ hitT xs M i = true) := by
  unfold orT
  rw [List.getD_eq_getElem?_getD, List.getElem?_mapIdx, List.getD_eq_getElem?_getD, List.getElem?_eq_getElem hi]
  simp
theorem rep_false (n i : Nat) : (List.replicate n false).getD i false = false := by
  rw [List.getD_eq_getElem?_getD, List.getElem?_replicate]
  split <;> rfl
theorem recMs_one {xs : List ItemD} {f : FaultD} {i : Nat} (hi : i < xs.length) : (recMs xs [f]).getD i false = true ↔ hitT xs (touchedMs xs f) i = true := by
  show (orT xs (List.replicate xs.length false) (touchedMs xs f)).getD i false = true ↔ _
  rw [orT_iff (by simpa using hi), rep_false]
  simp
theorem recMs_two {xs : List ItemD} {f g : FaultD} {i : Nat} (hi : i < xs.length) : (recMs xs [f, g]).getD i false = true ↔ ((recMs xs [f]).getD i false = true ∨ (recMs xs [g]).getD i false = true) := by
  rw [recMs_one hi (f := g)]
  show (orT xs (orT xs (List.replicate xs.length false) (touchedMs xs f)) (touchedMs xs g)).getD i false = true ↔ _
  rw [orT_iff (by rw [orT_len]; simpa using hi)]
  rfl
theorem namesOf_nilx (ms : List Bool) : namesOf [] ms = [] := by simp [namesOf]
theorem namesOf_consx (x : ItemD) (xs : List ItemD) (b : Bool) (ms : List Bool) : namesOf (x :: xs) (b :: ms) = (if b = true then [x.name] else []) ++ namesOf xs ms := by
  unfold namesOf
  cases b <;> simp
/-- Marks that hold where one of two hold name no more than both. -/
theorem namesOf_sum : ∀ (xs : List ItemD) (a b c : List Bool), a.length = xs.length → b.length = xs.length → c.length = xs.length → (∀ i, i < xs.length → c.getD i false = true → (a.getD i false = true ∨ b.getD i false = true)) → (namesOf xs c).length ≤ (namesOf xs a).length + (namesOf xs b).length
  | [], a, b, c, _, _, _, _ => by simp [namesOf_nilx]
  | x :: xs, [], _, _, h, _, _, _ => by simp at h
  | x :: xs, _ :: _, [], _, _, h, _, _ => by simp at h
  | x :: xs, _ :: _, _ :: _, [], _, _, h, _ => by simp at h
  | x :: xs, p :: a, q :: b, r :: c, h1, h2, h3, h => by
    have ih := namesOf_sum xs a b c (by simpa using h1) (by simpa using h2) (by simpa using h3) (fun i hi hc => by
      have := h (i + 1) (by simp; omega)
      simp only [List.getD_cons_succ] at this
      exact this hc)
    have h0 := h 0 (by simp)
    simp only [List.getD_cons_zero] at h0
    rw [namesOf_consx, namesOf_consx, namesOf_consx]
    cases p <;> cases q <;> cases r <;> simp at h0 ⊢ <;> omega
theorem getD_some {m : List Bool} {j : Nat} (h : m[j]? = some true) : m.getD j false = true := by simp [List.getD, h]
theorem some_getD {m : List Bool} {j : Nat} (h : m.getD j false = true) : m[j]? = some true := by
  rw [List.getD_eq_getElem?_getD] at h
  cases hm : m[j]? with
  | none => rw [hm] at h; cases h
  | some v => rw [hm] at h; exact congrArg some h
theorem recN_iff {xs : List ItemD} {l : List FaultD} {s : ByteArray} : s ∈ namesOf xs (recMs xs l) ↔ ∃ (j : Nat) (x : ItemD), xs[j]? = some x ∧ (recMs xs l).getD j false = true ∧ x.name = s := by
  rw [namesOf_mem]
  constructor
  · rintro ⟨j, x, h1, h2, h3⟩; exact ⟨j, x, h1, getD_some h2, h3⟩
  · rintro ⟨j, x, h1, h2, h3⟩; exact ⟨j, x, h1, some_getD h2, h3⟩
theorem recTwo_iff {xs : List ItemD} {f g : FaultD} {s : ByteArray} : s ∈ namesOf xs (recMs xs [f, g]) ↔ (s ∈ namesOf xs (recMs xs [f]) ∨ s ∈ namesOf xs (recMs xs [g])) := by
  rw [recN_iff, recN_iff, recN_iff]
  constructor
  · rintro ⟨j, x, h1, h2, h3⟩
    rcases (recMs_two (List.getElem?_eq_some_iff.1 h1).1).1 h2 with h | h
    · exact .inl ⟨j, x, h1, h, h3⟩
    · exact .inr ⟨j, x, h1, h, h3⟩
  · rintro (⟨j, x, h1, h2, h3⟩ | ⟨j, x, h1, h2, h3⟩)
    · exact ⟨j, x, h1, (recMs_two (List.getElem?_eq_some_iff.1 h1).1).2 (.inl h2), h3⟩
    · exact ⟨j, x, h1, (recMs_two (List.getElem?_eq_some_iff.1 h1).1).2 (.inr h2), h3⟩
theorem rec_sum (xs : List ItemD) (f g : FaultD) : (namesOf xs (recMs xs [f, g])).length ≤ (namesOf xs (recMs xs [f])).length + (namesOf xs (recMs xs [g])).length :=
  namesOf_sum _ _ _ _ (recMs_len _ _) (recMs_len _ _) (recMs_len _ _) fun i hi h => (recMs_two hi).1 h
/-- What is known of a recalled tyre. -/
structure Recalled (xs : List ItemD) (f : FaultD) (s : ByteArray) (i : Nat) (x : ItemD) : Prop where
  get : xs[i]? = some x
  idx : idx xs s = some i
  name : x.name = s
  kind : x.kind = 3
  err : trailErr xs f s = 0
  trail : trailL xs f s = trailOf xs f i
  leads : leadsB xs f (trailOf xs f i) = true
  len : 2 ≤ (trailOf xs f i).length
  last : (trailOf xs f i).getD ((trailOf xs f i).length - 1) ⟨#[]⟩ = s
theorem recalled_of {xs : List ItemD} (h : BookUq xs) {f : FaultD} (he : faultErr xs f = 0) {s : ByteArray} (hs : s ∈ namesOf xs (recMs xs [f])) : ∃ i x, Recalled xs f s i x := by
  obtain ⟨i, x, hx, hm, hn⟩ := recN_iff.1 hs
  have hi := (List.getElem?_eq_some_iff.1 hx).1
  rw [recMs_one hi] at hm
  unfold hitT at hm
  rw [Bool.and_eq_true, decide_eq_true_eq, hx] at hm
  obtain ⟨hm, hk⟩ := hm
  have hid : idx xs s = some i := by rw [← hn]; exact h.uniq i x hx
  have hte : trailErr xs f s = 0 := by unfold trailErr; rw [if_pos he, hid]; simp only; rw [if_pos hm]
  have hl := trail_leads h he hm hi
  refine ⟨i, x, hx, hid, hn, hk, hte, ?_, hl, ?_, ?_⟩
  · unfold trailL; rw [if_pos hte, hid]
  · unfold leadsB at hl
    simp only [Bool.and_eq_true, decide_eq_true_eq] at hl
    exact hl.1.1.2
  · rw [trail_last]
    unfold nameAt
    rw [hx]
    exact hn
/-- A name of the book that the fault may be in. -/
def TouchedN (xs : List ItemD) (f : FaultD) (s : ByteArray) : Prop := ∃ i, idx xs s = some i ∧ (touchedMs xs f).getD i false = true
/-- A choice that the fault came into, or the fault's own item at its time: the item is one that the fault may be in. -/
theorem touched_step {xs : List ItemD} (h : BookUq xs) {f : FaultD} (he : faultErr xs f = 0) {k : Nat} {x : ItemD} (hx : xs[k]? = some x) {c : List ByteArray} (hc : c ∈ x.frm) {s : ByteArray} (hs : s ∈ c) (ht : TouchedN xs f s ∨ (s = f.item ∧ f.since ≤ x.at_ ∧ x.at_ ≤ f.until_)) : TouchedN xs f x.name := by
  obtain ⟨i, hi, -⟩ := fault_some he
  have hms : touchedMs xs f = spAll xs i (fun x => during f x.at_) := by unfold touchedMs; simp only [hi]
  refine ⟨k, h.uniq k x hx, ?_⟩
  rw [hms, spAll_iff h hx]
  rcases ht with ⟨j, hj, hm⟩ | ⟨rfl, h1, h2⟩
  · exact ⟨j, ⟨x, hx, c, hc, s, hs, hj⟩, .inl (by rw [← hms]; exact hm)⟩
  · refine ⟨i, ⟨x, hx, c, hc, _, hs, hi⟩, .inr ⟨rfl, ?_⟩⟩
    simp [during, h1, h2]
theorem touched_rec {xs : List ItemD} (h : BookUq xs) {f : FaultD} {k : Nat} {x : ItemD} (hx : xs[k]? = some x) (hk : x.kind = 3) (ht : TouchedN xs f x.name) : hasN (namesOf xs (recMs xs [f])) x.name = true := by
  rw [hasN_iff']
  obtain ⟨i, hi, hm⟩ := ht
  rw [h.uniq k x hx] at hi
  obtain rfl := Option.some.inj hi
  refine recN_iff.2 ⟨k, x, hx, ?_, rfl⟩
  rw [recMs_one (List.getElem?_eq_some_iff.1 hx).1]
  unfold hitT
  rw [hm, hx]
  simp [hk]
end Go.Proofs.Ytlanephpmoajiaa

namespace Go.Proofs.Ytlanephpmoajiaa
open Go.RowKit
set_option linter.unusedVariables false
def touchedL (xs : List ItemD) (f : FaultD) : List ByteArray := if faultErr xs f = 0 then namesOf xs (touchedMs xs f) else []
theorem touchedMs_len {xs : List ItemD} {f : FaultD} (he : faultErr xs f = 0) : (touchedMs xs f).length = xs.length := by
  obtain ⟨i, hi, -⟩ := fault_some he
  unfold touchedMs
  simp only [hi]
  exact spAll_len _ _ _
theorem touched_has {xs : List ItemD} (h : BookUq xs) {f : FaultD} (he : faultErr xs f = 0) {nm : ByteArray} : hasN (touchedL xs f) nm = true ↔ ∃ i, idx xs nm = some i ∧ (touchedMs xs f).getD i false = true := by
  unfold touchedL
  rw [if_pos he, hasN_iff', namesOf_mem]
  constructor
  · rintro ⟨j, x, h1, h2, rfl⟩; exact ⟨j, h.uniq j x h1, getD_some h2⟩
  · rintro ⟨i, hi, hm⟩
    obtain ⟨x, hx, hn⟩ := idx_get hi
    exact ⟨i, x, hx, some_getD hm, hn⟩
theorem trail_bad {xs : List ItemD} {f : FaultD} {nm : ByteArray} (he : faultErr xs f ≠ 0) : trailErr xs f nm = faultErr xs f ∧ trailL xs f nm = [] := by
  have e : trailErr xs f nm = faultErr xs f := by unfold trailErr; rw [if_neg he]
  exact ⟨e, by unfold trailL; rw [e, if_neg he]⟩
theorem trail_miss {xs : List ItemD} (h : BookUq xs) {f : FaultD} {nm : ByteArray} (he : faultErr xs f = 0) (hh : hasN (touchedL xs f) nm = false) : trailErr xs f nm = 5 ∧ trailL xs f nm = [] := by
  have e : trailErr xs f nm = 5 := by
    unfold trailErr
    rw [if_pos he]
    cases hi : idx xs nm with
    | none => rfl
    | some i =>
      simp only
      rw [if_neg]
      intro hm
      have := (touched_has h he (nm := nm)).2 ⟨i, hi, hm⟩
      rw [hh] at this
      cases this
  exact ⟨e, by unfold trailL; rw [e, if_neg (by decide)]⟩
theorem trailGo_le (xs : List ItemD) (f : FaultD) : ∀ d i, (trailGo xs f d i).length ≤ d
  | 0, _ => Nat.le_refl _
  | d + 1, i => by
    unfold trailGo
    cases hx : xs[i]? with
    | none => simp
    | some x =>
      simp only
      split
      · simp
      · have := trailGo_le xs f d (tIn xs (touchedMs xs f) x.frm)
        simp; omega
theorem trail_hit {xs : List ItemD} (h : BookUq xs) {f : FaultD} {nm : ByteArray} (he : faultErr xs f = 0) (hh : hasN (touchedL xs f) nm = true) :
    trailErr xs f nm = 0 ∧ leadsB xs f (trailL xs f nm) = true ∧ 1 ≤ (trailL xs f nm).length ∧ (trailL xs f nm).length ≤ xs.length + 1 ∧ (trailL xs f nm)[(trailL xs f nm).length - 1]? = some nm := by
  obtain ⟨i, hi, hm⟩ := (touched_has h he).1 hh
  have hil := idx_lt hi
  have e : trailErr xs f nm = 0 := by unfold trailErr; rw [if_pos he, hi]; simp only; rw [if_pos hm]
  have eL : trailL xs f nm = trailOf xs f i := by unfold trailL; rw [e, if_pos rfl, hi]
  obtain ⟨x, hx, hn⟩ := idx_get hi
  have hlen : (trailOf xs f i).length = (trailGo xs f (i + 1) i).length + 1 := by unfold trailOf; simp
  have hle := trailGo_le xs f (i + 1) i
  refine ⟨e, by rw [eL]; exact trail_leads h he hm hil, by rw [eL]; omega, by rw [eL]; omega, ?_⟩
  rw [eL, List.getElem?_eq_getElem (by omega)]
  have hl := trail_last xs f i
  rw [List.getD_eq_getElem?_getD, List.getElem?_eq_getElem (by omega)] at hl
  simp only [Option.getD_some] at hl
  rw [hl]
  unfold nameAt
  rw [hx]
  exact congrArg some hn
end Go.Proofs.Ytlanephpmoajiaa

