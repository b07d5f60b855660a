/- Plain laws of holds: the marks do not hang on the length, and what is certain is a source. -/
import Derived.Test.YtlanephpmoajiaaCerts
namespace Go.Proofs.Ytlanephpmoajiaa
open Go.RowKit
set_option linter.unusedVariables false
set_option linter.unusedSimpArgs false
theorem cMark_congr {xs : List ItemD} (h : BookUq xs) {k : Nat} {m m' : List Bool} {i : Nat} (hm : ∀ c, c < i → m.getD c false = m'.getD c false) : cMark xs k m i = cMark xs k m' i := by
  unfold cMark
  cases hx : xs[i]? with
  | none => rfl
  | some x =>
    simp only
    have key : ∀ c ∈ x.frm, c.all (cOk xs m k) = c.all (cOk xs m' k) := fun c hc => by
      rw [Bool.eq_iff_iff, List.all_eq_true, List.all_eq_true]
      refine forall_congr' fun nm => forall_congr' fun hnm => ?_
      obtain ⟨j, hj, hji⟩ := h.ord i x hx c hc nm hnm
      unfold cOk
      simp only [hj, hm j hji]
    rw [Bool.eq_iff_iff, List.any_eq_true, List.any_eq_true]
    constructor
    · rintro ⟨c, hc, hh⟩; exact ⟨c, hc, by rw [← key c hc]; exact hh⟩
    · rintro ⟨c, hc, hh⟩; exact ⟨c, hc, by rw [key c hc]; exact hh⟩
theorem cGo_far {xs : List ItemD} {k n t : Nat} : ∀ d, t < k + 1 ∨ k + 1 + d ≤ t → (cGo xs k n d).getD t false = false
  | 0, _ => by simp [cGo, List.getD, List.getElem?_replicate]; split <;> rfl
  | d + 1, h => by
    simp only [cGo, getD_set]
    rw [if_neg (by omega)]
    exact cGo_far d (by omega)
theorem cGo_keep {xs : List ItemD} {k n t : Nat} : ∀ d e, t < k + 1 + d → d ≤ e → (cGo xs k n e).getD t false = (cGo xs k n d).getD t false
  | d, e, hk, he => by
    induction e with
    | zero => obtain rfl : d = 0 := by omega
              rfl
    | succ e ih =>
      rcases Nat.lt_or_ge e d with h | h
      · obtain rfl : d = e + 1 := by omega
        rfl
      · simp only [cGo, getD_set]
        rw [if_neg (by omega)]
        exact ih h
theorem cGo_len_free {xs : List ItemD} (h : BookUq xs) {k n n' : Nat} : ∀ d t, t < n → t < n' → (cGo xs k n d).getD t false = (cGo xs k n' d).getD t false
  | 0, t, h1, h2 => by simp [cGo, List.getD, List.getElem?_replicate, h1, h2]
  | d + 1, t, h1, h2 => by
    simp only [cGo, getD_set, cGo_len]
    by_cases ht : k + 1 + d = t
    · rw [if_pos ⟨ht, h1⟩, if_pos ⟨ht, h2⟩]
      exact cMark_congr h fun c hc => cGo_len_free h d c (by omega) (by omega)
    · rw [if_neg (by omega), if_neg (by omega)]
      exact cGo_len_free h d t h1 h2
/-- What the reference reads is the program's mark. -/
theorem certB_eq {xs : List ItemD} (h : BookUq xs) {i j : Nat} (hi : i < xs.length) (hj : j < i) : (cGo xs j xs.length (xs.length - j - 1)).getD i false = certB xs i j := by
  unfold certB
  rw [cGo_keep (i - j) (xs.length - j - 1) (by omega) (by omega)]
  exact cGo_len_free h _ _ hi (by omega)
/-- Every input of an item has a choice. -/
def BookNe (xs : List ItemD) : Prop := ∀ x ∈ xs, ∀ c ∈ x.frm, c ≠ []
theorem entAll_ne (xs : List ItemD) : BookNe (entAll xs) := by
  have key : ∀ (l acc : List ItemD), BookNe acc → BookNe (l.foldl entNew acc) := by
    intro l
    induction l with
    | nil => intro acc h; exact h
    | cons x l ih =>
      intro acc h
      refine ih _ ?_
      rcases entNew_cases acc x with ⟨hz, he⟩ | he
      · rw [he]
        have hc := (chk_zero hz).2.2.2.2.2.2.1
        intro y hy c hc'
        rcases List.mem_append.1 hy with hy | hy
        · exact h y hy c hc'
        · simp at hy
          subst hy
          intro e
          have := (hc c hc').1
          rw [e] at this
          simp at this
      · rw [he]; exact h
  exact key xs [] (fun x h => by simp at h)
theorem cGo_anc {xs : List ItemD} (h : BookUq xs) (hne : BookNe xs) {k n : Nat} : ∀ d t, (cGo xs k n d).getD t false = true → Anc xs t k
  | 0, t, ht => by simp [cGo, List.getD, List.getElem?_replicate] at ht; split at ht <;> simp at ht
  | d + 1, t, ht => by
    simp only [cGo, getD_set] at ht
    split at ht
    · rename_i hc
      obtain ⟨rfl, _⟩ := hc
      unfold cMark at ht
      cases hx : xs[k + 1 + d]? with
      | none => rw [hx] at ht; cases ht
      | some x =>
        rw [hx] at ht
        simp only [List.any_eq_true] at ht
        obtain ⟨c, hc, hall⟩ := ht
        obtain ⟨nm, l, hcl⟩ := List.exists_cons_of_ne_nil (hne x (mem_of_get? hx) c hc)
        have hnm : nm ∈ c := by rw [hcl]; exact List.mem_cons_self ..
        have ho := (List.all_eq_true.1 hall) nm hnm
        obtain ⟨j, hj, _⟩ := h.ord _ x hx c hc nm hnm
        have he : Edge xs (k + 1 + d) j := ⟨x, hx, c, hc, nm, hnm, hj⟩
        unfold cOk at ho
        simp only [hj, Bool.or_eq_true, decide_eq_true_eq] at ho
        rcases ho with rfl | ho
        · exact .one he
        · exact .more he (cGo_anc h hne d j ho)
    · exact cGo_anc h hne d t ht
theorem certB_anc {xs : List ItemD} (h : BookUq xs) (hne : BookNe xs) {i j : Nat} (hc : certB xs i j = true) : Anc xs i j := cGo_anc h hne _ _ hc
/-- Marks of what is certain: just the certain. -/
theorem certUp_all {xs : List ItemD} (h : BookUq xs) (hne : BookNe xs) {i j : Nat} (hi : i < xs.length) (hj : j < xs.length) : (certUp xs i xs.length)[j]? = some (decide (j < i) && certB xs i j) := by
  rw [certUp_get, List.getElem?_eq_getElem (by rw [ancMs_len]; exact hj)]
  simp only [Option.map_some, if_pos hj, Option.some.injEq]
  have ha := ancMs_iff h hi hj
  rw [List.getD_eq_getElem?_getD, List.getElem?_eq_getElem (by rw [ancMs_len]; exact hj), Option.getD_some] at ha
  rw [Bool.eq_iff_iff, Bool.and_eq_true, Bool.and_eq_true, ha, decide_eq_true_eq]
  constructor
  · rintro ⟨h1, h2⟩; exact ⟨h1.lt h, h2⟩
  · rintro ⟨_, h2⟩; exact ⟨certB_anc h hne h2, h2⟩
theorem certUp_cut {xs : List ItemD} (h : BookUq xs) (hne : BookNe xs) {i : Nat} (hi : i < xs.length) : namesOf xs (certUp xs i xs.length) = namesOf (xs.take i) ((certUp xs i xs.length).take i) :=
  namesOf_cut (certUp_len _ _ _) fun k hk hkl => by
    rw [List.getD_eq_getElem?_getD, certUp_all h hne hi hkl, Option.getD_some, decide_eq_false (by omega)]
    rfl
/-- The reference's marks: place j itself, and what has it for certain. -/
def rGo (xs : List ItemD) (j d : Nat) : List Bool := (cGo xs j xs.length d).set j true
theorem rGo_len (xs : List ItemD) (j d : Nat) : (rGo xs j d).length = xs.length := by unfold rGo; rw [List.length_set, cGo_len]
theorem rGo_at {xs : List ItemD} {j d t : Nat} (hj : j < xs.length) : (rGo xs j d).getD t false = (decide (t = j) || (cGo xs j xs.length d).getD t false) := by
  unfold rGo
  rw [getD_set, cGo_len]
  by_cases h : j = t
  · subst h; rw [if_pos ⟨rfl, hj⟩]; simp
  · rw [if_neg (fun h' => h h'.1), decide_eq_false (fun e => h e.symm)]; rfl
theorem rGo_cOk {xs : List ItemD} {j d : Nat} (hj : j < xs.length) {nm : ByteArray} {c : Nat} (hc : idx xs nm = some c) : (rGo xs j d).getD c false = cOk xs (cGo xs j xs.length d) j nm := by
  rw [rGo_at hj]; unfold cOk; simp only [hc]
/-- While the inputs of place k = j + 1 + d are looked at: a of them have been. -/
def rMid (xs : List ItemD) (j d : Nat) (x : ItemD) (a : Nat) : List Bool := (rGo xs j d).set (j + 1 + d) ((x.frm.take a).any (fun c => c.all (cOk xs (cGo xs j xs.length d) j)))
theorem rMid_len (xs : List ItemD) (j d : Nat) (x : ItemD) (a : Nat) : (rMid xs j d x a).length = xs.length := by unfold rMid; rw [List.length_set, rGo_len]
theorem rMid_zero {xs : List ItemD} {j d : Nat} (x : ItemD) (hj : j < xs.length) : rMid xs j d x 0 = rGo xs j d := by
  unfold rMid
  have h1 : (rGo xs j d).getD (j + 1 + d) false = false := by rw [rGo_at hj, cGo_far d (.inr (Nat.le_refl _)), decide_eq_false (by omega)]; rfl
  rw [List.take_zero, List.any_nil]
  conv => lhs; rw [← h1]
  exact set_getD _ _
theorem rMid_get {xs : List ItemD} {j d a t : Nat} {x : ItemD} (h : t < j + 1 + d) : (rMid xs j d x a).getD t false = (rGo xs j d).getD t false := by
  unfold rMid; rw [getD_set, if_neg (by omega)]
theorem rMid_self {xs : List ItemD} {j d a : Nat} {x : ItemD} (h : j + 1 + d < xs.length) : (rMid xs j d x a).getD (j + 1 + d) false = (x.frm.take a).any (fun c => c.all (cOk xs (cGo xs j xs.length d) j)) := by
  unfold rMid; rw [getD_set, if_pos ⟨rfl, by rw [rGo_len]; exact h⟩]
theorem rMid_succ {xs : List ItemD} {j d a : Nat} {x : ItemD} {c : List ByteArray} (hc : x.frm[a]? = some c) : rMid xs j d x (a + 1) = (rMid xs j d x a).set (j + 1 + d) ((x.frm.take a).any (fun c => c.all (cOk xs (cGo xs j xs.length d) j)) || c.all (cOk xs (cGo xs j xs.length d) j)) := by
  unfold rMid
  rw [List.set_set, take_snoc? hc, List.any_append]
  simp
theorem rMid_end {xs : List ItemD} {j d a : Nat} {x : ItemD} (hx : xs[j + 1 + d]? = some x) (ha : x.frm.length ≤ a) : rMid xs j d x a = rGo xs j (d + 1) := by
  unfold rMid rGo
  rw [List.take_of_length_le ha, List.set_comm _ _ (by omega)]
  congr 1
  simp only [cGo]
  unfold cMark
  simp only [hx]
theorem rGo_zero {xs : List ItemD} (j : Nat) : rGo xs j 0 = (List.replicate xs.length false).set j true := rfl
end Go.Proofs.Ytlanephpmoajiaa
