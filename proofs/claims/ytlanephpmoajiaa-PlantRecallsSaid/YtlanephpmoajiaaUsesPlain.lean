/- Plain laws of spread and of the items that are entered. -/
import Derived.Test.YtlanephpmoajiaaBooks
import Derived.Test.YtlanephpmoajiaaTouched
namespace Go.Proofs.Ytlanephpmoajiaa
open Go.RowKit

/-- One list of marks holds another. -/
def LeM (a b : List Bool) : Prop := ∀ j, a.getD j false = true → b.getD j false = true
theorem LeM.refl (a : List Bool) : LeM a a := fun _ h => h
theorem getD_set (m : List Bool) (k : Nat) (v : Bool) (j : Nat) : (m.set k v).getD j false = if k = j ∧ j < m.length then v else m.getD j false := by
  simp only [List.getD, List.getElem?_set]
  by_cases h : k = j
  · subst h
    by_cases h2 : k < m.length
    · simp [h2]
    · simp [h2]
  · simp [h]
theorem spHit_mono {xs : List ItemD} {m m' : List Bool} {i : Nat} {q q' : Bool} (hm : LeM m m') (hq : q = true → q' = true) {nm : ByteArray} (h : spHit xs m i q nm = true) : spHit xs m' i q' nm = true := by
  unfold spHit at h ⊢
  cases hi : idx xs nm with
  | none => simp [hi] at h
  | some c =>
    simp only [hi, Bool.or_eq_true, Bool.and_eq_true, decide_eq_true_eq] at h ⊢
    rcases h with h | ⟨h1, h2⟩
    · exact .inl (hm c h)
    · exact .inr ⟨h1, hq h2⟩
theorem spMark_mono {xs : List ItemD} {i : Nat} {q q' : ItemD → Bool} {m m' : List Bool} (hm : LeM m m') (hq : ∀ x ∈ xs, q x = true → q' x = true) {k : Nat} (h : spMark xs i q m k = true) : spMark xs i q' m' k = true := by
  unfold spMark at h ⊢
  cases hx : xs[k]? with
  | none => simp [hx] at h
  | some x =>
    simp only [hx, List.any_eq_true] at h ⊢
    obtain ⟨c, hc, s, hs, h⟩ := h
    exact ⟨c, hc, s, hs, spHit_mono hm (hq x (mem_of_get? hx)) h⟩
theorem spGo_mono {xs : List ItemD} {i : Nat} {q q' : ItemD → Bool} (hq : ∀ x ∈ xs, q x = true → q' x = true) : ∀ d, LeM (spGo xs i q d) (spGo xs i q' d)
  | 0 => LeM.refl _
  | d + 1 => fun j h => by
    have ih := spGo_mono (i := i) hq d
    simp only [spGo, getD_set, spGo_len] at h ⊢
    split at h
    · rename_i hc
      rw [if_pos hc]; exact spMark_mono ih hq h
    · rename_i hc
      rw [if_neg hc]; exact ih j h
theorem spAll_mono {xs : List ItemD} {i : Nat} {q q' : ItemD → Bool} (hq : ∀ x ∈ xs, q x = true → q' x = true) : LeM (spAll xs i q) (spAll xs i q') := spGo_mono hq _
theorem leM_antisymm {a b : List Bool} (hl : a.length = b.length) (h1 : LeM a b) (h2 : LeM b a) : a = b := by
  refine List.ext_getElem hl fun j ha hb => ?_
  have e1 : a.getD j false = a[j] := by simp [List.getD, List.getElem?_eq_getElem ha]
  have e2 : b.getD j false = b[j] := by simp [List.getD, List.getElem?_eq_getElem hb]
  have p1 := h1 j
  have p2 := h2 j
  rw [e1, e2] at p1 p2
  cases hx : a[j] <;> cases hy : b[j] <;> simp_all
theorem spAll_congr {xs : List ItemD} {i : Nat} {q q' : ItemD → Bool} (hq : ∀ x ∈ xs, q x = q' x) : spAll xs i q = spAll xs i q' :=
  leM_antisymm (by rw [spAll_len, spAll_len]) (spAll_mono fun x hx h => by rw [← hq x hx]; exact h) (spAll_mono fun x hx h => by rw [hq x hx]; exact h)
theorem namesOf_mem {xs : List ItemD} {ms : List Bool} {s : ByteArray} : s ∈ namesOf xs ms ↔ ∃ (j : Nat) (x : ItemD), xs[j]? = some x ∧ ms[j]? = some true ∧ x.name = s := by
  unfold namesOf
  rw [List.mem_map]
  constructor
  · rintro ⟨⟨x, b⟩, h, rfl⟩
    rw [List.mem_filter] at h
    obtain ⟨h1, h2⟩ := h
    simp only at h2
    subst h2
    obtain ⟨j, hj⟩ := List.mem_iff_getElem?.1 h1
    rw [List.getElem?_zip_eq_some] at hj
    exact ⟨j, x, hj.1, hj.2, rfl⟩
  · rintro ⟨j, x, h1, h2, rfl⟩
    refine ⟨(x, true), List.mem_filter.2 ⟨List.mem_iff_getElem?.2 ⟨j, ?_⟩, rfl⟩, rfl⟩
    rw [List.getElem?_zip_eq_some]
    exact ⟨h1, h2⟩
theorem namesOf_mono {xs : List ItemD} {a b : List Bool} (h : LeM a b) {s : ByteArray} (hs : s ∈ namesOf xs a) : s ∈ namesOf xs b := by
  obtain ⟨j, x, h1, h2, h3⟩ := namesOf_mem.1 hs
  have := h j (by simp [List.getD, h2])
  refine namesOf_mem.2 ⟨j, x, h1, ?_, h3⟩
  simp only [List.getD] at this
  cases hb : b[j]? with
  | none => simp [hb] at this
  | some v => simp [hb] at this; rw [this]

/-! The items that are entered. -/
theorem entNew_cases (xs : List ItemD) (x : ItemD) : (chk xs x = 0 ∧ entNew xs x = xs ++ [x]) ∨ entNew xs x = xs := by
  unfold entNew entErr
  by_cases h : chk xs x = 0
  · rw [if_pos h]
    by_cases h2 : 1024 ≤ xs.length
    · rw [if_pos h2]; exact .inr (by simp)
    · rw [if_neg h2]; exact .inl ⟨h, by simp⟩
  · rw [if_neg h, if_neg h]; exact .inr rfl
theorem idx_snoc_some {xs : List ItemD} {x : ItemD} {nm : ByteArray} {i : Nat} (h : idx xs nm = some i) : idx (xs ++ [x]) nm = some i := by
  unfold idx at h ⊢; rw [List.findIdx?_append, h]; rfl
theorem firstNZ_all {l : List Int} (h : firstNZ l = 0) : ∀ e ∈ l, e = 0 := by
  induction l with
  | nil => intro e he; simp at he
  | cons y l ih =>
    intro e he
    simp only [firstNZ] at h
    split at h
    · rename_i hy
      rcases List.mem_cons.1 he with rfl | he
      · exact hy
      · exact ih h e he
    · exact absurd h ‹_›
/-- What a book of entered items fulfils. -/
structure BookOk (xs : List ItemD) : Prop where
  found : Found xs
  small : ∀ x ∈ xs, SmallI x
  at0 : ∀ x ∈ xs, 0 ≤ x.at_ ∧ x.at_ ≤ 9223372036854775807
theorem BookOk.nil : BookOk [] := ⟨fun x h => by simp at h, fun x h => by simp at h, fun x h => by simp at h⟩
theorem BookOk.enter {xs : List ItemD} {x : ItemD} (h : BookOk xs) (hs : SmallI x) (hw : ItemWf x) : BookOk (entNew xs x) := by
  rcases entNew_cases xs x with ⟨hz, he⟩ | he
  · rw [he]
    have hc := chk_zero hz
    refine ⟨fun y hy c hc' nm hnm => ?_, fun y hy => ?_, fun y hy => ?_⟩
    · rcases List.mem_append.1 hy with hy | hy
      · obtain ⟨h1, h2⟩ := h.found y hy c hc' nm hnm
        obtain ⟨i, hi⟩ := Option.isSome_iff_exists.1 h2
        exact ⟨h1, by rw [idx_snoc_some hi]; rfl⟩
      · simp at hy
        subst hy
        refine ⟨hw.frm c hc' nm hnm, ?_⟩
        have h0 := hc.2.2.2.2.2.2.2.2 c hc'
        obtain ⟨k, hk⟩ := List.mem_iff_getElem?.1 hnm
        have hkl := (List.getElem?_eq_some_iff.1 hk).1
        have h1 := firstNZ_all h0 (chkAt xs y c k) (List.mem_map.2 ⟨k, List.mem_range.2 hkl, rfl⟩)
        cases hi : idx xs nm with
        | none => rw [chkAt_none hk hi] at h1; cases h1
        | some i => rw [idx_snoc_some hi]; rfl
    · rcases List.mem_append.1 hy with hy | hy
      · exact h.small y hy
      · simp at hy; subst hy; exact hs
    · rcases List.mem_append.1 hy with hy | hy
      · exact h.at0 y hy
      · simp at hy
        subst hy
        refine ⟨hc.2.2.2.1, ?_⟩
        have := hw.at_
        simp only [Lit.wf, Bool.and_eq_true, decide_eq_true_eq] at this
        exact this.2
  · rw [he]; exact h
theorem entAll_ok {xs : List ItemD} (hf : ∀ x ∈ xs, SmallI x) (hw : ∀ x ∈ xs, ItemWf x) : BookOk (entAll xs) := by
  have key : ∀ (l acc : List ItemD), BookOk acc → (∀ x ∈ l, SmallI x) → (∀ x ∈ l, ItemWf x) → BookOk (l.foldl entNew acc) := by
    intro l
    induction l with
    | nil => intro acc h _ _; exact h
    | cons x l ih => intro acc h h1 h2; exact ih _ (h.enter (h1 x (List.mem_cons_self ..)) (h2 x (List.mem_cons_self ..))) (fun y hy => h1 y (List.mem_cons_of_mem _ hy)) (fun y hy => h2 y (List.mem_cons_of_mem _ hy))
  exact key xs [] BookOk.nil hf hw
end Go.Proofs.Ytlanephpmoajiaa
