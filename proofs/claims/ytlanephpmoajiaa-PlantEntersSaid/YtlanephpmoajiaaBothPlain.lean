/- Plain laws of PlantBothWays: sources and uses as the same relation of places; single choices. -/
import Derived.Test.YtlanephpmoajiaaCertPlain
namespace Go.Proofs.Ytlanephpmoajiaa
open Go.RowKit
set_option linter.unusedVariables false
/-- Every input has one choice. -/
def OneCh (xs : List ItemD) : Prop := ∀ x ∈ xs, ∀ c ∈ x.frm, c.length = 1
def oneB (xs : List ItemD) : Bool := xs.all (fun x => x.frm.all (fun c => decide (c.length = 1)))
theorem oneB_iff {xs : List ItemD} : oneB xs = true ↔ OneCh xs := by
  unfold oneB OneCh
  simp only [List.all_eq_true, decide_eq_true_eq]
theorem cGo_of_anc {xs : List ItemD} (h : BookUq xs) (ho : OneCh xs) {k n : Nat} : ∀ d t, t < n → t < k + 1 + d → Anc xs t k → (cGo xs k n d).getD t false = true
  | 0, t, h1, h2, ha => by have := ha.lt h; omega
  | d + 1, t, h1, h2, ha => by
    simp only [cGo, getD_set, cGo_len]
    by_cases ht : k + 1 + d = t
    · rw [if_pos ⟨ht, h1⟩, ht]
      have key : ∀ j, Edge xs t j → (j = k ∨ Anc xs j k) → cMark xs k (cGo xs k n d) t = true := by
        rintro j ⟨x, hx, c, hc, nm, hnm, hj⟩ hjk
        unfold cMark
        rw [hx]
        simp only [List.any_eq_true]
        refine ⟨c, hc, ?_⟩
        have hl := ho x (mem_of_get? hx) c hc
        rw [List.all_eq_true]
        intro nm' hnm'
        obtain ⟨a, rfl⟩ := List.length_eq_one_iff.1 hl
        simp at hnm hnm'
        subst hnm' hnm
        unfold cOk
        simp only [hj, Bool.or_eq_true, decide_eq_true_eq]
        rcases hjk with rfl | hjk
        · exact .inl rfl
        · refine .inr (cGo_of_anc h ho d j ?_ ?_ hjk)
          · have := Edge.lt h ⟨x, hx, _, hc, _, List.mem_singleton.2 rfl, hj⟩; omega
          · have := Edge.lt h ⟨x, hx, _, hc, _, List.mem_singleton.2 rfl, hj⟩; omega
      cases ha with
      | one e => exact key _ e (.inl rfl)
      | more e hl => exact key _ e (.inr hl)
    · rw [if_neg (fun h => ht h.1)]
      exact cGo_of_anc h ho d t h1 (by omega) ha
theorem certB_of_anc {xs : List ItemD} (h : BookUq xs) (ho : OneCh xs) {i j : Nat} (ha : Anc xs i j) : certB xs i j = true := by
  have := ha.lt h
  exact cGo_of_anc h ho _ _ (by omega) (by omega) ha
theorem cert_single {xs : List ItemD} (h : BookUq xs) (ho : OneCh xs) {i : Nat} (hi : i < xs.length) : certUp xs i xs.length = ancMs xs i := by
  refine List.ext_getElem? fun t => ?_
  rw [certUp_get]
  by_cases ht : t < xs.length
  · rw [List.getElem?_eq_getElem (by rw [ancMs_len]; exact ht)]
    simp only [Option.map_some, if_pos ht, Option.some.injEq]
    cases hb : (ancMs xs i)[t]'(by rw [ancMs_len]; exact ht) with
    | false => rfl
    | true =>
      have ha := (ancMs_iff h hi ht).1 (by rw [List.getD_eq_getElem?_getD, List.getElem?_eq_getElem (by rw [ancMs_len]; exact ht), hb]; rfl)
      rw [certB_of_anc h ho ha]; rfl
  · rw [List.getElem?_eq_none (by rw [ancMs_len]; omega)]; rfl
theorem name_at {xs : List ItemD} (h : BookUq xs) {ms : List Bool} {j : Nat} {x : ItemD} (hx : xs[j]? = some x) : x.name ∈ namesOf xs ms ↔ ms.getD j false = true := by
  rw [namesOf_mem, List.getD_eq_getElem?_getD]
  constructor
  · rintro ⟨j', x', h1, h2, h3⟩
    obtain rfl := h.inj h1 hx h3
    rw [h2]; rfl
  · intro hm
    cases hb : ms[j]? with
    | none => rw [hb] at hm; cases hm
    | some b => rw [hb] at hm; exact ⟨j, x, hx, by rw [hb]; exact congrArg some hm, rfl⟩
/-- The sources, what is certain, and the uses of the item at place i. -/
def srcN (xs : List ItemD) (i : Nat) : List ByteArray := namesOf xs (ancMs xs i)
def certN (xs : List ItemD) (i : Nat) : List ByteArray := namesOf xs (certUp xs i xs.length)
def useN (xs : List ItemD) (i : Nat) : List ByteArray := namesOf xs (spAll xs i (fun _ => true))
theorem src_mem {xs : List ItemD} (h : BookUq xs) {i j : Nat} {x : ItemD} (hi : i < xs.length) (hx : xs[j]? = some x) : x.name ∈ srcN xs i ↔ Anc xs i j := by
  unfold srcN
  rw [name_at h hx, ancMs_iff h hi (List.getElem?_eq_some_iff.1 hx).1]
theorem use_mem {xs : List ItemD} (h : BookUq xs) {i j : Nat} {y : ItemD} (hy : xs[i]? = some y) : y.name ∈ useN xs j ↔ Anc xs i j := by
  unfold useN
  rw [name_at h hy, uses_anc h (List.getElem?_eq_some_iff.1 hy).1]
theorem both_ways {xs : List ItemD} (h : BookUq xs) {i j : Nat} {x y : ItemD} (hx : xs[j]? = some x) (hy : xs[i]? = some y) : hasN (useN xs j) y.name = hasN (srcN xs i) x.name := by
  rw [Bool.eq_iff_iff, hasN_iff', hasN_iff', src_mem h (List.getElem?_eq_some_iff.1 hy).1 hx, use_mem h hy]
theorem cert_src {xs : List ItemD} {i : Nat} {s : ByteArray} (hs : s ∈ certN xs i) : hasN (srcN xs i) s = true := by
  rw [hasN_iff']
  refine namesOf_mono (fun k hk => ?_) hs
  simp only [List.getD_eq_getElem?_getD, certUp_get] at hk ⊢
  cases hb : (ancMs xs i)[k]? with
  | none => rw [hb] at hk; simp at hk
  | some b =>
    rw [hb] at hk
    simp only [Option.map_some, Option.getD_some] at hk ⊢
    split at hk
    · exact (Bool.and_eq_true _ _ ▸ hk).1
    · exact hk
theorem src_src {xs : List ItemD} (h : BookUq xs) {i j : Nat} {x : ItemD} (hi : i < xs.length) (hx : xs[j]? = some x) (hin : hasN (srcN xs i) x.name = true) {z : ByteArray} (hz : z ∈ srcN xs j) : hasN (srcN xs i) z = true := by
  rw [hasN_iff'] at hin ⊢
  have ha := (src_mem h hi hx).1 hin
  obtain ⟨l, y, hy, -, rfl⟩ := namesOf_mem.1 hz
  have hb := (src_mem h (List.getElem?_eq_some_iff.1 hx).1 hy).1 hz
  exact (src_mem h hi hy).2 (ha.trans hb)
theorem one_cert {xs : List ItemD} (h : BookUq xs) (ho : oneB xs = true) {i : Nat} (hi : i < xs.length) : certN xs i = srcN xs i := by
  unfold certN srcN
  rw [cert_single h (oneB_iff.1 ho) hi]
end Go.Proofs.Ytlanephpmoajiaa
