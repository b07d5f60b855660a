/- Plain law of PlantCloses. -/
import Derived.Test.YtlanephpmoajiaaCountPlain
namespace Go.Proofs.Ytlanephpmoajiaa
set_option linter.unusedVariables false
def grownAt (s : StockD) (l : List ShiftD) (k : Nat) : Int := (stAt s l k).green + (stAt s l k).cured - s.green - s.cured
theorem grownAt_zero (s : StockD) (l : List ShiftD) : grownAt s l 0 = 0 := by unfold grownAt; rw [stAt_zero]; omega
theorem grownAt_succ {s : StockD} {l : List ShiftD} {k : Nat} {x : ShiftD} (h : l[k]? = some x) : grownAt s l (k + 1) = grownAt s l k + (x.built - x.lost - x.scrapped - x.shipped) := by
  unfold grownAt; rw [stAt_succ h]; simp only [stAfter]; omega
theorem cnt_ok_at {s : StockD} {l : List ShiftD} {room : Int} (h : cntErr s l room = 0) {k : Nat} (hk : k < l.length) : 0 ≤ (stAt s l (k + 1)).green ∧ 0 ≤ (stAt s l (k + 1)).cured ∧ (stAt s l (k + 1)).green ≤ room := by
  obtain ⟨_, _, ht⟩ := cntErr_zero h
  have := ht k hk
  unfold cntAt at this
  split at this
  · omega
  · split at this
    · omega
    · rename_i h1 h2
      unfold stBad at h2
      simp only [Bool.or_eq_true, decide_eq_true_eq] at h2
      omega
theorem stOk_of {x : StockD} (h1 : 0 ≤ x.green ∧ x.green ≤ 1000000) (h2 : 0 ≤ x.cured ∧ x.cured ≤ 1000000) : stOk x = true := by
  unfold stOk; rw [allow_iff.2 h1, allow_iff.2 h2]; rfl
/-- All stocks are at most a million. -/
def Fits (s : StockD) (l : List ShiftD) (k : Nat) : Prop := ∀ j, j < k → (stAt s l (j + 1)).green ≤ 1000000 ∧ (stAt s l (j + 1)).cured ≤ 1000000
theorem Fits.zero (s : StockD) (l : List ShiftD) : Fits s l 0 := fun j h => by omega
theorem Fits.succ {s : StockD} {l : List ShiftD} {k : Nat} (h : Fits s l k) (h0 : (stAt s l (k + 1)).green ≤ 1000000 ∧ (stAt s l (k + 1)).cured ≤ 1000000) : Fits s l (k + 1) := fun j hj => by
  rcases Nat.lt_or_ge j k with h1 | h1
  · exact h j h1
  · obtain rfl : j = k := by omega
    exact h0
theorem mem_cnt {s : StockD} {l : List ShiftD} {n : Nat} {x : StockD} (h : x ∈ cntList s l n) : ∃ j, j < n ∧ x = stAt s l (j + 1) := by
  unfold cntList at h
  obtain ⟨j, hj, rfl⟩ := List.mem_map.1 h
  exact ⟨j, List.mem_range.1 hj, rfl⟩
theorem gapErr_set {s : StockD} {l : List ShiftD} {room : Int} (h : cntErr s l room = 0) (hf : Fits s l l.length) {seen : List StockD} (hl : seen.length = l.length) (hm : ∀ (j : Nat) (x : StockD), seen[j]? = some x → stOk x = true) : gapErr s l seen = 0 := by
  obtain ⟨h64, hs, ht⟩ := cntErr_zero h
  unfold gapErr
  rw [if_neg (by omega), if_neg]
  have h2 : l.all shOk = true := by
    rw [List.all_eq_true]
    intro x hx
    obtain ⟨j, hj⟩ := List.mem_iff_getElem?.1 hx
    exact ht.sh j (List.getElem?_eq_some_iff.1 hj).1 x hj
  have h3 : seen.all stOk = true := by
    rw [List.all_eq_true]
    intro x hx
    obtain ⟨j, hj⟩ := List.mem_iff_getElem?.1 hx
    exact hm j x hj
  unfold gapOk
  rw [hs, h2, h3]
  decide
/-- The stocks as counted: no gap. -/
theorem closes_a {s : StockD} {l : List ShiftD} {room : Int} (h : cntErr s l room = 0) (hf : Fits s l l.length) :
    gapErr s l (cntList s l l.length) = 0 ∧ gapI s l (cntList s l l.length) = -1 ∧ (gapD s l (cntList s l l.length)).green = 0 ∧ (gapD s l (cntList s l l.length)).cured = 0 := by
  have e := gapErr_set h hf (cntList_len s l l.length) (fun j x hx => by
    have hj := (List.getElem?_eq_some_iff.1 hx).1
    rw [cntList_len] at hj
    rw [cntList_at hj] at hx
    obtain rfl := Option.some.inj hx
    have h1 := cnt_ok_at h hj
    have h2 := hf j hj
    exact stOk_of ⟨h1.1, h2.1⟩ ⟨h1.2.1, h2.2⟩)
  have hi : gapIdx s l (cntList s l l.length) = none := gapIdx_none fun j hj => by
    unfold gapAt
    rw [List.getD_eq_getElem?_getD, cntList_at hj]
    simp
  refine ⟨e, ?_, ?_, ?_⟩
  · unfold gapI; rw [if_pos e, hi]
  · unfold gapD; rw [if_pos e, hi]
  · unfold gapD; rw [if_pos e, hi]
/-- One stock is changed. -/
theorem closes_b {s : StockD} {l : List ShiftD} {room : Int} (h : cntErr s l room = 0) (hf : Fits s l l.length) {k : Nat} (hk : k < l.length) {y : StockD} (hy : y ≠ stAt s l (k + 1)) (ho : stOk y = true) :
    gapErr s l ((cntList s l l.length).set k y) = 0 ∧ gapI s l ((cntList s l l.length).set k y) = k ∧ (gapD s l ((cntList s l l.length).set k y)).green = y.green - (stAt s l (k + 1)).green ∧ (gapD s l ((cntList s l l.length).set k y)).cured = y.cured - (stAt s l (k + 1)).cured := by
  have hset : ∀ j, ((cntList s l l.length).set k y)[j]? = if k = j then (if k < l.length then some y else none) else (cntList s l l.length)[j]? := fun j => by
    rw [List.getElem?_set, cntList_len]
  have e := gapErr_set h hf (seen := (cntList s l l.length).set k y) (by rw [List.length_set, cntList_len]) (fun j x hx => by
    rw [hset] at hx
    split at hx
    · first | (rw [if_pos hk] at hx; obtain rfl := Option.some.inj hx; exact ho) | (obtain rfl := Option.some.inj hx; exact ho) | (simp at hx; rw [← hx.2]; exact ho)
    · have hj := (List.getElem?_eq_some_iff.1 hx).1
      rw [cntList_len] at hj
      rw [cntList_at hj] at hx
      obtain rfl := Option.some.inj hx
      have h1 := cnt_ok_at h hj
      have h2 := hf j hj
      exact stOk_of ⟨h1.1, h2.1⟩ ⟨h1.2.1, h2.2⟩)
  have hgk : ((cntList s l l.length).set k y).getD k .zero = y := by rw [List.getD_eq_getElem?_getD, hset, if_pos rfl, if_pos hk]; rfl
  have hi : gapIdx s l ((cntList s l l.length).set k y) = some k := gapIdx_hit (fun j hj => by
    unfold gapAt
    rw [List.getD_eq_getElem?_getD, hset, if_neg (by omega), cntList_at (by omega)]
    simp) hk (by unfold gapAt; rw [hgk]; simpa using hy)
  refine ⟨e, ?_, ?_, ?_⟩
  · unfold gapI; rw [if_pos e, hi]
  · unfold gapD; rw [if_pos e, hi]; simp only [hgk]
  · unfold gapD; rw [if_pos e, hi]; simp only [hgk]
theorem closes_c {s : StockD} {l : List ShiftD} {room : Int} (h : cntErr s l room = 0) {k : Nat} (hk : k < l.length) {y : StockD} (ho : stOk y = false) : gapErr s l ((cntList s l l.length).set k y) = 1 := by
  obtain ⟨h64, hs, ht⟩ := cntErr_zero h
  unfold gapErr
  rw [if_neg (by rw [List.length_set, cntList_len]; omega), if_pos]
  unfold gapOk
  have : ((cntList s l l.length).set k y).all stOk = false := by
    rw [List.all_eq_false]
    exact ⟨y, List.mem_of_getElem? (i := k) (by rw [List.getElem?_set, cntList_len, if_pos rfl, if_pos hk]), by simp [ho]⟩
  rw [this]; simp
end Go.Proofs.Ytlanephpmoajiaa
