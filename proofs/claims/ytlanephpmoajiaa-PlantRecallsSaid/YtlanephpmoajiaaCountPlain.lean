/- Plain law of shifts and stocks: what Count and Gap compute. -/
import Derived.Test.YtlanephpmoajiaaBook
namespace Go.Proofs.Ytlanephpmoajiaa

structure ShiftD where
  built : Int
  lost : Int
  cured : Int
  scrapped : Int
  shipped : Int
structure StockD where
  green : Int
  cured : Int
deriving DecidableEq
def ShiftD.zero : ShiftD := ⟨0, 0, 0, 0, 0⟩
def StockD.zero : StockD := ⟨0, 0⟩
def allow (n : Int) : Bool := decide (0 ≤ n) && decide (n ≤ 1000000)
theorem allow_iff {n : Int} : allow n = true ↔ 0 ≤ n ∧ n ≤ 1000000 := by unfold allow; simp
theorem allow_no {n : Int} (h : n < 0 ∨ 1000000 < n) : allow n = false := by
  cases hb : allow n with
  | false => rfl
  | true => have := allow_iff.1 hb; omega
def shOk (x : ShiftD) : Bool := allow x.built && allow x.lost && allow x.cured && allow x.scrapped && allow x.shipped
def stOk (x : StockD) : Bool := allow x.green && allow x.cured
theorem shOk_bounds {x : ShiftD} (h : shOk x = true) : (0 ≤ x.built ∧ x.built ≤ 1000000) ∧ (0 ≤ x.lost ∧ x.lost ≤ 1000000) ∧ (0 ≤ x.cured ∧ x.cured ≤ 1000000) ∧ (0 ≤ x.scrapped ∧ x.scrapped ≤ 1000000) ∧ (0 ≤ x.shipped ∧ x.shipped ≤ 1000000) := by
  unfold shOk at h
  simp only [Bool.and_eq_true, allow_iff] at h
  exact ⟨h.1.1.1.1, h.1.1.1.2, h.1.1.2, h.1.2, h.2⟩
theorem stOk_bounds {x : StockD} (h : stOk x = true) : (0 ≤ x.green ∧ x.green ≤ 1000000) ∧ (0 ≤ x.cured ∧ x.cured ≤ 1000000) := by
  unfold stOk at h
  simp only [Bool.and_eq_true, allow_iff] at h
  exact h
def stAfter (s : StockD) (x : ShiftD) : StockD := ⟨s.green + x.built - x.lost - x.cured, s.cured + x.cured - x.scrapped - x.shipped⟩
/-- The stock after k shifts. -/
def stAt (s : StockD) (l : List ShiftD) (k : Nat) : StockD := (l.take k).foldl stAfter s
theorem stAt_zero (s : StockD) (l : List ShiftD) : stAt s l 0 = s := rfl
theorem stAt_succ {s : StockD} {l : List ShiftD} {k : Nat} {x : ShiftD} (h : l[k]? = some x) : stAt s l (k + 1) = stAfter (stAt s l k) x := by
  unfold stAt
  obtain ⟨hk, rfl⟩ := List.getElem?_eq_some_iff.1 h
  rw [List.take_succ_eq_append_getElem hk, List.foldl_append]
  rfl
/-- All shifts before k are right. -/
def ShTo (l : List ShiftD) (k : Nat) : Prop := ∀ j, j < k → ∀ x, l[j]? = some x → shOk x = true
theorem ShTo.zero (l : List ShiftD) : ShTo l 0 := fun j h => by omega
theorem ShTo.succ {l : List ShiftD} {k : Nat} {x : ShiftD} (h : ShTo l k) (hx : l[k]? = some x) (ho : shOk x = true) : ShTo l (k + 1) := fun j hj y hy => by
  rcases Nat.lt_or_ge j k with h1 | h1
  · exact h j h1 y hy
  · obtain rfl : j = k := by omega
    rw [hx] at hy
    obtain rfl := Option.some.inj hy
    exact ho
theorem stAt_bounds {s : StockD} {l : List ShiftD} (hs : stOk s = true) : ∀ {k : Nat}, ShTo l k → k ≤ l.length →
    -2000000 * (k : Int) ≤ (stAt s l k).green ∧ (stAt s l k).green ≤ 1000000 * ((k : Int) + 1) ∧ -2000000 * (k : Int) ≤ (stAt s l k).cured ∧ (stAt s l k).cured ≤ 1000000 * ((k : Int) + 1)
  | 0, _, _ => by have := stOk_bounds hs; rw [stAt_zero]; omega
  | k + 1, h, hk => by
    have ih := stAt_bounds hs (k := k) (fun j hj => h j (by omega)) (by omega)
    have hx : l[k]? = some l[k] := List.getElem?_eq_getElem (by omega)
    have hb := shOk_bounds (h k (by omega) _ hx)
    rw [stAt_succ hx]
    simp only [stAfter]
    omega
def stBad (room : Int) (s : StockD) : Bool := decide (s.green < 0) || decide (s.cured < 0) || decide (room < s.green)
/-- The error of shift k. -/
def cntAt (s : StockD) (l : List ShiftD) (room : Int) (k : Nat) : Int := if shOk (l.getD k .zero) = false then 1 else if stBad room (stAt s l (k + 1)) = true then 92 else 0
def cntErr (s : StockD) (l : List ShiftD) (room : Int) : Int := if 64 < l.length then 4 else if stOk s = false then 1 else firstNZ ((List.range l.length).map (cntAt s l room))
def cntList (s : StockD) (l : List ShiftD) (k : Nat) : List StockD := (List.range k).map (fun j => stAt s l (j + 1))
def cntOut (s : StockD) (l : List ShiftD) (room : Int) : List StockD := if cntErr s l room = 0 then cntList s l l.length else []
theorem cntList_succ (s : StockD) (l : List ShiftD) (k : Nat) : cntList s l (k + 1) = cntList s l k ++ [stAt s l (k + 1)] := by unfold cntList; rw [List.range_succ, List.map_append]; rfl
theorem cntList_len (s : StockD) (l : List ShiftD) (k : Nat) : (cntList s l k).length = k := by unfold cntList; simp
theorem cntList_at {s : StockD} {l : List ShiftD} {n k : Nat} (h : k < n) : (cntList s l n)[k]? = some (stAt s l (k + 1)) := by unfold cntList; simp [h]
/-- No error before k. -/
def CntTo (s : StockD) (l : List ShiftD) (room : Int) (k : Nat) : Prop := ∀ j, j < k → cntAt s l room j = 0
theorem CntTo.zero (s : StockD) (l : List ShiftD) (room : Int) : CntTo s l room 0 := fun j h => by omega
theorem CntTo.succ {s : StockD} {l : List ShiftD} {room : Int} {k : Nat} (h : CntTo s l room k) (h0 : cntAt s l room k = 0) : CntTo s l room (k + 1) := fun j hj => by
  rcases Nat.lt_or_ge j k with h1 | h1
  · exact h j h1
  · obtain rfl : j = k := by omega
    exact h0
theorem CntTo.sh {s : StockD} {l : List ShiftD} {room : Int} {k : Nat} (h : CntTo s l room k) : ShTo l k := fun j hj x hx => by
  have := h j hj
  unfold cntAt at this
  rw [List.getD_eq_getElem?_getD, hx] at this
  cases hb : shOk x with
  | true => rfl
  | false => simp [hb] at this
theorem cntAt_bad {s : StockD} {l : List ShiftD} {room : Int} {k : Nat} {x : ShiftD} (hx : l[k]? = some x) (h : shOk x = false) : cntAt s l room k = 1 := by
  unfold cntAt; rw [List.getD_eq_getElem?_getD, hx]; simp [h]
theorem cntAt_store {s : StockD} {l : List ShiftD} {room : Int} {k : Nat} {x : ShiftD} (hx : l[k]? = some x) (h : shOk x = true) (h2 : stBad room (stAt s l (k + 1)) = true) : cntAt s l room k = 92 := by
  unfold cntAt; rw [List.getD_eq_getElem?_getD, hx]; simp [h, h2]
theorem cntAt_ok {s : StockD} {l : List ShiftD} {room : Int} {k : Nat} {x : ShiftD} (hx : l[k]? = some x) (h : shOk x = true) (h2 : stBad room (stAt s l (k + 1)) = false) : cntAt s l room k = 0 := by
  unfold cntAt; rw [List.getD_eq_getElem?_getD, hx]; simp [h, h2]
theorem cntErr_hit {s : StockD} {l : List ShiftD} {room : Int} {k : Nat} {e : Int} (hl : l.length ≤ 64) (hs : stOk s = true) (h : CntTo s l room k) (hk : k < l.length) (he : cntAt s l room k = e) (h0 : e ≠ 0) : cntErr s l room = e := by
  unfold cntErr
  rw [if_neg (by omega), if_neg (by simp [hs])]
  refine firstNZ_hit (k := k) (by simp [hk, he]) h0 fun j hj x hx => ?_
  have hjl : j < l.length := by omega
  simp [hjl] at hx
  rw [← hx]; exact h j hj
theorem cntErr_ok {s : StockD} {l : List ShiftD} {room : Int} (hl : l.length ≤ 64) (hs : stOk s = true) (h : CntTo s l room l.length) : cntErr s l room = 0 := by
  unfold cntErr
  rw [if_neg (by omega), if_neg (by simp [hs])]
  refine firstNZ_zero fun e he => ?_
  obtain ⟨j, hj, rfl⟩ := List.mem_map.1 he
  exact h j (List.mem_range.1 hj)
theorem cntErr_zero {s : StockD} {l : List ShiftD} {room : Int} (h : cntErr s l room = 0) : l.length ≤ 64 ∧ stOk s = true ∧ CntTo s l room l.length := by
  unfold cntErr at h
  split at h
  · omega
  · split at h
    · omega
    · rename_i h1 h2
      refine ⟨by omega, by simpa using h2, fun j hj => ?_⟩
      by_cases hz : cntAt s l room j = 0
      · exact hz
      · exfalso
        clear h1 h2
        have key : ∀ (l' : List Int), firstNZ l' = 0 → ∀ e ∈ l', e = 0 := by
          intro l'
          induction l' with
          | nil => intro _ e he; simp at he
          | cons a t ih =>
            intro h e he
            simp only [firstNZ] at h
            split at h
            · rename_i ha
              rcases List.mem_cons.1 he with rfl | he
              · exact ha
              · exact ih h e he
            · rename_i ha; exact absurd h ha
        exact hz (key _ h _ (List.mem_map.2 ⟨j, List.mem_range.2 hj, rfl⟩))
/-- Gap. -/
def gapOk (s : StockD) (l : List ShiftD) (seen : List StockD) : Bool := stOk s && l.all shOk && seen.all stOk
def gapAt (s : StockD) (l : List ShiftD) (seen : List StockD) (k : Nat) : Bool := decide (seen.getD k .zero ≠ stAt s l (k + 1))
def gapIdx (s : StockD) (l : List ShiftD) (seen : List StockD) : Option Nat := (List.range l.length).find? (gapAt s l seen)
def gapErr (s : StockD) (l : List ShiftD) (seen : List StockD) : Int := if 64 < l.length ∨ seen.length ≠ l.length then 4 else if gapOk s l seen = false then 1 else 0
def gapI (s : StockD) (l : List ShiftD) (seen : List StockD) : Int := if gapErr s l seen = 0 then match gapIdx s l seen with | some k => k | none => -1 else 0
def gapD (s : StockD) (l : List ShiftD) (seen : List StockD) : StockD := if gapErr s l seen = 0 then match gapIdx s l seen with | some k => ⟨(seen.getD k .zero).green - (stAt s l (k + 1)).green, (seen.getD k .zero).cured - (stAt s l (k + 1)).cured⟩ | none => ⟨0, 0⟩ else ⟨0, 0⟩
def GapTo (s : StockD) (l : List ShiftD) (seen : List StockD) (k : Nat) : Prop := ∀ j, j < k → gapAt s l seen j = false
theorem GapTo.zero (s : StockD) (l : List ShiftD) (seen : List StockD) : GapTo s l seen 0 := fun j h => by omega
theorem GapTo.succ {s : StockD} {l : List ShiftD} {seen : List StockD} {k : Nat} (h : GapTo s l seen k) (h0 : gapAt s l seen k = false) : GapTo s l seen (k + 1) := fun j hj => by
  rcases Nat.lt_or_ge j k with h1 | h1
  · exact h j h1
  · obtain rfl : j = k := by omega
    exact h0
theorem gapIdx_hit {s : StockD} {l : List ShiftD} {seen : List StockD} {k : Nat} (h : GapTo s l seen k) (hk : k < l.length) (h0 : gapAt s l seen k = true) : gapIdx s l seen = some k := by
  unfold gapIdx
  rw [List.find?_range_eq_some]
  exact ⟨h0, by simpa using hk, fun j hj => by simp [h j hj]⟩
theorem gapIdx_none {s : StockD} {l : List ShiftD} {seen : List StockD} (h : GapTo s l seen l.length) : gapIdx s l seen = none := by
  unfold gapIdx
  rw [List.find?_eq_none]
  intro j hj
  simp [h j (List.mem_range.1 hj)]
end Go.Proofs.Ytlanephpmoajiaa
