/- Plain laws of the library's stable sort: a job is put into a sorted list, two blocks are exchanged, two sorted lists are merged in place. -/
import Derived.Test.YtogccnngdfancaaGreatPart02
namespace Go.Proofs.YtogccnngdfancaaGreat
set_option linter.unusedVariables false
set_option linter.unusedSimpArgs false
/-- First by the press, then by the start. -/
def ltJ (x y : JobD) : Bool := decide (x.press < y.press) || (decide (x.press = y.press) && decide (x.start < y.start))
theorem ltJ_iff {x y : JobD} : ltJ x y = true ↔ x.press < y.press ∨ (x.press = y.press ∧ x.start < y.start) := by unfold ltJ; simp
def LeJ (x y : JobD) : Prop := x.press < y.press ∨ (x.press = y.press ∧ x.start ≤ y.start)
theorem leJ_of_lt {x y : JobD} (h : ltJ x y = true) : LeJ x y := by rw [ltJ_iff] at h; unfold LeJ; omega
theorem leJ_of_not {x y : JobD} (h : ltJ x y = false) : LeJ y x := by
  have : ¬ (ltJ x y = true) := by rw [h]; decide
  rw [ltJ_iff] at this; unfold LeJ; omega
theorem LeJ.trans {x y z : JobD} (h : LeJ x y) (h' : LeJ y z) : LeJ x z := by unfold LeJ at *; omega
theorem LeJ.refl (x : JobD) : LeJ x x := by unfold LeJ; omega
theorem lt_mono {x y z : JobD} (h : ltJ x z = true) (h' : LeJ y x) : ltJ y z = true := by rw [ltJ_iff] at *; unfold LeJ at *; omega
theorem lt_mono' {x y z : JobD} (h : ltJ x y = true) (h' : LeJ y z) : ltJ x z = true := by rw [ltJ_iff] at *; unfold LeJ at *; omega
theorem nlt_mono {x y z : JobD} (h : ltJ x z = false) (h' : LeJ x y) : ltJ y z = false := by
  cases e : ltJ y z with
  | false => rfl
  | true => rw [lt_mono e h'] at h; cases h
theorem nlt_mono' {x y z : JobD} (h : ltJ x y = false) (h' : LeJ z y) : ltJ x z = false := by
  cases e : ltJ x z with
  | false => rfl
  | true => rw [lt_mono' e h'] at h; cases h
/-- What the comparison returns. -/
def cmpI (a b : Int) : Int := if a < b then -1 else if b < a then 1 else 0
def cmpJ (x y : JobD) : Int := if cmpI x.press y.press = 0 then cmpI x.start y.start else cmpI x.press y.press
theorem cmpJ_lt (x y : JobD) : decide (cmpJ x y < 0) = ltJ x y := by
  have : (cmpJ x y < 0) ↔ ltJ x y = true := by
    rw [ltJ_iff]; unfold cmpJ cmpI
    repeat' split
    all_goals omega
  cases h : ltJ x y with
  | true => exact decide_eq_true (this.2 h)
  | false => exact decide_eq_false fun h' => by rw [this.1 h'] at h; cases h
abbrev SortedJ (l : List JobD) : Prop := l.Pairwise LeJ
theorem swap_snd (P Q M : List JobD) (x y : JobD) (i j : Nat) (hi : i = P.length) (hj : j = P.length + 1 + M.length) : ((P ++ x :: M ++ y :: Q).set i y).set j x = P ++ y :: M ++ x :: Q := by
  subst hi hj
  rw [List.append_assoc, List.set_append_right _ _ (by omega), Nat.sub_self]
  show ((P ++ (y :: (M ++ y :: Q))).set _ _) = _
  rw [List.set_append_right _ _ (by omega)]
  rw [show P.length + 1 + M.length - P.length = M.length + 1 by omega]
  show P ++ (y :: ((M ++ y :: Q).set M.length x)) = _
  rw [List.set_append_right _ _ (by omega), Nat.sub_self]
  simp
theorem swap_fst (P Q M : List JobD) (x y : JobD) (i j : Nat) (hi : i = P.length) (hj : j = P.length + 1 + M.length) : ((P ++ x :: M ++ y :: Q).set j x).set i y = P ++ y :: M ++ x :: Q := by
  rw [List.set_comm _ _ (by omega)]; exact swap_snd P Q M x y i j hi hj
theorem get_mid {P Q : List JobD} {x : JobD} {i : Nat} (h : i = P.length) : (P ++ x :: Q)[i]? = some x := by subst h; simp
/-! Putting in. -/
def InsInv (A S R : List JobD) (j : Nat) (l : List JobD) : Prop := ∃ Z1 x Z2, l = A ++ Z1 ++ x :: (Z2 ++ R) ∧ j = A.length + Z1.length ∧ SortedJ (Z1 ++ Z2) ∧ (∀ z ∈ Z2, LeJ x z) ∧ (Z1 ++ x :: Z2).Perm S
theorem snoc_of : ∀ {Z : List JobD}, Z ≠ [] → ∃ Z' z, Z = Z' ++ [z] := fun {Z} h => ⟨Z.dropLast, Z.getLast h, (List.dropLast_concat_getLast h).symm⟩
theorem InsInv.get {A S R : List JobD} {j : Nat} {l : List JobD} (h : InsInv A S R j l) (hj : A.length < j) : ∃ x z, l[j]? = some x ∧ l[j - 1]? = some z := by
  obtain ⟨Z1, x, Z2, rfl, rfl, _⟩ := h
  obtain ⟨Z', z, rfl⟩ := snoc_of (Z := Z1) (by intro e; subst e; simp at hj)
  refine ⟨x, z, get_mid (by simp), ?_⟩
  rw [show A ++ (Z' ++ [z]) ++ x :: (Z2 ++ R) = (A ++ Z') ++ z :: (x :: (Z2 ++ R)) by simp]
  exact get_mid (by simp)
theorem InsInv.swap {A S R : List JobD} {j : Nat} {l : List JobD} (h : InsInv A S R j l) (hj : A.length < j) {x z : JobD} (hx : l[j]? = some x) (hz : l[j - 1]? = some z) (hlt : ltJ x z = true) : InsInv A S R (j - 1) ((l.set j z).set (j - 1) x) := by
  obtain ⟨Z1, x', Z2, rfl, rfl, h1, h2, h3⟩ := h
  obtain ⟨Z', z', rfl⟩ := snoc_of (Z := Z1) (by intro e; subst e; simp at hj)
  rw [get_mid (by simp)] at hx
  have hl : A ++ (Z' ++ [z']) ++ x' :: (Z2 ++ R) = (A ++ Z') ++ z' :: ([] ++ x' :: (Z2 ++ R)) := by simp
  rw [hl, get_mid (by simp)] at hz
  obtain rfl := Option.some.inj hx
  obtain rfl := Option.some.inj hz
  refine ⟨Z', x', z' :: Z2, ?_, by simp, by simpa using h1, fun u hu => ?_, ?_⟩
  · rw [hl, show (A ++ Z') ++ z' :: ([] ++ x' :: (Z2 ++ R)) = (A ++ Z') ++ z' :: [] ++ x' :: (Z2 ++ R) by simp, swap_fst (A ++ Z') (Z2 ++ R) [] z' x' _ _ (by simp) (by simp; omega)]
    simp
  · rcases List.mem_cons.1 hu with rfl | hu
    · exact leJ_of_lt hlt
    · exact h2 u hu
  · refine List.Perm.trans ?_ h3
    simp only [List.append_assoc, List.singleton_append]
    exact (List.Perm.swap z' x' Z2).append_left Z'
theorem InsInv.done {A S R : List JobD} {j : Nat} {l : List JobD} (h : InsInv A S R j l) (hd : ∀ x z, A.length < j → l[j]? = some x → l[j - 1]? = some z → ltJ x z = false) : ∃ Z, l = A ++ Z ++ R ∧ Z.Perm S ∧ SortedJ Z := by
  obtain ⟨Z1, x, Z2, rfl, rfl, h1, h2, h3⟩ := h
  refine ⟨Z1 ++ x :: Z2, by simp, h3, ?_⟩
  unfold SortedJ at h1 ⊢
  rw [List.pairwise_append] at h1 ⊢
  refine ⟨h1.1, List.pairwise_cons.2 ⟨h2, h1.2.1⟩, fun u hu v hv => ?_⟩
  rcases List.mem_cons.1 hv with rfl | hv
  · obtain ⟨Z', z, rfl⟩ := snoc_of (Z := Z1) (by intro e; subst e; cases hu)
    have hz := hd v z (by simp) (get_mid (by simp)) (by
      rw [show A ++ (Z' ++ [z]) ++ v :: (Z2 ++ R) = (A ++ Z') ++ z :: (v :: (Z2 ++ R)) by simp]
      exact get_mid (by simp))
    have hzv : LeJ z v := leJ_of_not hz
    have h11 := h1.1
    rw [List.pairwise_append] at h11
    rcases List.mem_append.1 hu with hu | hu
    · exact (h11.2.2 u hu z (by simp)).trans hzv
    · rw [List.mem_singleton.1 hu]; exact hzv
  · exact h1.2.2 u hu v hv
theorem InsInv.start {A Z R : List JobD} {x : JobD} (hs : SortedJ Z) {j : Nat} (hj : j = A.length + Z.length) : InsInv A (Z ++ [x]) R j (A ++ Z ++ x :: R) :=
  ⟨Z, x, [], by simp, hj, by simpa using hs, (fun z h => by cases h), List.Perm.refl _⟩
/-! Two blocks exchanged. -/
theorem take_succ_at {l : List JobD} {i : Nat} {x : JobD} (h : l[i]? = some x) : l.take (i + 1) = l.take i ++ [x] := by
  rw [List.take_add_one, h]; rfl
theorem drop_at {l : List JobD} {i : Nat} {x : JobD} (h : l[i]? = some x) : l.drop i = x :: l.drop (i + 1) := by
  obtain ⟨hi, rfl⟩ := List.getElem?_eq_some_iff.1 h
  exact List.drop_eq_getElem_cons hi
def blkAt (A P M Q C : List JobD) (i : Nat) : List JobD := A ++ Q.take i ++ (P.drop i ++ M) ++ P.take i ++ (Q.drop i ++ C)
theorem blkAt_zero (A P M Q C : List JobD) : blkAt A P M Q C 0 = A ++ P ++ M ++ Q ++ C := by simp [blkAt]
theorem blkAt_end (A P M Q C : List JobD) (n : Nat) (hp : P.length = n) (hq : Q.length = n) : blkAt A P M Q C n = A ++ Q ++ M ++ P ++ C := by
  unfold blkAt; rw [List.take_of_length_le (by omega), List.take_of_length_le (by omega), List.drop_of_length_le (by omega), List.drop_of_length_le (by omega)]; simp
theorem blkAt_get {A P M Q C : List JobD} {n i : Nat} (hp : P.length = n) (hq : Q.length = n) (hi : i < n) :
    ∃ x y, (blkAt A P M Q C i)[A.length + i]? = some x ∧ (blkAt A P M Q C i)[A.length + n + M.length + i]? = some y ∧ ((blkAt A P M Q C i).set (A.length + i) y).set (A.length + n + M.length + i) x = blkAt A P M Q C (i + 1) := by
  have hpx : P[i]? = some (P[i]'(by omega)) := List.getElem?_eq_getElem _
  have hqy : Q[i]? = some (Q[i]'(by omega)) := List.getElem?_eq_getElem _
  obtain ⟨x, hx⟩ : ∃ x, x = P[i]'(by omega) := ⟨_, rfl⟩
  obtain ⟨y, hy⟩ : ∃ y, y = Q[i]'(by omega) := ⟨_, rfl⟩
  rw [← hx] at hpx
  rw [← hy] at hqy
  have e : blkAt A P M Q C i = (A ++ Q.take i) ++ x :: (P.drop (i + 1) ++ M ++ P.take i) ++ y :: (Q.drop (i + 1) ++ C) := by
    unfold blkAt; rw [drop_at hpx, drop_at hqy]; simp
  have l1 : (A ++ Q.take i).length = A.length + i := by simp; omega
  have l2 : (P.drop (i + 1) ++ M ++ P.take i).length + 1 = n + M.length := by simp; omega
  refine ⟨x, y, ?_, ?_, ?_⟩
  · rw [e, List.append_assoc]; exact get_mid l1.symm
  · rw [e]; exact get_mid (by simp only [List.length_append, List.length_cons] at l1 l2 ⊢; omega)
  · rw [e, swap_snd (A ++ Q.take i) _ _ x y _ _ l1.symm (by rw [l1]; omega)]
    unfold blkAt
    rw [take_succ_at hpx, take_succ_at hqy]; simp
/-- Two neighbouring blocks are exchanged, block by block. -/
def RotInv (T : List JobD) (m i j : Nat) (l : List JobD) : Prop := ∃ A P Q C, l = A ++ P ++ Q ++ C ∧ T = A ++ Q ++ P ++ C ∧ m = A.length + i ∧ P.length = i ∧ Q.length = j
theorem RotInv.left {T : List JobD} {m i j : Nat} {l : List JobD} (h : RotInv T m i j l) (hij : j < i) :
    ∃ A P M Q C, l = A ++ P ++ M ++ Q ++ C ∧ A.length = m - i ∧ P.length = j ∧ Q.length = j ∧ A.length + j + M.length = m ∧ RotInv T m (i - j) j (A ++ Q ++ M ++ P ++ C) := by
  obtain ⟨A, P, Q, C, rfl, rfl, rfl, rfl, rfl⟩ := h
  refine ⟨A, P.take Q.length, P.drop Q.length, Q, C, by simp, by omega, by simp; omega, rfl, by simp; omega, A ++ Q, P.drop Q.length, P.take Q.length, C, by simp, ?_, by simp; omega, by simp, by simp; omega⟩
  rw [List.append_assoc (A ++ Q) (P.take _), List.take_append_drop]
theorem RotInv.right {T : List JobD} {m i j : Nat} {l : List JobD} (h : RotInv T m i j l) (hij : i < j) :
    ∃ A P M Q C, l = A ++ P ++ M ++ Q ++ C ∧ A.length = m - i ∧ P.length = i ∧ Q.length = i ∧ A.length + i + M.length = m + j - i ∧ RotInv T m i (j - i) (A ++ Q ++ M ++ P ++ C) := by
  obtain ⟨A, P, Q, C, rfl, rfl, rfl, rfl, rfl⟩ := h
  refine ⟨A, P, Q.take (Q.length - P.length), Q.drop (Q.length - P.length), C, by simp, by omega, rfl, by simp; omega, by simp; omega, A, Q.drop (Q.length - P.length), Q.take (Q.length - P.length), P ++ C, by simp, ?_, rfl, by simp; omega, by simp⟩
  rw [List.append_assoc A (Q.take _), List.take_append_drop]; simp
theorem RotInv.last {T : List JobD} {m i : Nat} {l : List JobD} (h : RotInv T m i i l) : ∃ A P M Q C, l = A ++ P ++ M ++ Q ++ C ∧ A.length = m - i ∧ P.length = i ∧ Q.length = i ∧ A.length + i + M.length = m ∧ T = A ++ Q ++ M ++ P ++ C := by
  obtain ⟨A, P, Q, C, rfl, rfl, rfl, rfl, h⟩ := h
  exact ⟨A, P, [], Q, C, by simp, by omega, rfl, h, by simp, by simp⟩
theorem RotInv.start (A P Q C : List JobD) : RotInv (A ++ Q ++ P ++ C) (A.length + P.length) P.length Q.length (A ++ P ++ Q ++ C) := ⟨A, P, Q, C, rfl, rfl, rfl, rfl, rfl⟩
/-! Two sorted lists are merged. -/
theorem sorted_le {l : List JobD} (h : SortedJ l) {i j : Nat} {x y : JobD} (hx : l[i]? = some x) (hy : l[j]? = some y) (hij : i ≤ j) : LeJ x y := by
  obtain ⟨hi, rfl⟩ := List.getElem?_eq_some_iff.1 hx
  obtain ⟨hj, rfl⟩ := List.getElem?_eq_some_iff.1 hy
  by_cases e : i = j
  · subst e; exact LeJ.refl _
  · exact List.pairwise_iff_getElem.1 h i j hi hj (by omega)
/-- How far the place of one element is known: those ahead are less. -/
structure Bin1 (x : JobD) (Y : List JobD) (i j : Nat) : Prop where
  ij : i ≤ j
  jn : j ≤ Y.length
  lo : ∀ t y, t < i → Y[t]? = some y → ltJ y x = true
  hi : ∀ t y, j ≤ t → Y[t]? = some y → ltJ y x = false
theorem Bin1.start (x : JobD) (Y : List JobD) : Bin1 x Y 0 Y.length := ⟨Nat.zero_le _, Nat.le_refl _, (fun t y h => absurd h (by omega)), fun t y h hy => by rw [List.getElem?_eq_none h] at hy; cases hy⟩
theorem Bin1.up {x : JobD} {Y : List JobD} {i j h : Nat} (hb : Bin1 x Y i j) (hs : SortedJ Y) (h1 : i ≤ h) (h2 : h < j) {y : JobD} (hy : Y[h]? = some y) (hlt : ltJ y x = true) : Bin1 x Y (h + 1) j :=
  ⟨by omega, hb.jn, fun t u ht hu => lt_mono hlt (sorted_le hs hu hy (by omega)), hb.hi⟩
theorem Bin1.down {x : JobD} {Y : List JobD} {i j h : Nat} (hb : Bin1 x Y i j) (hs : SortedJ Y) (h1 : i ≤ h) (h2 : h < j) {y : JobD} (hy : Y[h]? = some y) (hlt : ltJ y x = false) : Bin1 x Y i h :=
  ⟨h1, by have := hb.jn; omega, hb.lo, fun t u ht hu => nlt_mono hlt (sorted_le hs hy hu ht)⟩
theorem Bin1.done {x : JobD} {Y : List JobD} {i : Nat} (hb : Bin1 x Y i i) (hs : SortedJ Y) : SortedJ (Y.take i ++ x :: Y.drop i) := by
  have hs' := hs
  rw [SortedJ, ← List.take_append_drop i Y, List.pairwise_append] at hs'
  unfold SortedJ
  rw [List.pairwise_append]
  refine ⟨hs'.1, List.pairwise_cons.2 ⟨fun y hy => ?_, hs'.2.1⟩, fun u hu v hv => ?_⟩
  · obtain ⟨k, hk, rfl⟩ := List.mem_iff_getElem.1 hy
    exact leJ_of_not (hb.hi (i + k) _ (by omega) (by rw [← List.getElem?_drop]; exact List.getElem?_eq_getElem hk))
  · rcases List.mem_cons.1 hv with rfl | hv
    · obtain ⟨k, hk, rfl⟩ := List.mem_iff_getElem.1 hu
      have hki : k < i := by simp at hk; omega
      exact leJ_of_lt (hb.lo k _ hki (by rw [← List.getElem?_take_of_lt hki]; exact List.getElem?_eq_getElem hk))
    · exact hs'.2.2 u hu v hv
/-- The other way: those ahead are not greater. -/
structure Bin2 (x : JobD) (X : List JobD) (i j : Nat) : Prop where
  ij : i ≤ j
  jn : j ≤ X.length
  lo : ∀ t y, t < i → X[t]? = some y → ltJ x y = false
  hi : ∀ t y, j ≤ t → X[t]? = some y → ltJ x y = true
theorem Bin2.start (x : JobD) (Y : List JobD) : Bin2 x Y 0 Y.length := ⟨Nat.zero_le _, Nat.le_refl _, (fun t y h => absurd h (by omega)), fun t y h hy => by rw [List.getElem?_eq_none h] at hy; cases hy⟩
theorem Bin2.up {x : JobD} {Y : List JobD} {i j h : Nat} (hb : Bin2 x Y i j) (hs : SortedJ Y) (h1 : i ≤ h) (h2 : h < j) {y : JobD} (hy : Y[h]? = some y) (hlt : ltJ x y = false) : Bin2 x Y (h + 1) j :=
  ⟨by omega, hb.jn, fun t u ht hu => nlt_mono' hlt (sorted_le hs hu hy (by omega)), hb.hi⟩
theorem Bin2.down {x : JobD} {Y : List JobD} {i j h : Nat} (hb : Bin2 x Y i j) (hs : SortedJ Y) (h1 : i ≤ h) (h2 : h < j) {y : JobD} (hy : Y[h]? = some y) (hlt : ltJ x y = true) : Bin2 x Y i h :=
  ⟨h1, by have := hb.jn; omega, hb.lo, fun t u ht hu => lt_mono' hlt (sorted_le hs hy hu ht)⟩
theorem Bin2.done {x : JobD} {Y : List JobD} {i : Nat} (hb : Bin2 x Y i i) (hs : SortedJ Y) : SortedJ (Y.take i ++ x :: Y.drop i) := by
  have hs' := hs
  rw [SortedJ, ← List.take_append_drop i Y, List.pairwise_append] at hs'
  unfold SortedJ
  rw [List.pairwise_append]
  refine ⟨hs'.1, List.pairwise_cons.2 ⟨fun y hy => ?_, hs'.2.1⟩, fun u hu v hv => ?_⟩
  · obtain ⟨k, hk, rfl⟩ := List.mem_iff_getElem.1 hy
    exact leJ_of_lt (hb.hi (i + k) _ (by omega) (by rw [← List.getElem?_drop]; exact List.getElem?_eq_getElem hk))
  · rcases List.mem_cons.1 hv with rfl | hv
    · obtain ⟨k, hk, rfl⟩ := List.mem_iff_getElem.1 hu
      have hki : k < i := by simp at hk; omega
      exact leJ_of_not (hb.lo k _ hki (by rw [← List.getElem?_take_of_lt hki]; exact List.getElem?_eq_getElem hk))
    · exact hs'.2.2 u hu v hv
/-- One element wanders through a list. -/
def wandAt (A Y C : List JobD) (x : JobD) (k : Nat) : List JobD := A ++ Y.take k ++ x :: (Y.drop k ++ C)
theorem wandAt_up {A Y C : List JobD} {x : JobD} {k : Nat} (hk : k < Y.length) :
    ∃ y, (wandAt A Y C x k)[A.length + k]? = some x ∧ (wandAt A Y C x k)[A.length + k + 1]? = some y ∧ ((wandAt A Y C x k).set (A.length + k) y).set (A.length + k + 1) x = wandAt A Y C x (k + 1) := by
  have hy : Y[k]? = some (Y[k]'hk) := List.getElem?_eq_getElem _
  obtain ⟨y, hy'⟩ : ∃ y, y = Y[k]'hk := ⟨_, rfl⟩
  rw [← hy'] at hy
  have l1 : (A ++ Y.take k).length = A.length + k := by simp; omega
  have e : wandAt A Y C x k = (A ++ Y.take k) ++ x :: [] ++ y :: (Y.drop (k + 1) ++ C) := by unfold wandAt; rw [drop_at hy]; simp
  refine ⟨y, ?_, ?_, ?_⟩
  · rw [e, List.append_assoc]; exact get_mid l1.symm
  · rw [e]; exact get_mid (by rw [List.length_append, l1]; rfl)
  · rw [e, swap_snd (A ++ Y.take k) _ [] x y _ _ l1.symm (by rw [l1]; rfl)]
    unfold wandAt; rw [take_succ_at hy]; simp
theorem wandAt_down {A Y C : List JobD} {x : JobD} {k : Nat} (hk : k < Y.length) :
    ∃ y, (wandAt A Y C x (k + 1))[A.length + k + 1]? = some x ∧ (wandAt A Y C x (k + 1))[A.length + k]? = some y ∧ ((wandAt A Y C x (k + 1)).set (A.length + k + 1) y).set (A.length + k) x = wandAt A Y C x k := by
  have hy : Y[k]? = some (Y[k]'hk) := List.getElem?_eq_getElem _
  obtain ⟨y, hy'⟩ : ∃ y, y = Y[k]'hk := ⟨_, rfl⟩
  rw [← hy'] at hy
  have l1 : (A ++ Y.take k).length = A.length + k := by simp; omega
  have e : wandAt A Y C x (k + 1) = (A ++ Y.take k) ++ y :: [] ++ x :: (Y.drop (k + 1) ++ C) := by unfold wandAt; rw [take_succ_at hy]; simp
  refine ⟨y, ?_, ?_, ?_⟩
  · rw [e]; exact get_mid (by rw [List.length_append, l1]; rfl)
  · rw [e, List.append_assoc]; exact get_mid l1.symm
  · rw [e, swap_fst (A ++ Y.take k) _ [] y x _ _ l1.symm (by rw [l1]; rfl)]
    unfold wandAt; rw [drop_at hy]; simp
theorem wand_perm (Y : List JobD) (x : JobD) (k : Nat) : (Y.take k ++ x :: Y.drop k).Perm (x :: Y) := by
  have := List.perm_middle (a := x) (l₁ := Y.take k) (l₂ := Y.drop k)
  rwa [List.take_append_drop] at this
/-- The search for the place at which both lists are cut: the two lists side by side, p - c against c. -/
structure Cut (l : List JobD) (p lo hi s r : Nat) : Prop where
  los : lo ≤ s
  sr : s ≤ r
  rhi : r ≤ hi
  less : ∀ c x y, lo ≤ c → c < s → l[p - c]? = some x → l[c]? = some y → ltJ x y = false
  more : ∀ c x y, r ≤ c → c < hi → l[p - c]? = some x → l[c]? = some y → ltJ x y = true
theorem Cut.start (l : List JobD) (p lo hi : Nat) (h : lo ≤ hi) : Cut l p lo hi lo hi := ⟨Nat.le_refl _, h, Nat.le_refl _, (fun c x y h1 h2 => absurd h1 (by omega)), fun c x y h1 h2 => absurd h1 (by omega)⟩
/-- The two runs of a list: from a to m, from m to b. -/
structure Runs (l : List JobD) (a m b : Nat) : Prop where
  one : ∀ i j x y, a ≤ i → i ≤ j → j < m → l[i]? = some x → l[j]? = some y → LeJ x y
  two : ∀ i j x y, m ≤ i → i ≤ j → j < b → l[i]? = some x → l[j]? = some y → LeJ x y
theorem Runs.of {A X Y C : List JobD} (hx : SortedJ X) (hy : SortedJ Y) : Runs (A ++ X ++ Y ++ C) A.length (A.length + X.length) (A.length + X.length + Y.length) := by
  refine ⟨fun i j x y h1 h2 h3 h4 h5 => ?_, fun i j x y h1 h2 h3 h4 h5 => ?_⟩
  · rw [List.append_assoc, List.append_assoc, List.getElem?_append_right (by omega), List.getElem?_append_left (by omega)] at h4 h5
    exact sorted_le hx h4 h5 (by omega)
  · rw [List.append_assoc, List.getElem?_append_right (by simp; omega), List.getElem?_append_left (by simp; omega)] at h4 h5
    exact sorted_le hy h4 h5 (by simp; omega)
theorem Cut.up {l : List JobD} {p lo hi s r c a m b : Nat} (h : Cut l p lo hi s r) (hr : Runs l a m b) (ha : a ≤ lo) (hm : hi ≤ m) (hpm : m + hi ≤ p + 1) (hpb : p < b + lo) (hl : b ≤ l.length) (h1 : s ≤ c) (h2 : c < r) {x y : JobD} (hx : l[p - c]? = some x) (hy : l[c]? = some y) (hlt : ltJ x y = false) : Cut l p lo hi (c + 1) r :=
  ⟨by have := h.los; omega, by omega, h.rhi, fun c' x' y' h3 h4 hx' hy' => by
    have := h.rhi; have := h.los
    exact nlt_mono' (nlt_mono hlt (hr.two (p - c) (p - c') _ _ (by omega) (by omega) (by omega) hx hx')) (hr.one c' c _ _ (by omega) (by omega) (by omega) hy' hy), h.more⟩
theorem Cut.down {l : List JobD} {p lo hi s r c a m b : Nat} (h : Cut l p lo hi s r) (hr : Runs l a m b) (ha : a ≤ lo) (hm : hi ≤ m) (hpm : m + hi ≤ p + 1) (hpb : p < b + lo) (hl : b ≤ l.length) (h1 : s ≤ c) (h2 : c < r) {x y : JobD} (hx : l[p - c]? = some x) (hy : l[c]? = some y) (hlt : ltJ x y = true) : Cut l p lo hi s c :=
  ⟨h.los, h1, by have := h.rhi; omega, h.less, fun c' x' y' h3 h4 hx' hy' => by
    have := h.rhi; have := h.los
    exact lt_mono' (lt_mono hlt (hr.two (p - c') (p - c) _ _ (by omega) (by omega) (by omega) hx' hx)) (hr.one c c' _ _ (by omega) (by omega) (by omega) hy hy')⟩
theorem Cut.cross {l : List JobD} {a m b mid lo hi s : Nat} (hr : Runs l a m b) (hab : a < m) (hmb : m < b) (hl : b ≤ l.length) (hmid : mid = (a + b) / 2) (hlo : lo = if mid < m then mid + m - b else a) (hhi : hi = if mid < m then mid else m) (h : Cut l (mid + m - 1) lo hi s s)
    {i j : Nat} {x y : JobD} (hi' : (a ≤ i ∧ i < s) ∨ (m ≤ i ∧ i < mid + m - s)) (hj' : (s ≤ j ∧ j < m) ∨ (mid + m - s ≤ j ∧ j < b)) (hx : l[i]? = some x) (hy : l[j]? = some y) : LeJ x y := by
  have h1 := h.los
  have h2 := h.rhi
  have hlo' : a ≤ lo ∧ lo ≤ hi ∧ hi ≤ m ∧ hi ≤ mid ∧ (lo = a ∨ lo = mid + m - b) ∧ (hi = m ∨ hi = mid) ∧ mid + m < b + lo + 1 := by rw [hlo, hhi]; split <;> omega
  obtain ⟨k1, k2, k3, k4, k5, k6, k7⟩ := hlo'
  have get : ∀ k, k < b → ∃ z, l[k]? = some z := fun k hk => ⟨_, List.getElem?_eq_getElem (by omega)⟩
  rcases hi' with ⟨i1, i2⟩ | ⟨i1, i2⟩ <;> rcases hj' with ⟨j1, j2⟩ | ⟨j1, j2⟩
  · exact hr.one i j x y i1 (by omega) j2 hx hy
  · -- the last ahead of the cut against the first behind it
    have hlt : lo < s := by
      rcases k5 with e | e
      · omega
      · omega
    obtain ⟨u, hu⟩ := get (s - 1) (by omega)
    obtain ⟨v, hv⟩ := get (mid + m - s) (by omega)
    have hc := h.less (s - 1) v u (by omega) (by omega) (by rw [show mid + m - 1 - (s - 1) = mid + m - s by omega]; exact hv) hu
    exact ((hr.one i (s - 1) x u i1 (by omega) (by omega) hx hu).trans (leJ_of_not hc)).trans (hr.two (mid + m - s) j v y (by omega) j1 j2 hv hy)
  · have hlt : s < hi := by
      rcases k6 with e | e
      · omega
      · omega
    obtain ⟨u, hu⟩ := get (mid + m - 1 - s) (by omega)
    obtain ⟨v, hv⟩ := get s (by omega)
    have hc := h.more s u v (Nat.le_refl _) hlt hu hv
    exact ((hr.two i (mid + m - 1 - s) x u i1 (by omega) (by omega) hx hu).trans (leJ_of_lt hc)).trans (hr.one s j v y (by omega) j1 j2 hv hy)
  · exact hr.two i j x y i1 (by omega) j2 hx hy
theorem mem_take_at {X : List JobD} {k : Nat} {x : JobD} (h : x ∈ X.take k) : ∃ i, i < k ∧ i < X.length ∧ X[i]? = some x := by
  obtain ⟨i, hi, rfl⟩ := List.mem_iff_getElem.1 h
  rw [List.length_take] at hi
  exact ⟨i, by omega, by omega, by rw [List.getElem_take]; exact List.getElem?_eq_getElem _⟩
theorem mem_drop_at {X : List JobD} {k : Nat} {x : JobD} (h : x ∈ X.drop k) : ∃ i, k ≤ i ∧ i < X.length ∧ X[i]? = some x := by
  obtain ⟨i, hi, rfl⟩ := List.mem_iff_getElem.1 h
  simp at hi
  exact ⟨k + i, by omega, by omega, by rw [List.getElem_drop]; exact List.getElem?_eq_getElem _⟩
theorem Cut.split {A X Y C : List JobD} {a m b mid lo hi s : Nat} (hsx : SortedJ X) (hsy : SortedJ Y) (ha : a = A.length) (hm : m = a + X.length) (hb : b = m + Y.length) (hx : X ≠ []) (hy : Y ≠ []) (hmid : mid = (a + b) / 2) (hlo : lo = if mid < m then mid + m - b else a) (hhi : hi = if mid < m then mid else m)
    (h : Cut (A ++ X ++ Y ++ C) (mid + m - 1) lo hi s s) :
    a ≤ s ∧ s ≤ m ∧ s ≤ mid ∧ mid ≤ b ∧ m + mid ≤ b + s ∧ ∃ X1 X2 Y1 Y2, X = X1 ++ X2 ∧ Y = Y1 ++ Y2 ∧ X1.length = s - a ∧ Y1.length = mid - s ∧ X2.length = m - s ∧ Y2.length = b + s - mid - m ∧
      ∀ Z1 Z2 : List JobD, Z1.Perm (X1 ++ Y1) → Z2.Perm (X2 ++ Y2) → SortedJ Z1 → SortedJ Z2 → SortedJ (Z1 ++ Z2) ∧ (Z1 ++ Z2).Perm (X ++ Y) := by
  have hxl : 0 < X.length := List.length_pos_iff.2 hx
  have hyl : 0 < Y.length := List.length_pos_iff.2 hy
  have h1 := h.los
  have h2 := h.rhi
  have hlo' : a ≤ lo ∧ lo ≤ hi ∧ hi ≤ m ∧ hi ≤ mid ∧ mid + m < b + lo + 1 := by rw [hlo, hhi]; split <;> omega
  obtain ⟨k1, k2, k3, k4, k5⟩ := hlo'
  have hr := Runs.of (A := A) (C := C) hsx hsy
  rw [← ha, ← hm, ← hb] at hr
  refine ⟨by omega, by omega, by omega, by omega, by omega, X.take (s - a), X.drop (s - a), Y.take (mid - s), Y.drop (mid - s), (List.take_append_drop _ _).symm, (List.take_append_drop _ _).symm, by simp; omega, by simp; omega, by simp; omega, by simp; omega, fun Z1 Z2 p1 p2 s1 s2 => ⟨?_, ?_⟩⟩
  · unfold SortedJ at s1 s2 ⊢
    rw [List.pairwise_append]
    refine ⟨s1, s2, fun x hx' y hy' => ?_⟩
    have hl : b ≤ (A ++ X ++ Y ++ C).length := by simp; omega
    have gx : ∀ i u, X[i]? = some u → i < X.length → (A ++ X ++ Y ++ C)[a + i]? = some u := fun i u hu hi => by
      rw [List.append_assoc, List.append_assoc, List.getElem?_append_right (by omega), List.getElem?_append_left (by omega), ha, show A.length + i - A.length = i by omega]; exact hu
    have gy : ∀ i u, Y[i]? = some u → i < Y.length → (A ++ X ++ Y ++ C)[m + i]? = some u := fun i u hu hi => by
      rw [List.append_assoc, List.getElem?_append_right (by simp; omega), List.getElem?_append_left (by simp; omega), List.length_append, show m + i - (A.length + X.length) = i by omega]; exact hu
    have hx2 : ∃ i, ((a ≤ i ∧ i < s) ∨ (m ≤ i ∧ i < mid + m - s)) ∧ (A ++ X ++ Y ++ C)[i]? = some x := by
      rcases List.mem_append.1 (p1.mem_iff.1 hx') with hx' | hx'
      · obtain ⟨i, i1, i2, i3⟩ := mem_take_at hx'
        exact ⟨a + i, .inl ⟨by omega, by omega⟩, gx i x i3 i2⟩
      · obtain ⟨i, i1, i2, i3⟩ := mem_take_at hx'
        exact ⟨m + i, .inr ⟨by omega, by omega⟩, gy i x i3 i2⟩
    have hy2 : ∃ j, ((s ≤ j ∧ j < m) ∨ (mid + m - s ≤ j ∧ j < b)) ∧ (A ++ X ++ Y ++ C)[j]? = some y := by
      rcases List.mem_append.1 (p2.mem_iff.1 hy') with hy' | hy'
      · obtain ⟨i, i1, i2, i3⟩ := mem_drop_at hy'
        exact ⟨a + i, .inl ⟨by omega, by omega⟩, gx i y i3 i2⟩
      · obtain ⟨i, i1, i2, i3⟩ := mem_drop_at hy'
        exact ⟨m + i, .inr ⟨by omega, by omega⟩, gy i y i3 i2⟩
    obtain ⟨i, i1, i2⟩ := hx2
    obtain ⟨j, j1, j2⟩ := hy2
    exact Cut.cross hr (by omega) (by omega) hl hmid hlo hhi h i1 j1 i2 j2
  · refine (p1.append p2).trans ?_
    conv => rhs; rw [← List.take_append_drop (s - a) X, ← List.take_append_drop (mid - s) Y]
    rw [List.append_assoc, List.append_assoc]
    refine List.Perm.append_left _ ?_
    rw [← List.append_assoc, ← List.append_assoc]
    exact List.Perm.append_right _ List.perm_append_comm
end Go.Proofs.YtogccnngdfancaaGreat
