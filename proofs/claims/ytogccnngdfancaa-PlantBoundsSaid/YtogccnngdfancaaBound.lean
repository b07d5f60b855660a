/- Plain laws of bounds: no schedule without an error ends before Bound. -/
import Derived.Test.YtogccnngdfancaaSched
namespace Go.Proofs.Ytogccnngdfancaa
set_option linter.unusedVariables false
/-! Sums over the first n numbers. -/
def sumR : Nat → (Nat → Int) → Int
  | 0, _ => 0
  | n + 1, f => sumR n f + f n
theorem sumR_le {f g : Nat → Int} : ∀ {n : Nat}, (∀ i, i < n → f i ≤ g i) → sumR n f ≤ sumR n g
  | 0, _ => Int.le_refl _
  | n + 1, h => Int.add_le_add (sumR_le fun i hi => h i (by omega)) (h n (by omega))
theorem sumR_add (f g : Nat → Int) : ∀ n, sumR n (fun i => f i + g i) = sumR n f + sumR n g
  | 0 => rfl
  | n + 1 => by simp only [sumR, sumR_add f g n]; omega
theorem sumR_mul (c : Int) (f : Nat → Int) : ∀ n, sumR n (fun i => c * f i) = c * sumR n f
  | 0 => by simp [sumR]
  | n + 1 => by simp only [sumR, sumR_mul c f n, Int.mul_add]
theorem sumR_const (c : Int) : ∀ n : Nat, sumR n (fun _ => c) = n * c
  | 0 => by simp [sumR]
  | n + 1 => by simp only [sumR, sumR_const c n]; rw [show ((n + 1 : Nat) : Int) = n + 1 by omega, Int.add_mul]; omega
theorem sumR_congr {f g : Nat → Int} : ∀ {n : Nat}, (∀ i, i < n → f i = g i) → sumR n f = sumR n g
  | 0, _ => rfl
  | n + 1, h => by simp only [sumR]; rw [sumR_congr fun i hi => h i (by omega), h n (by omega)]
theorem sumR_swap (f : Nat → Nat → Int) (m : Nat) : ∀ n, sumR n (fun i => sumR m (fun k => f i k)) = sumR m (fun k => sumR n (fun i => f i k))
  | 0 => by simp [sumR, sumR_const]
  | n + 1 => by simp only [sumR, sumR_swap f m n, sumR_add]
theorem sumR_nonneg {f : Nat → Int} : ∀ {n : Nat}, (∀ i, i < n → 0 ≤ f i) → 0 ≤ sumR n f
  | 0, _ => Int.le_refl _
  | n + 1, h => Int.add_nonneg (sumR_nonneg fun i hi => h i (by omega)) (h n (by omega))
theorem sumR_one (v : Int) (k : Nat) : ∀ n, k < n → sumR n (fun i => if k = i then v else 0) = v
  | 0, h => absurd h (by omega)
  | n + 1, h => by
    simp only [sumR]
    by_cases e : k = n
    · rw [if_pos e]
      have : sumR n (fun i => if k = i then v else 0) = 0 := by
        rw [sumR_congr (g := fun _ => (0 : Int)) (fun i hi => by rw [if_neg (by omega)]), sumR_const]; simp
      omega
    · rw [if_neg e, sumR_one v k n (by omega)]; omega
theorem sumR_ge {f : Nat → Int} {k : Nat} : ∀ {n : Nat}, (∀ i, i < n → 0 ≤ f i) → k < n → f k ≤ sumR n f
  | 0, _, h => absurd h (by omega)
  | n + 1, h0, h => by
    simp only [sumR]
    have h1 := sumR_nonneg (n := n) (f := f) (fun i hi => h0 i (by omega))
    have h2 := h0 n (by omega)
    by_cases e : k = n
    · subst e; omega
    · have := sumR_ge (f := f) (k := k) (n := n) (fun i hi => h0 i (by omega)) (by omega); omega
/-! Schedules without an error. -/
def chg (w : WorksD) (a b : JobD) : Int := if a.kind = b.kind then 0 else w.change
def Sep (w : WorksD) (a b : JobD) : Prop := endJ w a + chg w a b ≤ b.start
def PairOk (w : WorksD) (a b : JobD) : Prop := a.press = b.press → Sep w a b ∨ Sep w b a
structure InRange (w : WorksD) (j : JobD) : Prop where
  p0 : 0 ≤ j.press
  p1 : j.press < w.presses
  k0 : 0 ≤ j.kind
  k1 : j.kind < w.cure.length
  s0 : 0 ≤ j.start
  s1 : j.start ≤ 1000000
def kindN (l : List JobD) (k : Int) : Nat := l.countP (fun j => decide (j.kind = k))
structure WOk (w : WorksD) : Prop where
  p1 : 1 ≤ w.presses
  p8 : w.presses ≤ 8
  c0 : 0 ≤ w.change
  c1 : w.change ≤ 1000
  n1 : w.need.length = w.cure.length
  n2 : w.moulds.length = w.cure.length
  n8 : w.cure.length ≤ 8
  cure : ∀ k : Nat, k < w.cure.length → 1 ≤ cureOf w k ∧ cureOf w k ≤ 1000
  need : ∀ k : Nat, k < w.cure.length → 0 ≤ needOf w k
  mould : ∀ k : Nat, k < w.cure.length → 1 ≤ mouldOf w k
structure Valid (w : WorksD) (l : List JobD) : Prop where
  rng : ∀ j ∈ l, InRange w j
  pair : l.Pairwise (PairOk w)
  mould : ∀ j ∈ l, (runN w l j.kind j.start : Int) ≤ mouldOf w j.kind
  need : ∀ k : Nat, k < w.cure.length → (kindN l k : Int) = needOf w k
theorem len_split (p : Int → Bool) : ∀ L : List Int, (L.filter p).length + (L.filter (fun x => !p x)).length = L.length
  | [] => rfl
  | x :: L => by
    have ih := len_split p L
    cases hp : p x <;> simp [hp] <;> omega
/-- Different numbers below n: at most n. -/
theorem nodup_le : ∀ (n : Nat) (L : List Int), L.Pairwise (· ≠ ·) → (∀ x ∈ L, 0 ≤ x ∧ x < n) → L.length ≤ n
  | 0, [], _, _ => Nat.le_refl _
  | 0, x :: L, _, h => by have := h x (List.mem_cons_self ..); omega
  | n + 1, L, hp, h => by
    have h1 : (L.filter (fun x => decide (x ≠ (n : Int)))).length ≤ n := nodup_le n _ (hp.sublist List.filter_sublist) fun x hx => by
      rw [List.mem_filter, decide_eq_true_eq] at hx
      have := h x hx.1
      exact ⟨this.1, by have := hx.2; omega⟩
    have h2 : (L.filter (fun x => !decide (x ≠ (n : Int)))).length ≤ 1 := by
      have hq : (L.filter (fun x => !decide (x ≠ (n : Int)))).Pairwise (· ≠ ·) := hp.sublist List.filter_sublist
      have ha : ∀ x ∈ L.filter (fun x => !decide (x ≠ (n : Int))), x = n := fun x hx => by
        rw [List.mem_filter] at hx
        simpa using hx.2
      match hM : L.filter (fun x => !decide (x ≠ (n : Int))) with
      | [] => simp
      | [x] => simp
      | x :: y :: M =>
        rw [hM] at hq ha
        rw [List.pairwise_cons] at hq
        exact absurd ((ha x (by simp)).trans (ha y (by simp)).symm) (hq.1 y (by simp))
    have h3 := len_split (fun x => decide (x ≠ (n : Int))) L
    omega
theorem countP_le_of_filter {p : JobD → Bool} (l : List JobD) : l.countP p = (l.filter p).length := List.countP_eq_length_filter ..
theorem countP_le_add {p q r : JobD → Bool} : ∀ (l : List JobD), (∀ x ∈ l, p x = true → q x = true ∨ r x = true) → l.countP p ≤ l.countP q + l.countP r
  | [], _ => by simp
  | x :: l, h => by
    have ih := countP_le_add (p := p) (q := q) (r := r) l fun y hy => h y (List.mem_cons_of_mem _ hy)
    have h0 := h x (List.mem_cons_self ..)
    rw [List.countP_cons, List.countP_cons, List.countP_cons]
    cases hp : p x <;> cases hq : q x <;> cases hr : r x <;> simp [hp, hq, hr] at h0 ⊢ <;> omega
/-- The starts of a kind in a window as long as its cure: no more than the moulds, and than the presses. -/
def inWin (w : WorksD) (kind t : Int) (j : JobD) : Bool := decide (j.kind = kind) && (decide (t ≤ j.start) && decide (j.start < t + cureOf w kind))
theorem win_iff {w : WorksD} {kind t : Int} {j : JobD} : inWin w kind t j = true ↔ j.kind = kind ∧ t ≤ j.start ∧ j.start < t + cureOf w kind := by unfold inWin; simp
theorem max_start : ∀ (L : List JobD), L ≠ [] → ∃ z ∈ L, ∀ x ∈ L, x.start ≤ z.start
  | [], h => absurd rfl h
  | [x], _ => ⟨x, by simp, fun y hy => by simp at hy; subst hy; exact Int.le_refl _⟩
  | x :: y :: L, _ => by
    obtain ⟨z, h1, h2⟩ := max_start (y :: L) (by simp)
    by_cases hx : z.start ≤ x.start
    · exact ⟨x, List.mem_cons_self .., fun u hu => by rcases List.mem_cons.1 hu with rfl | hu; exact Int.le_refl _; have := h2 u hu; omega⟩
    · exact ⟨z, List.mem_cons_of_mem _ h1, fun u hu => by rcases List.mem_cons.1 hu with rfl | hu; omega; exact h2 u hu⟩
theorem win_mould {w : WorksD} {l : List JobD} (hv : Valid w l) {kind t : Int} (hm : 0 ≤ mouldOf w kind) : (l.countP (inWin w kind t) : Int) ≤ mouldOf w kind := by
  by_cases hne : l.filter (inWin w kind t) = []
  · rw [List.countP_eq_length_filter, hne]; simpa using hm
  · obtain ⟨z, hz, hmax⟩ := max_start _ hne
    rw [List.mem_filter] at hz
    obtain ⟨k1, k2, k3⟩ := win_iff.1 hz.2
    have h1 := hv.mould z hz.1
    rw [k1] at h1
    have : l.countP (inWin w kind t) ≤ runN w l kind z.start := List.countP_mono_left fun x hx hr => by
      obtain ⟨x1, x2, x3⟩ := win_iff.1 hr
      refine runB_iff.2 ⟨x1, hmax x (List.mem_filter.2 ⟨hx, hr⟩), ?_⟩
      unfold endJ; rw [x1]; omega
    omega
theorem win_press {w : WorksD} {l : List JobD} (hv : Valid w l) {kind t : Int} (hp : 0 ≤ w.presses) : (l.countP (inWin w kind t) : Int) ≤ w.presses := by
  have h := nodup_le w.presses.toNat ((l.filter (inWin w kind t)).map (·.press)) ?_ ?_
  · rw [List.length_map, ← List.countP_eq_length_filter] at h; omega
  · rw [List.pairwise_map]
    have h1 : (l.filter (inWin w kind t)).Pairwise (fun a b => PairOk w a b ∧ (inWin w kind t a = true ∧ inWin w kind t b = true)) := by
      have h2 := hv.pair.sublist (List.filter_sublist (p := inWin w kind t))
      refine h2.imp_of_mem fun {a b} ha hb h => ⟨h, (List.mem_filter.1 ha).2, (List.mem_filter.1 hb).2⟩
    refine h1.imp fun {a b} h => ?_
    obtain ⟨hok, ha, hb⟩ := h
    obtain ⟨a1, a2, a3⟩ := win_iff.1 ha
    obtain ⟨b1, b2, b3⟩ := win_iff.1 hb
    intro he
    have hch : chg w a b = 0 := by unfold chg; rw [if_pos (a1.trans b1.symm)]
    have hch2 : chg w b a = 0 := by unfold chg; rw [if_pos (b1.trans a1.symm)]
    rcases hok he with h | h
    · unfold Sep endJ at h; rw [hch, a1] at h; omega
    · unfold Sep endJ at h; rw [hch2, b1] at h; omega
  · intro x hx
    obtain ⟨j, hj, rfl⟩ := List.mem_map.1 hx
    have := hv.rng j (List.mem_filter.1 hj).1
    exact ⟨this.p0, by have := this.p1; omega⟩
/-- a/b, rounded up. -/
def upZ (a b : Int) : Int := (a + b - 1) / b
theorem upZ_le {a b q : Int} (hb : 1 ≤ b) (h : a ≤ b * q) : upZ a b ≤ q := by
  unfold upZ
  have h1 : a + b - 1 < b * (q + 1) := by rw [Int.mul_add]; omega
  have h2 : (a + b - 1) / b < q + 1 := Int.ediv_lt_of_lt_mul (by omega) (by rw [Int.mul_comm]; exact h1)
  omega
/-- One kind of tyres alone. -/
theorem kind_bound {w : WorksD} (hw : WOk w) {l : List JobD} (hv : Valid w l) {E : Int} (h0 : 0 ≤ E) (hE : ∀ j ∈ l, endJ w j ≤ E) {k : Nat} (hk : k < w.cure.length) : cureOf w k * upZ (needOf w k) (min (mouldOf w k) w.presses) ≤ E := by
  have hc := (hw.cure k hk).1
  have hm : 1 ≤ min (mouldOf w k) w.presses := by have := hw.mould k hk; have := hw.p1; omega
  have hwin : ∀ t : Int, (l.countP (inWin w k t) : Int) ≤ min (mouldOf w k) w.presses := fun t => by
    have h1 := win_mould hv (kind := k) (t := t) (by have := hw.mould k hk; omega)
    have h2 := win_press hv (kind := k) (t := t) (by have := hw.p1; omega)
    omega
  have key : ∀ q : Nat, (l.countP (fun j : JobD => decide (j.kind = (k : Int)) && decide (j.start < q * cureOf w k)) : Int) ≤ min (mouldOf w k) w.presses * q := by
    intro q
    induction q with
    | zero =>
      have : l.countP (fun j : JobD => decide (j.kind = (k : Int)) && decide (j.start < ((0 : Nat) : Int) * cureOf w k)) = 0 := by
        rw [List.countP_eq_zero]
        intro x hx h
        simp only [Bool.and_eq_true, decide_eq_true_eq] at h
        have h1 := (hv.rng x hx).s0
        have h2 := h.2
        simp at h2
        omega
      rw [this]; simp
    | succ q ih =>
      have h1 : l.countP (fun j : JobD => decide (j.kind = (k : Int)) && decide (j.start < ((q + 1 : Nat) : Int) * cureOf w k)) ≤ l.countP (fun j : JobD => decide (j.kind = (k : Int)) && decide (j.start < (q : Int) * cureOf w k)) + l.countP (inWin w k ((q : Int) * cureOf w k)) :=
        countP_le_add l fun x hx h => by
          simp only [Bool.and_eq_true, decide_eq_true_eq] at h ⊢
          by_cases hs : x.start < (q : Int) * cureOf w k
          · exact .inl ⟨h.1, hs⟩
          · refine .inr (win_iff.2 ⟨h.1, by omega, ?_⟩)
            have h2 := h.2
            rw [show ((q + 1 : Nat) : Int) = q + 1 by omega, Int.add_mul] at h2
            omega
      have h2 := hwin ((q : Int) * cureOf w k)
      rw [show ((q + 1 : Nat) : Int) = q + 1 by omega] at h1 ⊢
      rw [Int.mul_add]
      omega
  have hq0 : 0 ≤ E / cureOf w k := Int.ediv_nonneg h0 (by omega)
  obtain ⟨q, hq⟩ : ∃ q : Nat, E / cureOf w k = q := ⟨(E / cureOf w k).toNat, by omega⟩
  have hall : (kindN l k : Int) ≤ min (mouldOf w k) w.presses * q := by
    refine Int.le_trans ?_ (key q)
    have : kindN l k ≤ l.countP (fun j : JobD => decide (j.kind = (k : Int)) && decide (j.start < (q : Int) * cureOf w k)) := List.countP_mono_left fun x hx h => by
      simp only [Bool.and_eq_true, decide_eq_true_eq] at h ⊢
      refine ⟨h, ?_⟩
      have h1 := hE x hx
      unfold endJ at h1
      rw [h] at h1
      have h2 := Int.lt_ediv_add_one_mul_self E (show 0 < cureOf w k by omega)
      rw [hq, Int.add_mul] at h2
      omega
    omega
  rw [hv.need k hk] at hall
  have h1 := upZ_le hm hall
  have h2 : cureOf w k * upZ (needOf w k) (min (mouldOf w k) w.presses) ≤ cureOf w k * q := Int.mul_le_mul_of_nonneg_left h1 (by omega)
  have h3 := Int.mul_ediv_self_le (x := E) (k := cureOf w k) (by omega)
  rw [hq] at h3
  omega
/-! The work of the presses. -/
def curesL (w : WorksD) : List JobD → Int
  | [] => 0
  | j :: l => cureOf w j.kind + curesL w l
def changesL : List JobD → Nat
  | a :: b :: l => (if a.kind = b.kind then 0 else 1) + changesL (b :: l)
  | _ => 0
def hasK (l : List JobD) (k : Int) : Bool := l.any (fun j => decide (j.kind = k))
def kindsL (n : Nat) (l : List JobD) : Nat := (List.range n).countP (fun k => hasK l (k : Nat))
theorem hasK_iff {l : List JobD} {k : Int} : hasK l k = true ↔ ∃ j ∈ l, j.kind = k := by unfold hasK; simp
theorem range_one (k n : Nat) : (List.range n).countP (fun i => decide (i = k)) ≤ 1 := by
  induction n with
  | zero => simp
  | succ n ih =>
    rw [List.range_succ, List.countP_append, List.countP_cons, List.countP_nil]
    by_cases h : n = k
    · have : (List.range n).countP (fun i => decide (i = k)) = 0 := by
        rw [List.countP_eq_zero]; intro x hx; have := List.mem_range.1 hx; simp; omega
      rw [this]; split <;> omega
    · simp [h]; exact ih
theorem countP_le_add' {p q r : Nat → Bool} : ∀ (l : List Nat), (∀ x ∈ l, p x = true → q x = true ∨ r x = true) → l.countP p ≤ l.countP q + l.countP r
  | [], _ => by simp
  | x :: l, h => by
    have ih := countP_le_add' (p := p) (q := q) (r := r) l fun y hy => h y (List.mem_cons_of_mem _ hy)
    have h0 := h x (List.mem_cons_self ..)
    rw [List.countP_cons, List.countP_cons, List.countP_cons]
    cases hp : p x <;> cases hq : q x <;> cases hr : r x <;> simp [hp, hq, hr] at h0 ⊢ <;> omega
theorem kinds_cons (n : Nat) (a : JobD) (l : List JobD) : kindsL n (a :: l) ≤ kindsL n l + 1 := by
  unfold kindsL
  refine Nat.le_trans (countP_le_add' (q := fun k => hasK l (k : Nat)) (r := fun i => decide (i = a.kind.toNat)) _ fun k hk h => ?_) (Nat.add_le_add_left (range_one _ _) _)
  obtain ⟨j, hj, hjk⟩ := hasK_iff.1 h
  rcases List.mem_cons.1 hj with rfl | hj
  · right; simp; omega
  · left; exact hasK_iff.2 ⟨j, hj, hjk⟩
theorem kinds_same {n : Nat} {a : JobD} {l : List JobD} (h : ∃ b ∈ l, b.kind = a.kind) : kindsL n (a :: l) = kindsL n l := by
  unfold kindsL
  congr 1
  funext k
  rw [Bool.eq_iff_iff, hasK_iff, hasK_iff]
  constructor
  · rintro ⟨j, hj, hjk⟩
    rcases List.mem_cons.1 hj with rfl | hj
    · obtain ⟨b, hb, hbk⟩ := h
      exact ⟨b, hb, hbk.trans hjk⟩
    · exact ⟨j, hj, hjk⟩
  · rintro ⟨j, hj, hjk⟩; exact ⟨j, List.mem_cons_of_mem _ hj, hjk⟩
theorem kinds_changes (n : Nat) : ∀ (a : JobD) (l : List JobD), kindsL n (a :: l) ≤ changesL (a :: l) + 1
  | a, [] => by have := kinds_cons n a []; simp [kindsL, hasK, changesL] at this ⊢; exact this
  | a, b :: l => by
    have ih := kinds_changes n b l
    simp only [changesL]
    split
    · rename_i h
      rw [kinds_same ⟨b, List.mem_cons_self .., h.symm⟩]; omega
    · have := kinds_cons n a (b :: l); omega
/-- Of jobs of one press, by their starts: all cures and changes come before the end. -/
theorem chain_bound {w : WorksD} {E : Int} : ∀ (a : JobD) (l : List JobD), (a :: l).Pairwise (fun x y => Sep w x y) → (∀ j ∈ a :: l, endJ w j ≤ E) → endJ w a + curesL w l + w.change * changesL (a :: l) ≤ E
  | a, [], _, h => by simpa [curesL, changesL] using h a (by simp)
  | a, b :: l, hp, h => by
    have ih := chain_bound b l (List.pairwise_cons.1 hp).2 fun j hj => h j (List.mem_cons_of_mem _ hj)
    have hs := (List.pairwise_cons.1 hp).1 b (List.mem_cons_self ..)
    unfold Sep chg at hs
    simp only [curesL, changesL]
    have he : endJ w b = b.start + cureOf w b.kind := rfl
    split
    · rename_i hk
      rw [if_pos hk] at hs
      rw [Nat.zero_add]; omega
    · rename_i hk
      rw [if_neg hk] at hs
      rw [show ((1 + changesL (b :: l) : Nat) : Int) = 1 + changesL (b :: l) by omega, Int.mul_add]; omega
/-- The jobs of a press, put in order. -/
def leS (a b : JobD) : Bool := decide (a.start ≤ b.start)
theorem press_bound {w : WorksD} (hw : WOk w) {l : List JobD} (hr : ∀ j ∈ l, InRange w j) (hp : l.Pairwise (PairOk w)) (p : Int) (hpp : ∀ j ∈ l, j.press = p) {E : Int} (h0 : 0 ≤ E) (hE : ∀ j ∈ l, endJ w j ≤ E) (n : Nat) : curesL w l + w.change * max ((kindsL n l : Int) - 1) 0 ≤ E := by
  have hcure : ∀ j ∈ l, 1 ≤ cureOf w j.kind := fun j hj => by
    have := hr j hj
    have a0 := this.k0
    have a1 := this.k1
    have h1 := hw.cure j.kind.toNat (by omega)
    rw [show ((j.kind.toNat : Nat) : Int) = j.kind by have := this.k0; omega] at h1
    exact h1.1
  have hperm : (l.mergeSort leS).Perm l := List.mergeSort_perm l leS
  have hsort : (l.mergeSort leS).Pairwise (fun a b => leS a b = true) := List.pairwise_mergeSort (le := leS) (by intro a b c; unfold leS; simp only [decide_eq_true_eq]; omega) (by intro a b; unfold leS; simp only [Bool.or_eq_true, decide_eq_true_eq]; omega) l
  have hcong : ∀ {a b : List JobD}, a.Perm b → curesL w a = curesL w b := by
    intro a b h
    induction h with
    | nil => rfl
    | cons x _ ih => simp only [curesL, ih]
    | swap x y l => simp only [curesL]; omega
    | trans _ _ h1 h2 => exact h1.trans h2
  have hkinds : kindsL n (l.mergeSort leS) = kindsL n l := by
    unfold kindsL
    congr 1
    funext k
    rw [Bool.eq_iff_iff, hasK_iff, hasK_iff]
    exact ⟨fun ⟨j, hj, h⟩ => ⟨j, hperm.mem_iff.1 hj, h⟩, fun ⟨j, hj, h⟩ => ⟨j, hperm.mem_iff.2 hj, h⟩⟩
  have hpair : (l.mergeSort leS).Pairwise (PairOk w) := (hperm.pairwise_iff (fun {a b} h he => (h he.symm).symm)).2 hp
  have hsep : (l.mergeSort leS).Pairwise (fun x y => Sep w x y) := by
    refine (hpair.and hsort).imp_of_mem fun {a b} ha hb h => ?_
    rcases h.1 ((hpp a (hperm.mem_iff.1 ha)).trans (hpp b (hperm.mem_iff.1 hb)).symm) with h1 | h1
    · exact h1
    · exfalso
      have h2 := h.2
      unfold leS at h2
      rw [decide_eq_true_eq] at h2
      unfold Sep endJ at h1
      have h3 := hcure b (hperm.mem_iff.1 hb)
      have h4 : 0 ≤ chg w b a := by unfold chg; split; omega; exact hw.c0
      omega
  rw [← hcong hperm, ← hkinds]
  cases hS : l.mergeSort leS with
  | nil =>
    have : kindsL n [] = 0 := by unfold kindsL hasK; simp
    rw [this, show max (((0 : Nat) : Int) - 1) 0 = 0 by omega]
    simp [curesL]; omega
  | cons a S =>
    rw [hS] at hsep
    have hin : ∀ j ∈ a :: S, j ∈ l := fun j hj => hperm.mem_iff.1 (by rw [hS]; exact hj)
    have h1 := chain_bound a S hsep fun j hj => hE j (hin j hj)
    have h2 := kinds_changes n a S
    have h3 := (hr a (hin a (List.mem_cons_self ..))).s0
    have h4 : endJ w a = a.start + cureOf w a.kind := rfl
    have h5 : max ((kindsL n (a :: S) : Int) - 1) 0 ≤ changesL (a :: S) := by omega
    have h6 := Int.mul_le_mul_of_nonneg_left h5 hw.c0
    simp only [curesL]
    omega
/-! All presses together. -/
def onP (l : List JobD) (p : Int) : List JobD := l.filter (fun j => decide (j.press = p))
theorem cures_presses (w : WorksD) (P : Nat) : ∀ (l : List JobD), (∀ j ∈ l, 0 ≤ j.press ∧ j.press < P) → sumR P (fun p => curesL w (onP l p)) = curesL w l
  | [], _ => by simp [onP, curesL, sumR_const]
  | a :: l, h => by
    have ih := cures_presses w P l fun j hj => h j (List.mem_cons_of_mem _ hj)
    have h0 := h a (List.mem_cons_self ..)
    have he : ∀ p : Nat, curesL w (onP (a :: l) p) = (if a.press.toNat = p then cureOf w a.kind else 0) + curesL w (onP l p) := fun p => by
      unfold onP
      rw [List.filter_cons]
      by_cases e : a.press = (p : Int)
      · rw [if_pos (by simpa using e), if_pos (by omega)]; rfl
      · rw [if_neg (by simpa using e), if_neg (by omega)]; omega
    rw [sumR_congr (fun p _ => he p), sumR_add, ih, sumR_one _ _ _ (by omega)]
    rfl
theorem cures_kinds (w : WorksD) (n : Nat) : ∀ (l : List JobD), (∀ j ∈ l, 0 ≤ j.kind ∧ j.kind < n) → curesL w l = sumR n (fun k => cureOf w k * (kindN l k : Nat))
  | [], _ => by simp [kindN, curesL, sumR_const]
  | a :: l, h => by
    have ih := cures_kinds w n l fun j hj => h j (List.mem_cons_of_mem _ hj)
    have h0 := h a (List.mem_cons_self ..)
    have he : ∀ k : Nat, cureOf w k * (kindN (a :: l) k : Nat) = (if a.kind.toNat = k then cureOf w a.kind else 0) + cureOf w k * (kindN l k : Nat) := fun k => by
      unfold kindN
      rw [List.countP_cons]
      by_cases e : a.kind = (k : Int)
      · rw [if_pos (by simpa using e), if_pos (by omega), e]
        rw [show ((List.countP (fun j : JobD => decide (j.kind = (k : Int))) l + 1 : Nat) : Int) = 1 + (List.countP (fun j : JobD => decide (j.kind = (k : Int))) l : Nat) by omega, Int.mul_add, Int.mul_one]
      · rw [if_neg (by simpa using e), if_neg (by omega)]; simp
    rw [sumR_congr (fun k _ => he k), sumR_add, ← ih, sumR_one _ _ _ (by omega)]
    rfl
theorem kindsL_sum (l : List JobD) : ∀ n, (kindsL n l : Int) = sumR n (fun k => if hasK l k = true then 1 else 0)
  | 0 => rfl
  | n + 1 => by
    have ih := kindsL_sum l n
    unfold kindsL at ih ⊢
    rw [List.range_succ, List.countP_append, List.countP_cons, List.countP_nil]
    simp only [sumR]
    rw [← ih]
    cases hasK l (n : Int) <;> simp
theorem kinds_presses (P n : Nat) (l : List JobD) (h : ∀ j ∈ l, 0 ≤ j.press ∧ j.press < P) : (kindsL n l : Int) ≤ sumR P (fun p => (kindsL n (onP l p) : Nat)) := by
  rw [sumR_congr (fun p _ => kindsL_sum (onP l p) n), sumR_swap, kindsL_sum]
  refine sumR_le fun k _ => ?_
  by_cases hk : hasK l k = true
  · rw [if_pos hk]
    obtain ⟨j, hj, hjk⟩ := hasK_iff.1 hk
    have h0 := h j hj
    have := sumR_ge (f := fun p : Nat => if hasK (onP l p) (k : Int) = true then (1 : Int) else 0) (k := j.press.toNat) (n := P) (fun i _ => by split <;> omega) (by omega)
    refine Int.le_trans ?_ this
    rw [if_pos]
    · exact Int.le_refl _
    · refine hasK_iff.2 ⟨j, ?_, hjk⟩
      unfold onP
      rw [List.mem_filter]
      exact ⟨hj, by simp; omega⟩
  · rw [if_neg hk]
    exact sumR_nonneg fun i _ => by split <;> omega
/-- The work and the changes of all presses. -/
def workOf (w : WorksD) : Int := sumR w.cure.length (fun k => cureOf w k * needOf w k)
def kindsOf (w : WorksD) : Int := sumR w.cure.length (fun k => if 0 < needOf w k then 1 else 0)
theorem work_bound {w : WorksD} (hw : WOk w) {l : List JobD} (hv : Valid w l) {E : Int} (h0 : 0 ≤ E) (hE : ∀ j ∈ l, endJ w j ≤ E) : workOf w + w.change * max (kindsOf w - w.presses) 0 ≤ w.presses * E := by
  obtain ⟨P, hP⟩ : ∃ P : Nat, w.presses = P := ⟨w.presses.toNat, by have := hw.p1; omega⟩
  have hpr : ∀ j ∈ l, 0 ≤ j.press ∧ j.press < P := fun j hj => by have := hv.rng j hj; exact ⟨this.p0, by have := this.p1; omega⟩
  have hkr : ∀ j ∈ l, 0 ≤ j.kind ∧ j.kind < (w.cure.length : Nat) := fun j hj => by have := hv.rng j hj; exact ⟨this.k0, this.k1⟩
  have h1 : ∀ p : Nat, p < P → curesL w (onP l p) + w.change * max ((kindsL w.cure.length (onP l p) : Int) - 1) 0 ≤ E := fun p _ =>
    press_bound hw (fun j hj => hv.rng j (List.mem_filter.1 hj).1) (hv.pair.sublist List.filter_sublist) p (fun j hj => by have := (List.mem_filter.1 hj).2; simpa using this) h0 (fun j hj => hE j (List.mem_filter.1 hj).1) _
  have h2 := sumR_le h1
  rw [sumR_add, sumR_mul, sumR_const, cures_presses w P l hpr, cures_kinds w w.cure.length l hkr] at h2
  have h3 : sumR w.cure.length (fun k => cureOf w k * (kindN l k : Nat)) = workOf w := sumR_congr fun k hk => by rw [hv.need k hk]
  rw [h3] at h2
  have h4 : kindsOf w = kindsL w.cure.length l := by
    rw [kindsL_sum]
    refine sumR_congr fun k hk => ?_
    have h5 := hv.need k hk
    by_cases h : hasK l k = true
    · rw [if_pos h, if_pos]
      obtain ⟨j, hj, hjk⟩ := hasK_iff.1 h
      have : 0 < kindN l k := List.countP_pos_iff.2 ⟨j, hj, by simpa using hjk⟩
      omega
    · rw [if_neg h, if_neg]
      have : kindN l k = 0 := by
        unfold kindN
        rw [List.countP_eq_zero]
        intro x hx hxk
        exact h (hasK_iff.2 ⟨x, hx, by simpa using hxk⟩)
      omega
  have h6 : max (kindsOf w - w.presses) 0 ≤ sumR P (fun p => max ((kindsL w.cure.length (onP l p) : Int) - 1) 0) := by
    have h7 : sumR P (fun p => (kindsL w.cure.length (onP l p) : Int) - 1) ≤ sumR P (fun p => max ((kindsL w.cure.length (onP l p) : Int) - 1) 0) := sumR_le fun i _ => by omega
    have h8 : sumR P (fun p => (kindsL w.cure.length (onP l p) : Int) - 1) = sumR P (fun p => (kindsL w.cure.length (onP l p) : Int)) + (P : Int) * (-1) := by
      rw [← sumR_const, ← sumR_add]
      exact sumR_congr fun i _ => by omega
    have h9 := kinds_presses P w.cure.length l hpr
    have h10 : 0 ≤ sumR P (fun p => max ((kindsL w.cure.length (onP l p) : Int) - 1) 0) := sumR_nonneg fun i _ => by omega
    rw [h4, hP]
    omega
  have h11 := Int.mul_le_mul_of_nonneg_left h6 hw.c0
  rw [hP] at h11 ⊢
  omega
/-- A time before which no schedule ends. -/
def boundK (w : WorksD) : Nat → Int
  | 0 => 0
  | k + 1 => max (boundK w k) (cureOf w k * upZ (needOf w k) (min (mouldOf w k) w.presses))
def boundW (w : WorksD) : Int := max (boundK w w.cure.length) (upZ (workOf w + w.change * max (kindsOf w - w.presses) 0) w.presses)
theorem bound_le {w : WorksD} (hw : WOk w) {l : List JobD} (hv : Valid w l) {E : Int} (h0 : 0 ≤ E) (hE : ∀ j ∈ l, endJ w j ≤ E) : boundW w ≤ E := by
  have h1 : ∀ k, k ≤ w.cure.length → boundK w k ≤ E := by
    intro k
    induction k with
    | zero => intro _; exact h0
    | succ k ih =>
      intro hk
      have := ih (by omega)
      have := kind_bound hw hv h0 hE (k := k) (by omega)
      simp only [boundK]; omega
  have h2 := upZ_le hw.p1 (work_bound hw hv h0 hE)
  have := h1 _ (Nat.le_refl _)
  unfold boundW; omega
end Go.Proofs.Ytogccnngdfancaa
