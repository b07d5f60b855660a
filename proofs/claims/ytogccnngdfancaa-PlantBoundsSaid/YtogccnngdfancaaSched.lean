/- Plain laws of schedules: when a job fits; the earliest time that fits is the start or an end of a job of the kind. -/
import Derived.RowKit
namespace Go.Proofs.Ytogccnngdfancaa
set_option linter.unusedVariables false
structure WorksD where
  presses : Int
  change : Int
  cure : List Int
  need : List Int
  moulds : List Int
structure JobD where
  press : Int
  kind : Int
  start : Int
deriving DecidableEq
def cureOf (w : WorksD) (k : Int) : Int := w.cure.getD k.toNat 0
def needOf (w : WorksD) (k : Int) : Int := w.need.getD k.toNat 0
def mouldOf (w : WorksD) (k : Int) : Int := w.moulds.getD k.toNat 0
def endJ (w : WorksD) (j : JobD) : Int := j.start + cureOf w j.kind
/-- Does a job of a kind run at a time? -/
def runB (w : WorksD) (kind t : Int) (j : JobD) : Bool := decide (j.kind = kind) && (decide (j.start ≤ t) && decide (t < endJ w j))
def runN (w : WorksD) (l : List JobD) (kind t : Int) : Nat := l.countP (runB w kind t)
theorem runB_iff {w : WorksD} {kind t : Int} {j : JobD} : runB w kind t j = true ↔ j.kind = kind ∧ j.start ≤ t ∧ t < endJ w j := by
  unfold runB; simp
theorem runN_snoc (w : WorksD) (l : List JobD) (j : JobD) (kind t : Int) : runN w (l ++ [j]) kind t = runN w l kind t + if runB w kind t j = true then 1 else 0 := by
  unfold runN
  rw [List.countP_append, List.countP_cons, List.countP_nil]
  simp
/-- No more than the moulds at any time of a cure that starts at t. -/
def FitsR (w : WorksD) (l : List JobD) (kind t : Int) : Prop := ∀ s, t ≤ s → s < t + cureOf w kind → (runN w l kind s : Int) < mouldOf w kind
/-- The test of the program: at the starts alone. -/
def badJ (w : WorksD) (all : List JobD) (j : JobD) (x : JobD) : Bool := decide (x.kind = j.kind) && (decide (j.start ≤ x.start) && decide (x.start < endJ w j)) && decide (mouldOf w j.kind < (runN w all j.kind x.start : Int))
def fitsP (w : WorksD) (l : List JobD) (j : JobD) : Bool := !((l ++ [j]).any (badJ w (l ++ [j]) j))
/-- The latest start among the jobs that run at s, or t. -/
theorem last_start (w : WorksD) (kind t s : Int) (hts : t ≤ s) : ∀ (l : List JobD), ∃ s', t ≤ s' ∧ s' ≤ s ∧ (s' = t ∨ ∃ x ∈ l, x.kind = kind ∧ x.start = s' ∧ t ≤ x.start) ∧ ∀ x ∈ l, runB w kind s x = true → runB w kind s' x = true
  | [] => ⟨t, Int.le_refl _, hts, .inl rfl, fun x h => by cases h⟩
  | y :: l => by
    obtain ⟨s', h1, h2, h3, h4⟩ := last_start w kind t s hts l
    by_cases hy : runB w kind s y = true ∧ s' < y.start
    · obtain ⟨hy, hlt⟩ := hy
      obtain ⟨k1, k2, k3⟩ := runB_iff.1 hy
      refine ⟨y.start, by omega, k2, .inr ⟨y, List.mem_cons_self .., k1, rfl, by omega⟩, fun x hx hr => ?_⟩
      obtain ⟨x1, x2, x3⟩ := runB_iff.1 hr
      rcases List.mem_cons.1 hx with rfl | hx
      · exact runB_iff.2 ⟨x1, Int.le_refl _, by omega⟩
      · obtain ⟨z1, z2, z3⟩ := runB_iff.1 (h4 x hx hr)
        exact runB_iff.2 ⟨x1, by omega, by omega⟩
    · refine ⟨s', h1, h2, ?_, fun x hx hr => ?_⟩
      · rcases h3 with h3 | ⟨x, hx, h3⟩
        · exact .inl h3
        · exact .inr ⟨x, List.mem_cons_of_mem _ hx, h3⟩
      · rcases List.mem_cons.1 hx with rfl | hx
        · obtain ⟨x1, x2, x3⟩ := runB_iff.1 hr
          have : ¬ s' < x.start := fun h => hy ⟨hr, h⟩
          exact runB_iff.2 ⟨x1, by omega, by omega⟩
        · exact h4 x hx hr
theorem fits_iff {w : WorksD} {l : List JobD} {j : JobD} (hc : 1 ≤ cureOf w j.kind) : fitsP w l j = true ↔ FitsR w l j.kind j.start := by
  have hadd : ∀ s, j.start ≤ s → s < endJ w j → runN w (l ++ [j]) j.kind s = runN w l j.kind s + 1 := fun s h1 h2 => by
    rw [runN_snoc, if_pos (runB_iff.2 ⟨rfl, h1, h2⟩)]
  have hend : endJ w j = j.start + cureOf w j.kind := rfl
  unfold fitsP
  rw [Bool.not_eq_true', List.any_eq_false]
  constructor
  · intro h s h1 h2
    have hat : ∀ x ∈ l ++ [j], x.kind = j.kind → j.start ≤ x.start → x.start < endJ w j → (runN w l j.kind x.start : Int) < mouldOf w j.kind := fun x hx hk h3 h4 => by
      have := h x hx
      unfold badJ at this
      simp only [Bool.and_eq_true, decide_eq_true_eq, not_and, Int.not_lt] at this
      have h5 := this ⟨hk, h3, h4⟩
      rw [hadd _ h3 h4] at h5
      omega
    obtain ⟨s', k1, k2, k3, k4⟩ := last_start w j.kind j.start s h1 l
    have hle : runN w l j.kind s ≤ runN w l j.kind s' := List.countP_mono_left k4
    have : (runN w l j.kind s' : Int) < mouldOf w j.kind := by
      rcases k3 with rfl | ⟨x, hx, hk, rfl, h5⟩
      · exact hat j (by simp) rfl (Int.le_refl _) (by omega)
      · exact hat x (by simp [hx]) hk h5 (by omega)
    omega
  · intro h x hx
    unfold badJ
    simp only [Bool.and_eq_true, decide_eq_true_eq, not_and, Int.not_lt]
    rintro ⟨hk, h3, h4⟩
    have := h x.start h3 (by omega)
    rw [hadd _ h3 h4]
    omega
/-- Where it fits at t but not just before, t is the end of a job of the kind. -/
theorem fits_end {w : WorksD} {l : List JobD} {kind t : Int} (h : FitsR w l kind t) (h' : ¬ FitsR w l kind (t - 1)) : ∃ x ∈ l, x.kind = kind ∧ endJ w x = t := by
  have hb : ∃ s, t - 1 ≤ s ∧ s < t - 1 + cureOf w kind ∧ mouldOf w kind ≤ (runN w l kind s : Int) := by
    refine Classical.byContradiction fun hn => h' fun s h1 h2 => ?_
    refine Int.not_le.1 fun h3 => hn ⟨s, h1, h2, h3⟩
  obtain ⟨s, h1, h2, h3⟩ := hb
  have hs : s = t - 1 := by
    by_cases hlt : t ≤ s
    · have := h s hlt (by omega); omega
    · omega
  subst hs
  have hlt : (runN w l kind t : Int) < runN w l kind (t - 1) := by
    have := h t (Int.le_refl _) (by omega)
    omega
  have hne : ∃ x ∈ l, runB w kind (t - 1) x = true ∧ runB w kind t x = false := by
    refine Classical.byContradiction fun hn => ?_
    have : runN w l kind (t - 1) ≤ runN w l kind t := List.countP_mono_left fun x hx hr => by
      cases hq : runB w kind t x with
      | true => rfl
      | false => exact absurd ⟨x, hx, hr, hq⟩ hn
    omega
  obtain ⟨x, hx, hr, hq⟩ := hne
  obtain ⟨k1, k2, k3⟩ := runB_iff.1 hr
  refine ⟨x, hx, k1, ?_⟩
  have : ¬ (x.kind = kind ∧ x.start ≤ t ∧ t < endJ w x) := fun h => by rw [runB_iff.2 h] at hq; cases hq
  by_cases h4 : t < endJ w x
  · exact absurd ⟨k1, by omega, h4⟩ this
  · omega
/-- Behind all ends it fits. -/
theorem fits_late {w : WorksD} {l : List JobD} {kind t : Int} (hm : 1 ≤ mouldOf w kind) (h : ∀ x ∈ l, x.kind = kind → endJ w x ≤ t) : FitsR w l kind t := fun s h1 h2 => by
  have : runN w l kind s = 0 := by
    unfold runN
    rw [List.countP_eq_zero]
    intro x hx hr
    obtain ⟨k1, k2, k3⟩ := runB_iff.1 hr
    have := h x hx k1
    omega
  omega
/-- The times that the program tries. -/
def cands (w : WorksD) (l : List JobD) (kind frm : Int) : List Int := frm :: (l.filter (fun j => decide (j.kind = kind) && decide (frm < endJ w j))).map (endJ w)
theorem mem_cands {w : WorksD} {l : List JobD} {kind frm t : Int} : t ∈ cands w l kind frm ↔ t = frm ∨ (frm < t ∧ ∃ x ∈ l, x.kind = kind ∧ endJ w x = t) := by
  unfold cands
  simp only [List.mem_cons, List.mem_map, List.mem_filter, Bool.and_eq_true, decide_eq_true_eq]
  constructor
  · rintro (h | ⟨x, ⟨h1, h2, h3⟩, rfl⟩)
    · exact .inl h
    · exact .inr ⟨h3, x, h1, h2, rfl⟩
  · rintro (h | ⟨h0, x, h1, h2, rfl⟩)
    · exact .inl h
    · exact .inr ⟨x, ⟨h1, h2, h0⟩, rfl⟩
/-- t is the earliest time from frm on that fits. -/
structure Earliest (w : WorksD) (l : List JobD) (kind frm t : Int) : Prop where
  le : frm ≤ t
  fits : FitsR w l kind t
  least : ∀ s, frm ≤ s → s < t → ¬ FitsR w l kind s
theorem Earliest.uniq {w : WorksD} {l : List JobD} {kind frm t t' : Int} (h : Earliest w l kind frm t) (h' : Earliest w l kind frm t') : t = t' := by
  rcases Int.lt_trichotomy t t' with hl | hl | hl
  · exact absurd h.fits (h'.least t h.le hl)
  · exact hl
  · exact absurd h'.fits (h.least t' h'.le hl)
theorem Earliest.cand {w : WorksD} {l : List JobD} {kind frm t : Int} (h : Earliest w l kind frm t) : t ∈ cands w l kind frm := by
  rw [mem_cands]
  by_cases e : t = frm
  · exact .inl e
  · have hl := h.le
    obtain ⟨x, h1, h2, h3⟩ := fits_end h.fits (h.least (t - 1) (by omega) (by omega))
    exact .inr ⟨by omega, x, h1, h2, h3⟩
/-- The least of the times that are tried and fit is the earliest. -/
theorem earliest_of {w : WorksD} {l : List JobD} {kind frm t : Int} (ht : t ∈ cands w l kind frm) (hf : FitsR w l kind t) (hl : ∀ s ∈ cands w l kind frm, FitsR w l kind s → t ≤ s) : Earliest w l kind frm t := by
  have hle : frm ≤ t := by rcases mem_cands.1 ht with h | ⟨h, _⟩ <;> omega
  refine ⟨hle, hf, fun s h1 h2 hs => ?_⟩
  -- the least fitting time from frm to s is a candidate
  obtain ⟨n, hn⟩ : ∃ n : Nat, s = frm + n := ⟨(s - frm).toNat, by omega⟩
  have key : ∀ n : Nat, FitsR w l kind (frm + n) → ∃ u, Earliest w l kind frm u ∧ u ≤ frm + n := by
    intro n
    induction n using Nat.strongRecOn with
    | _ n ih =>
      intro hfn
      by_cases hb : ∃ m : Nat, m < n ∧ FitsR w l kind (frm + m)
      · obtain ⟨m, hm, hfm⟩ := hb
        obtain ⟨u, h1, h2⟩ := ih m hm hfm
        exact ⟨u, h1, by omega⟩
      · exact ⟨frm + n, ⟨by omega, hfn, fun s' h1 h2 hs' => hb ⟨(s' - frm).toNat, by omega, by rw [show frm + ((s' - frm).toNat : Int) = s' by omega]; exact hs'⟩⟩, Int.le_refl _⟩
  obtain ⟨u, h3, h4⟩ := key n (by rw [← hn]; exact hs)
  have := hl u h3.cand h3.fits
  omega
/-- One of the times that are tried fits. -/
theorem cands_fit {w : WorksD} {l : List JobD} {kind frm : Int} (hm : 1 ≤ mouldOf w kind) : ∃ t ∈ cands w l kind frm, FitsR w l kind t := by
  have : ∀ L : List Int, L ≠ [] → ∃ t ∈ L, ∀ s ∈ L, s ≤ t := by
    intro L
    induction L with
    | nil => intro h; exact absurd rfl h
    | cons x L ih =>
      intro _
      cases L with
      | nil => exact ⟨x, by simp, fun s hs => by simp at hs; omega⟩
      | cons y L =>
        obtain ⟨t, h1, h2⟩ := ih (by simp)
        by_cases hx : t ≤ x
        · exact ⟨x, List.mem_cons_self .., fun s hs => by rcases List.mem_cons.1 hs with rfl | hs; exact Int.le_refl _; have := h2 s hs; omega⟩
        · exact ⟨t, List.mem_cons_of_mem _ h1, fun s hs => by rcases List.mem_cons.1 hs with rfl | hs; omega; exact h2 s hs⟩
  obtain ⟨t, h1, h2⟩ := this (cands w l kind frm) (by simp [cands])
  refine ⟨t, h1, fits_late hm fun x hx hk => ?_⟩
  by_cases h : frm < endJ w x
  · exact h2 _ (mem_cands.2 (.inr ⟨h, x, hx, hk, rfl⟩))
  · have := h2 frm (mem_cands.2 (.inl rfl)); omega
end Go.Proofs.Ytogccnngdfancaa
