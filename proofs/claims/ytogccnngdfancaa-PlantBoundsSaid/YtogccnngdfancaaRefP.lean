/- The reference's Plan in plain words: the last job of a press, the times it tries. -/
import Derived.Test.YtogccnngdfancaaPlanQ
namespace Go.Proofs.Ytogccnngdfancaa
set_option linter.unusedVariables false
def jobAt (l : List JobD) (i : Int) : JobD := l.getD i.toNat ⟨0, 0, 0⟩
theorem jobAt_of {l : List JobD} {i : Nat} {x : JobD} (h : l[i]? = some x) : jobAt l i = x := by
  unfold jobAt
  rw [Int.toNat_natCast, List.getD_eq_getElem?_getD, h]; rfl
def lastS (d : WorksD) (l : List JobD) (p la : Int) (i : Nat) : Int := if (jobAt l i).press = p ∧ (la < 0 ∨ endJ d (jobAt l la) < endJ d (jobAt l i)) then (i : Int) else la
def lastN (d : WorksD) (l : List JobD) (p : Int) : Nat → Int
  | 0 => -1
  | n + 1 => lastS d l p (lastN d l p n) n
theorem lastN_bd (d : WorksD) (l : List JobD) (p : Int) : ∀ n : Nat, -1 ≤ lastN d l p n ∧ lastN d l p n < n
  | 0 => by simp [lastN]
  | n + 1 => by
    have := lastN_bd d l p n
    simp only [lastN, lastS]
    split <;> omega
def rfrm (d : WorksD) (l : List JobD) (p kind : Int) : Int := if lastN d l p l.length < 0 then 0 else endJ d (jobAt l (lastN d l p l.length)) + (if (jobAt l (lastN d l p l.length)).kind = kind then 0 else d.change)
/-- At each press a later job ends later. -/
def Ord (d : WorksD) (l : List JobD) : Prop := l.Pairwise fun x y => x.press = y.press → endJ d x < endJ d y
theorem last_is {d : WorksD} {l : List JobD} (ho : Ord d l) (p kind : Int) : ∀ n, n ≤ l.length →
    (lastN d l p n = -1 ∧ (∀ i : Nat, i < n → (jobAt l i).press ≠ p) ∧ frmP d (l.take n) p kind = 0) ∨
    (∃ i : Nat, i < n ∧ lastN d l p n = i ∧ (jobAt l i).press = p ∧ (∀ j : Nat, j < n → (jobAt l j).press = p → j ≤ i) ∧ frmP d (l.take n) p kind = endJ d (jobAt l i) + (if (jobAt l i).kind = kind then 0 else d.change))
  | 0, _ => .inl ⟨rfl, fun i hi => absurd hi (by omega), rfl⟩
  | n + 1, hn => by
    have hx : l[n]? = some (l[n]'(by omega)) := List.getElem?_eq_getElem (by omega)
    have hja := jobAt_of hx
    have hf := frmP_take (d := d) (press := p) (kind := kind) hx
    rw [← hja] at hf
    unfold frmS at hf
    have ih := last_is ho p kind n (by omega)
    simp only [lastN, lastS]
    by_cases hp : (jobAt l n).press = p
    · refine .inr ⟨n, by omega, ?_, hp, fun j hj _ => by omega, by rw [hf, if_pos hp]⟩
      rw [if_pos]
      refine ⟨hp, ?_⟩
      rcases ih with ⟨h1, _⟩ | ⟨i, h1, h2, h3, _⟩
      · exact .inl (by omega)
      · refine .inr ?_
        rw [h2]
        have hi : l[i]? = some (l[i]'(by omega)) := List.getElem?_eq_getElem (by omega)
        rw [jobAt_of hi, hja]
        refine List.pairwise_iff_getElem.1 ho i n (by omega) (by omega) h1 ?_
        rw [jobAt_of hi] at h3
        rw [hja] at hp
        rw [h3, hp]
    · rw [if_neg (fun h => hp h.1), hf, if_neg hp]
      rcases ih with ⟨h1, h2, h3⟩ | ⟨i, h1, h2, h3, h4, h5⟩
      · refine .inl ⟨h1, fun i hi => ?_, h3⟩
        by_cases e : i = n
        · subst e; exact hp
        · exact h2 i (by omega)
      · refine .inr ⟨i, by omega, h2, h3, fun j hj hjp => ?_, h5⟩
        by_cases e : j = n
        · subst e; exact absurd hjp hp
        · exact h4 j (by omega) hjp
theorem rfrm_eq {d : WorksD} {l : List JobD} (ho : Ord d l) (p kind : Int) : rfrm d l p kind = frmP d l p kind := by
  have h := last_is ho p kind l.length (Nat.le_refl _)
  rw [List.take_length] at h
  unfold rfrm
  rcases h with ⟨h1, _, h3⟩ | ⟨i, h1, h2, h3, _, h5⟩
  · rw [h1, if_pos (by omega), h3]
  · rw [h2, if_neg (by omega), h5]
theorem ends_frm {d : WorksD} (hc : 0 ≤ d.change) {l : List JobD} (ho : Ord d l) (p kind : Int) : ∀ y ∈ l, y.press = p → endJ d y ≤ frmP d l p kind := fun y hy hp => by
  have h := last_is ho p kind l.length (Nat.le_refl _)
  rw [List.take_length] at h
  obtain ⟨j, hj, rfl⟩ := List.mem_iff_getElem.1 hy
  have hja : jobAt l j = l[j] := jobAt_of (List.getElem?_eq_getElem hj)
  rcases h with ⟨_, h2, _⟩ | ⟨i, h1, _, h3, h4, h5⟩
  · exact absurd (by rw [hja]; exact hp) (h2 j hj)
  · have hji := h4 j hj (by rw [hja]; exact hp)
    have hia : jobAt l i = l[i] := jobAt_of (List.getElem?_eq_getElem h1)
    rw [h5, hia]
    have : endJ d l[j] ≤ endJ d l[i] := by
      by_cases e : j = i
      · subst e; exact Int.le_refl _
      · have := List.pairwise_iff_getElem.1 ho j i hj h1 (by omega) (by rw [hp, ← hia, h3])
        omega
    split <;> omega
theorem Ord.snoc {d : WorksD} (hc : 0 ≤ d.change) {l : List JobD} (ho : Ord d l) {p kind t : Int} (hk : 1 ≤ cureOf d kind) (ht : frmP d l p kind ≤ t) : Ord d (l ++ [⟨p, kind, t⟩]) := by
  unfold Ord
  rw [List.pairwise_append]
  refine ⟨ho, List.pairwise_singleton _ _, fun x hx y hy => ?_⟩
  rw [List.mem_singleton.1 hy]
  intro hp
  have := ends_frm hc ho p kind x hx hp
  show endJ d x < t + cureOf d kind
  omega
theorem planI_ord {d : WorksD} (hg : WGood d) {k : Nat} {m : List Int} {l : List JobD} (h : PlanInv d k m l) (ho : Ord d l) (hp : 0 ≤ pickN d m m.length) : Ord d (l ++ [bestN d l (pickN d m m.length) (d.presses - 1).toNat]) := by
  have hb := pickN_bd d m m.length
  obtain ⟨p, p1, p2, p3⟩ := bestN_is d l (pickN d m m.length) (d.presses - 1).toNat
  rw [p3]
  have hk1 : pickN d m m.length < d.cure.length := by have := h.ml; omega
  have hc := hg.ok.cure (pickN d m m.length).toNat (by omega)
  have hm := hg.ok.mould (pickN d m m.length).toNat (by omega)
  rw [show (((pickN d m m.length).toNat : Nat) : Int) = pickN d m m.length by omega] at hc hm
  exact ho.snoc hg.ok.c0 hc.1 (earlP_earliest hc.1 hm).le
/-- The best press, as the reference finds it: nothing yet is -1. -/
def rbestN (d : WorksD) (l : List JobD) (kind : Int) : Nat → JobD
  | 0 => ⟨-1, 0, 0⟩
  | n + 1 => if (rbestN d l kind n).press < 0 ∨ earlP d l n kind < (rbestN d l kind n).start then ⟨n, kind, earlP d l n kind⟩ else rbestN d l kind n
theorem rbestN_eq (d : WorksD) (l : List JobD) (kind : Int) : ∀ n, rbestN d l kind (n + 1) = bestN d l kind n
  | 0 => by simp [rbestN, bestN]
  | n + 1 => by
    have ih := rbestN_eq d l kind n
    obtain ⟨p, h1, h2, h3⟩ := bestN_is d l kind n
    rw [rbestN, ih]
    simp only [bestN]
    have hcast : ((n + 1 : Nat) : Int) = (n : Int) + 1 := by omega
    rw [hcast]
    have : ¬ (bestN d l kind n).press < 0 := by rw [h3]; show ¬ p < 0; omega
    by_cases hc : earlP d l ((n : Int) + 1) kind < (bestN d l kind n).start
    · rw [if_pos (.inr hc), if_pos hc]
    · rw [if_neg (fun h => by rcases h with h | h; exact this h; exact hc h), if_neg hc]
end Go.Proofs.Ytogccnngdfancaa
