/- What Plan reckons, in plain words: the free time of a press, the earliest time for a job. -/
import Derived.Test.YtogccnngdfancaaSched
import Derived.Test.YtogccnngdfancaaBound
import Derived.Test.YtogccnngdfancaaFits2
import Derived.Test.YtogccnngdfancaaSortI
namespace Go.Proofs.Ytogccnngdfancaa
set_option linter.unusedVariables false
/-- Jobs whose kinds are there and whose starts are small. -/
structure JobsOk (d : WorksD) (l : List JobD) : Prop where
  kind : ∀ y ∈ l, 0 ≤ y.kind ∧ y.kind < d.cure.length
  start : ∀ y ∈ l, 0 ≤ y.start ∧ y.start ≤ 1000000
def frmS (d : WorksD) (press kind : Int) (f : Int) (j : JobD) : Int := if j.press = press then endJ d j + (if j.kind = kind then 0 else d.change) else f
def frmP (d : WorksD) (l : List JobD) (press kind : Int) : Int := l.foldl (frmS d press kind) 0
theorem frmP_take {d : WorksD} {l : List JobD} {press kind : Int} {i : Nat} {x : JobD} (h : l[i]? = some x) : frmP d (l.take (i + 1)) press kind = frmS d press kind (frmP d (l.take i) press kind) x := by
  unfold frmP
  rw [take_snoc? h, List.foldl_append]; rfl
theorem cands_take {d : WorksD} {l : List JobD} {kind frm : Int} {i : Nat} {x : JobD} (h : l[i]? = some x) : cands d (l.take (i + 1)) kind frm = if x.kind = kind ∧ frm < endJ d x then cands d (l.take i) kind frm ++ [endJ d x] else cands d (l.take i) kind frm := by
  unfold cands
  rw [take_snoc? h, List.filter_append, List.map_append]
  split
  · rename_i hh; simp [hh]
  · rename_i hh
    have : (decide (x.kind = kind) && decide (frm < endJ d x)) = false := by simpa using hh
    simp [this]
theorem cands_len (d : WorksD) (l : List JobD) (kind frm : Int) : (cands d l kind frm).length ≤ l.length + 1 := by
  unfold cands
  rw [List.length_cons, List.length_map]
  have := List.length_filter_le (fun j => decide (j.kind = kind) && decide (frm < endJ d j)) l
  omega
/-- The place that is looked up. -/
def earI (d : WorksD) (l : List JobD) (press kind : Int) : Int := firstIdx (atB (fun t => fitsP d l ⟨press, kind, t⟩) (sortZ (cands d l kind (frmP d l press kind)))) (cands d l kind (frmP d l press kind)).length
def earlP (d : WorksD) (l : List JobD) (press kind : Int) : Int := (sortZ (cands d l kind (frmP d l press kind))).getD (max (earI d l press kind) 0).toNat 0
theorem firstIdx_lt (p : Nat → Bool) (n : Nat) : -1 ≤ firstIdx p n ∧ (firstIdx p n < n) := by
  unfold firstIdx
  cases h : (List.range n).find? p with
  | none => exact ⟨by simp, by simp; omega⟩
  | some i =>
    have := List.mem_of_find?_eq_some h
    rw [List.mem_range] at this
    simp
    omega
theorem firstIdx_some {p : Nat → Bool} {n : Nat} (h : ∃ i, i < n ∧ p i = true) : ∃ k : Nat, firstIdx p n = k ∧ k < n ∧ p k = true ∧ ∀ j, j < k → p j = false := by
  unfold firstIdx
  cases hf : (List.range n).find? p with
  | none =>
    rw [List.find?_eq_none] at hf
    obtain ⟨i, h1, h2⟩ := h
    exact absurd h2 (hf i (List.mem_range.2 h1))
  | some k =>
    rw [List.find?_range_eq_some] at hf
    exact ⟨k, rfl, by simpa using hf.2.1, hf.1, fun j hj => by simpa using hf.2.2 j hj⟩
/-- It is the earliest time from the press's free time on that fits. -/
theorem earlP_earliest {d : WorksD} {l : List JobD} {press kind : Int} (hc : 1 ≤ cureOf d kind) (hm : 1 ≤ mouldOf d kind) : Earliest d l kind (frmP d l press kind) (earlP d l press kind) := by
  obtain ⟨t0, h1, h2⟩ := cands_fit (w := d) (l := l) (kind := kind) (frm := frmP d l press kind) hm
  obtain ⟨cs, hcs⟩ : ∃ cs, cs = cands d l kind (frmP d l press kind) := ⟨_, rfl⟩
  have hperm := sortZ_perm cs
  have hsort := sortZ_sorted cs
  have hfit : ∀ t, fitsP d l ⟨press, kind, t⟩ = true ↔ FitsR d l kind t := fun t => fits_iff (j := ⟨press, kind, t⟩) hc
  have hex : ∃ i, i < cs.length ∧ atB (fun t => fitsP d l ⟨press, kind, t⟩) (sortZ cs) i = true := by
    have : t0 ∈ sortZ cs := hperm.mem_iff.2 (by rw [hcs]; exact h1)
    obtain ⟨i, hi, rfl⟩ := List.mem_iff_getElem.1 this
    exact ⟨i, by rw [← hperm.length_eq]; exact hi, by rw [atB_hit (List.getElem?_eq_getElem hi)]; exact (hfit _).2 h2⟩
  obtain ⟨k, k1, k2, k3, k4⟩ := firstIdx_some hex
  have hkl : k < (sortZ cs).length := by rw [hperm.length_eq]; exact k2
  have he : earlP d l press kind = (sortZ cs)[k] := by
    unfold earlP earI
    rw [← hcs, k1, show max (k : Int) 0 = k by omega, Int.toNat_natCast, List.getD_eq_getElem?_getD, List.getElem?_eq_getElem hkl]
    rfl
  rw [atB_hit (List.getElem?_eq_getElem hkl)] at k3
  rw [he]
  refine earliest_of ?_ ((hfit _).1 k3) fun s hs hfs => ?_
  · rw [← hcs]; exact hperm.mem_iff.1 (List.getElem_mem hkl)
  · rw [← hcs] at hs
    obtain ⟨i, hi, rfl⟩ := List.mem_iff_getElem.1 (hperm.mem_iff.2 hs)
    have : ¬ i < k := fun hik => by
      have := k4 i hik
      rw [atB_hit (List.getElem?_eq_getElem hi)] at this
      rw [(hfit _).2 hfs] at this
      cases this
    by_cases hik : i = k
    · subst hik; exact Int.le_refl _
    · exact List.pairwise_iff_getElem.1 hsort k i hkl hi (by omega)
end Go.Proofs.Ytogccnngdfancaa
