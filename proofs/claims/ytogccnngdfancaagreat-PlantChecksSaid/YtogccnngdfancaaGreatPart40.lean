/- Plain law: the reference's error of a schedule is the program's. -/
import Derived.Test.YtogccnngdfancaaGreatPart39
import Derived.Test.YtogccnngdfancaaGreatPart12
namespace Go.Proofs.YtogccnngdfancaaGreat
set_option linter.unusedVariables false
theorem rchk_eq (d : WorksD) (l : List JobD) : rchkE d l = chkE d l := by
  unfold rchkE chkE
  by_cases hw : wErr d ≠ 0
  · rw [if_pos hw, if_pos hw]
  · rw [if_neg hw, if_neg hw]
    by_cases hl : 64 < l.length
    · rw [if_pos hl, if_pos hl]
    · rw [if_neg hl, if_neg hl]
      by_cases ha : l.all (inRB d) = false
      · rw [if_pos ha, if_pos ha]
      · rw [if_neg ha, if_neg ha]
        have hg := wgood_of (by simpa using hw)
        have hr : ∀ j ∈ l, InRange d j := fun j hj => inRB_iff.1 (List.all_eq_true.1 (by simpa using ha) j hj)
        have hp := pairs_iff hg hr
        have hbad : (List.range l.length).any (badI d l) = true ↔ ¬ l.Pairwise (PairOk d) ∨ overM d l = true := by
          rw [hp]
          constructor
          · intro h
            obtain ⟨i, hi, hb⟩ := List.any_eq_true.1 h
            have hi := List.mem_range.1 hi
            unfold badI at hb
            rw [Bool.or_eq_true, Bool.or_eq_true] at hb
            rcases hb with h1 | h1 | h1
            · left
              rintro ⟨h2, _⟩
              unfold ovUp at h1
              obtain ⟨k, hk, h3⟩ := List.any_eq_true.1 h1
              unfold ovB at h3
              simp only [Bool.and_eq_true, decide_eq_true_iff] at h3
              exact h2 i k (List.mem_range.1 hk) hi h3
            · left
              rintro ⟨_, h2⟩
              unfold ahB at h1
              simp only [Bool.and_eq_true, decide_eq_true_iff] at h1
              exact h2 i hi h1
            · right
              unfold moB at h1
              unfold overM
              exact List.any_eq_true.2 ⟨_, jobAt_mem hi, h1⟩
          · intro h
            refine Classical.byContradiction fun hn => ?_
            have hn : ∀ i, i < l.length → badI d l i = false := fun i hi => by
              cases e : badI d l i with
              | false => rfl
              | true => exact absurd (List.any_eq_true.2 ⟨i, List.mem_range.2 hi, e⟩) hn
            rcases h with h | h
            · refine h ⟨fun i k hk hi h1 => ?_, fun i hi h1 => ?_⟩
              · have := hn i hi
                unfold badI at this
                rw [Bool.or_eq_false_iff] at this
                have h2 := this.1
                unfold ovUp at h2
                rw [List.any_eq_false] at h2
                refine h2 k (List.mem_range.2 hk) ?_
                unfold ovB
                simp only [Bool.and_eq_true, decide_eq_true_iff]
                exact h1
              · have := hn i hi
                unfold badI at this
                rw [Bool.or_eq_false_iff, Bool.or_eq_false_iff] at this
                have h2 := this.2.1
                have : ahB d l i = true := by
                  unfold ahB
                  simp only [Bool.and_eq_true, decide_eq_true_iff]
                  exact h1
                rw [this] at h2; cases h2
            · unfold overM at h
              obtain ⟨j, hj, h1⟩ := List.any_eq_true.1 h
              obtain ⟨i, hi, he⟩ := List.getElem_of_mem hj
              have := hn i hi
              unfold badI at this
              rw [Bool.or_eq_false_iff, Bool.or_eq_false_iff] at this
              have h2 := this.2.2
              unfold moB at h2
              rw [jobAt_of (List.getElem?_eq_getElem hi), he, h1] at h2
              cases h2
        have hneed : (List.range d.need.length).all (needOk d l) = true ↔ cntL d l = d.need := by
          rw [cnt_need hg l, List.all_eq_true]
          have hnl := hg.ok.n1
          constructor
          · intro h k hk
            have := h k (List.mem_range.2 (by omega))
            unfold needOk at this
            simpa using this
          · intro h k hk
            unfold needOk
            exact decide_eq_true (h k (by have := List.mem_range.1 hk; omega))
        by_cases h1 : l.Pairwise (PairOk d)
        · rw [if_neg (c := ¬ l.Pairwise (PairOk d)) (fun h => h h1)]
          by_cases h2 : overM d l = true
          · rw [if_pos (hbad.2 (.inr h2)), if_pos h2]
          · rw [if_neg (fun h => (hbad.1 h).elim (fun h => h h1) h2), if_neg h2]
            by_cases h3 : cntL d l = d.need
            · rw [if_pos (hneed.2 h3), if_pos h3]
            · rw [if_neg (fun h => h3 (hneed.1 h)), if_neg h3]
        · rw [if_pos (hbad.2 (.inl h1)), if_pos h1]
end Go.Proofs.YtogccnngdfancaaGreat
