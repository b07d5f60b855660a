/- Who is missing, and since when nobody: plain Lean. -/
import Derived.Test.YtfondpakbiagjaaGreatDoorHCsD
namespace Go.Proofs.YtfondpakbiagjaaGreatDoor
open Go.RowKit
set_option linter.unusedVariables false
set_option linter.unusedSimpArgs false
/-- The stations that are needed and have not reported. -/
def missL (need l : List Int) : List Nat := (List.range 32).filter fun s => need.contains (s : Int) && !l.contains (s : Int)
theorem miss_snoc (need l : List Int) (r : Int) : missL need (l ++ [r]) = (missL need l).filter fun (s : Nat) => !decide ((s : Int) = r) := by
  unfold missL
  rw [List.filter_filter]
  refine List.filter_congr fun s _ => ?_
  by_cases h1 : need.contains (s : Int) <;> by_cases h2 : l.contains (s : Int) <;> by_cases h3 : (s : Int) = r <;> simp_all
theorem miss_mono {need l : List Int} (h : missL need l = []) (m : List Int) : missL need (l ++ m) = [] := by
  unfold missL at h ⊢
  rw [List.filter_eq_nil_iff] at h ⊢
  intro s hs
  have := h s hs
  simp_all
theorem miss_lt {need l : List Int} {s : Nat} (h : s ∈ missL need l) : s < 32 := by
  unfold missL at h
  exact List.mem_range.1 (List.mem_filter.1 h).1
/-- Behind how many reports nobody was missing. -/
def atP (need reps : List Int) : Nat → Int
  | 0 => if missL need [] = [] then 0 else -1
  | k + 1 => if missL need (reps.take (k + 1)) = [] ∧ atP need reps k < 0 then (k : Int) + 1 else atP need reps k
theorem at_no {need reps : List Int} : ∀ {k : Nat}, (∀ n, n ≤ k → missL need (reps.take n) ≠ []) → atP need reps k = -1
  | 0, h => by unfold atP; rw [if_neg (by simpa using h 0 (Nat.le_refl 0))]
  | k + 1, h => by
    unfold atP
    rw [if_neg (fun hh => h (k + 1) (Nat.le_refl _) hh.1)]
    exact at_no fun n hn => h n (by omega)
theorem at_yes {need reps : List Int} {n : Nat} (hn : missL need (reps.take n) = []) (hm : ∀ m, m < n → missL need (reps.take m) ≠ []) : ∀ k, n ≤ k → atP need reps k = (n : Int)
  | 0, h => by
    obtain rfl : n = 0 := by omega
    unfold atP; rw [if_pos (by simpa using hn)]; rfl
  | k + 1, h => by
    unfold atP
    rcases Nat.lt_or_ge k n with hk | hk
    · obtain rfl : n = k + 1 := by omega
      have h1 : atP need reps k = -1 := at_no fun m hmm => hm m (by omega)
      rw [if_pos ⟨hn, by rw [h1]; decide⟩]; rfl
    · have h1 := at_yes hn hm k hk
      rw [if_neg (by rw [h1]; omega), h1]
def okSt (l : List Int) : Prop := ∀ z ∈ l, 0 ≤ z ∧ z ≤ 31
open Classical in
/-- The answer. -/
noncomputable def waitP (need reps : List Int) : List Int × Int × Int :=
  if 64 < need.length ∨ 64 < reps.length then ([], 0, 4) else if ¬ okSt (need ++ reps) then ([], 0, 1) else ((missL need reps).map fun (s : Nat) => (s : Int), atP need reps reps.length, 0)
end Go.Proofs.YtfondpakbiagjaaGreatDoor
