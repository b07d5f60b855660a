/- A casing's add, joined. -/
import Derived.Test.YtfondpakbiagjaaGreatDoorHCsG
namespace Go.Proofs.YtfondpakbiagjaaGreatDoor
open Go.RowKit
set_option linter.unusedVariables false
set_option linter.unusedSimpArgs false
set_option maxRecDepth 100000
set_option maxHeartbeats 4000000
def AddPost (w : World) (i cb : Nat) (c : CasD) (e : EvD) (r : Ending) (w' : World) : Prop :=
  Below cb w w' ∧ ((evErr i c.last e ≠ 0 ∧ r = .returned (.int .i64 (evErr i c.last e))) ∨ (evErr i c.last e = 0 ∧ casStep c e = none ∧ r = .returned (.int .i64 5)) ∨
    (∃ c' rv' ov', evErr i c.last e = 0 ∧ casStep c e = some c' ∧ r = .returned (.int .i64 0) ∧ CasW w' cb rv' ov' c'))
open Classical in
theorem evErr_1 {i : Nat} {l : Int} {e : EvD} (h : ¬ EvOk e) : evErr i l e = 1 := by unfold evErr; rw [if_neg h]
open Classical in
theorem evErr_7 {i : Nat} {l : Int} {e : EvD} (h : EvOk e) (h2 : ¬ EvIn i l e) : evErr i l e = 7 := by unfold evErr; rw [if_pos h, if_neg h2]
open Classical in
theorem evErr_0 {i : Nat} {l : Int} {e : EvD} (h : EvOk e) (h2 : EvIn i l e) : evErr i l e = 0 := by unfold evErr; rw [if_pos h, if_pos h2]
theorem bool_and {p q : Prop} [Decidable p] [Decidable q] : (decide p && decide q) = decide (p ∧ q) := by by_cases hp : p <;> by_cases hq : q <;> simp [hp, hq]
theorem add_any (i cb : Nat) (rv ov : Value) (c : CasD) (e : EvD) (w : World) (h : CasW w cb rv ov c) (hb : c.opn.length ≤ 100 ∧ c.rep.length ≤ 100) (hr : 0 ≤ c.ret ∧ c.ret ≤ 1000) :
    Calls Tryz.prog 47 #[.pointer (some ⟨cb, 0, none⟩), .int .i64 (i : Int), .agg (evC e).toArray] w (AddPost w i cb c e) := by
  obtain ⟨d, k, p⟩ := e
  show Calls _ _ #[_, _, .agg #[.int .i64 d, .int .i64 k, .int .i64 p]] _ _
  have bad : ∀ n : Int, n ≠ 0 → evErr i c.last ⟨d, k, p⟩ = n → ∀ r w', (r = Ending.returned (.int .i64 n) ∧ Below cb w w') → AddPost w i cb c ⟨d, k, p⟩ r w' := fun n hn he r w' ⟨a, b⟩ => ⟨b, .inl ⟨by rw [he]; exact hn, by rw [he]; exact a⟩⟩
  have good : ∀ c', evErr i c.last ⟨d, k, p⟩ = 0 → casStep c ⟨d, k, p⟩ = some c' → ∀ r w', (r = Ending.returned (.int .i64 0) ∧ (∃ rv' ov', CasW w' cb rv' ov' c') ∧ Below cb w w') → AddPost w i cb c ⟨d, k, p⟩ r w' := fun c' he hs r w' ⟨a, ⟨rv', ov', hc⟩, b⟩ => ⟨b, .inr (.inr ⟨c', rv', ov', he, hs, a, hc⟩)⟩
  by_cases hd : 0 ≤ d ∧ d ≤ 1000000
  case neg => exact (add_day i cb rv ov c k d p w h (by rw [bool_and]; exact decide_eq_false hd)).mono (bad 1 (by decide) (evErr_1 fun hh => hd hh.1))
  by_cases hk : 0 ≤ k ∧ k ≤ 3
  case neg => exact (add_kind i cb rv ov c k d p w h (by rw [bool_and]; exact decide_eq_true hd) (by rw [bool_and]; exact decide_eq_false hk)).mono (bad 1 (by decide) (evErr_1 fun hh => hk hh.2.1))
  have hdB : (decide (0 ≤ d) && decide (d ≤ 1000000)) = true := by rw [bool_and]; exact decide_eq_true hd
  rcases (by omega : k = 0 ∨ k = 1 ∨ k = 2 ∨ k = 3) with rfl | rfl | rfl | rfl
  · have hok : EvOk ⟨d, 0, p⟩ := ⟨hd, hk, fun hh => absurd hh (by simp)⟩
    by_cases hi : i = 0
    · exact (add_k0 i cb rv ov c d p w h hdB hi).mono (good _ (evErr_0 hok ⟨fun hh => by omega, by simp [hi]⟩) rfl)
    · by_cases hl : d < c.last
      · exact (add_early0 i cb rv ov c d p w h hdB (by omega) hl).mono (bad 7 (by decide) (evErr_7 hok fun hh => hh.1 ⟨by omega, hl⟩))
      · exact (add_again i cb rv ov c d p w h hdB (by omega) hl).mono (bad 7 (by decide) (evErr_7 hok fun hh => hi (hh.2.2 rfl)))
  · have hok : EvOk ⟨d, 1, p⟩ := ⟨hd, hk, fun hh => absurd hh (by simp)⟩
    by_cases hi : i = 0
    · exact (add_first1 i cb rv ov c d p w h hdB hi).mono (bad 7 (by decide) (evErr_7 hok fun hh => absurd (hh.2.1 hi) (by simp)))
    · by_cases hl : d < c.last
      · exact (add_early1 i cb rv ov c d p w h hdB (by omega) hl).mono (bad 7 (by decide) (evErr_7 hok fun hh => hh.1 ⟨by omega, hl⟩))
      · exact (add_k1 i cb rv ov c d p w h hdB (by omega) hl hr).mono (good _ (evErr_0 hok ⟨fun hh => hl hh.2, ⟨fun hh => absurd hh hi, fun hh => absurd hh (by simp)⟩⟩) rfl)
  · by_cases hp : 0 ≤ p ∧ p ≤ 23
    case neg => exact (add_place2 i cb rv ov c d p w h hdB (by unfold placeB; rw [bool_and]; exact decide_eq_false hp)).mono (bad 1 (by decide) (evErr_1 fun hh => hp (hh.2.2 (by simp))))
    have hpB : placeB p = true := by unfold placeB; rw [bool_and]; exact decide_eq_true hp
    have hok : EvOk ⟨d, 2, p⟩ := ⟨hd, hk, fun _ => hp⟩
    by_cases hi : i = 0
    · exact (add_first2 i cb rv ov c d p w h hdB hpB hi).mono (bad 7 (by decide) (evErr_7 hok fun hh => absurd (hh.2.1 hi) (by simp)))
    · by_cases hl : d < c.last
      · exact (add_early2 i cb rv ov c d p w h hdB hpB (by omega) hl).mono (bad 7 (by decide) (evErr_7 hok fun hh => hh.1 ⟨by omega, hl⟩))
      · have h0 := evErr_0 hok (i := i) (l := c.last) ⟨fun hh => hl hh.2, ⟨fun hh => absurd hh hi, fun hh => absurd hh (by simp)⟩⟩
        exact (add_k2 i cb rv ov c d p w h hdB hpB (by omega) hl hb.1).mono (good _ h0 rfl)
  · by_cases hp : 0 ≤ p ∧ p ≤ 23
    case neg => exact (add_place3 i cb rv ov c d p w h hdB (by unfold placeB; rw [bool_and]; exact decide_eq_false hp)).mono (bad 1 (by decide) (evErr_1 fun hh => hp (hh.2.2 (by simp))))
    have hpB : placeB p = true := by unfold placeB; rw [bool_and]; exact decide_eq_true hp
    have hok : EvOk ⟨d, 3, p⟩ := ⟨hd, hk, fun _ => hp⟩
    by_cases hi : i = 0
    · exact (add_first3 i cb rv ov c d p w h hdB hpB hi).mono (bad 7 (by decide) (evErr_7 hok fun hh => absurd (hh.2.1 hi) (by simp)))
    · by_cases hl : d < c.last
      · exact (add_early3 i cb rv ov c d p w h hdB hpB (by omega) hl).mono (bad 7 (by decide) (evErr_7 hok fun hh => hh.1 ⟨by omega, hl⟩))
      · have h0 := evErr_0 hok (i := i) (l := c.last) ⟨fun hh => hl hh.2, ⟨fun hh => absurd hh hi, fun hh => absurd hh (by simp)⟩⟩
        cases hrm : rmv c.opn p with
        | none => exact (add_k3_no i cb rv ov c d p w h hdB hpB (by omega) hl hb hrm).mono fun r w' ⟨a, b⟩ => ⟨b, .inr (.inl ⟨h0, by unfold casStep; simp [hrm], a⟩)⟩
        | some o => exact (add_k3 i cb rv ov c d p w h hdB hpB (by omega) hl hb o hrm).mono (good _ h0 (by unfold casStep; simp [hrm]))
end Go.Proofs.YtfondpakbiagjaaGreatDoor
