/- The walk of HallWaits. -/
import Derived.Test.YtfondpakbiagjaaGreatDoorHWtG
import Derived.Test.YtfondpakbiagjaaGreatDoorHWtR
import Derived.Test.YtfondpakbiagjaaGreatDoorHAwk
namespace Go.Proofs.YtfondpakbiagjaaGreatDoor
open Go.RowKit
set_option linter.unusedVariables false
set_option linter.unusedSimpArgs false
set_option maxRecDepth 100000
set_option maxHeartbeats 4000000
theorem hallWaits_any (v1 v2 : Value) (need reps : List Int) (w : World) (S T : Nat → Prop) (h1 : Rd (Value.int .i64) w S v1 need) (h2 : Rd (Value.int .i64) w T v2 reps) (hg : Glob w.heap.size w) :
    Calls Tryz.prog 5 #[v1, v2] w fun e w' => e = .returned (.bool true) ∧ Below w.heap.size w w' := by
  have HR1 := Lib.hid h1
  have HR2 := Lib.hid h2
  obtain ⟨A1, n1, c1, rfl, hn1, -⟩ := h1.open_
  obtain ⟨A2, n2, c2, rfl, hn2, -⟩ := h2.open_
  have HN1 := Lib.hid hn1
  have HN2 := Lib.hid hn2
  have HG := Lib.hid hg
  have HAW : Hid (∀ W, Below w.heap.size w W → Calls Tryz.prog 7 #[] W fun e w' => e = .returned (.bool true) ∧ Below W.heap.size W w') := fun W hW => awake_any W ((HG.out.on hW).up hW.size)
  clear h1 h2 hn1 hn2 hg
  by_cases hs : 70 < n1 ∨ 70 < n2
  · have HA1 := Lib.hid (HAW.out w (Below.refl _ _))
    by_cases hs1 : 70 < n1
    · have q1 : (70 : Int) < (n1 : Int) := by omega
      clear hs
      go_enter Tryz.func5, Tryz.ntmps5
      go_wp2_with fail
      refine HA1.out.mono ?_
      rintro e w2 ⟨rfl, j2⟩
      have HJ := Lib.hid j2
      clear j2 HA1
      go_wp2_with fail
      go_ret
      exact ⟨rfl, HJ.out⟩
    · have q1 : ¬ (70 : Int) < (n1 : Int) := by omega
      have q2 : (70 : Int) < (n2 : Int) := by omega
      clear hs
      go_enter Tryz.func5, Tryz.ntmps5
      go_wp2_with fail
      refine HA1.out.mono ?_
      rintro e w2 ⟨rfl, j2⟩
      have HJ := Lib.hid j2
      clear j2 HA1
      go_wp2_with fail
      go_ret
      exact ⟨rfl, HJ.out⟩
  have q1 : ¬ (70 : Int) < (n1 : Int) := by omega
  have q2 : ¬ (70 : Int) < (n2 : Int) := by omega
  have hl : need.length ≤ 70 ∧ reps.length ≤ 70 := by have := HN1.out; have := HN2.out; omega
  have HL := Lib.hid hl
  have HW1 := Lib.hid (waiting_any _ _ need reps w _ _ HR1.out HR2.out hl)
  obtain ⟨res, hres⟩ : ∃ r, r = waitP need reps := ⟨_, rfl⟩
  have HRES := Lib.hid hres
  rw [← hres] at HW1
  clear hs hl hres
  go_enter Tryz.func5, Tryz.ntmps5
  go_wp2_with fail
  refine HW1.out.mono ?_
  rintro e w1 ⟨v3, rfl, h3, j1⟩
  obtain ⟨l, a, er⟩ := res
  have HJ1 := Lib.hid j1
  have H3 := Lib.hid h3
  obtain ⟨A3, n3, c3, rfl, -⟩ := h3.open_
  have HW2 := Lib.hid (rwaiting_any _ _ need reps w1 _ _ (HR1.out.below j1) (HR2.out.below j1) HL.out)
  rw [← HRES.out] at HW2
  clear j1 HW1 h3
  go_wp2_with fail
  refine HW2.out.mono ?_
  rintro e w2 ⟨v4, rfl, h4, j2⟩
  have HJ2 := kU HJ1 j2
  obtain ⟨A4, n4, c4, rfl, -⟩ := h4.open_
  have HSM := Lib.hid (same_yes _ _ l _ _ w2 (H3.out.below j2) h4)
  clear HW2 j2 h4 H3
  dsimp only
  go_wp2_with fail
  refine HSM.out.mono ?_
  rintro e w3 ⟨rfl, j3⟩
  have HJ3 := kU HJ2 j3
  have HA3 := Lib.hid (HAW.out w3 HJ3.out)
  clear j3 HSM
  go_wp2_with fail
  refine HA3.out.mono ?_
  rintro e w4 ⟨rfl, j4⟩
  have HJ4 := kU HJ3 j4
  clear j4 HA3
  go_wp2_with fail
  go_ret
  exact ⟨rfl, HJ4.out⟩
end Go.Proofs.YtfondpakbiagjaaGreatDoor
