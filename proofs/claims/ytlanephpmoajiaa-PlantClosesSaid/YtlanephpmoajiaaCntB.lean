/- The walks of the reference's counted, stock, shift and after. -/
import Derived.Test.YtlanephpmoajiaaCntA
namespace Go.Proofs.Ytlanephpmoajiaa
open Go.RowKit
set_option linter.unusedVariables false

set_option maxRecDepth 100000 in
set_option maxHeartbeats 400000 in
theorem counted_any (n : Int) (w : World) : Calls Try.prog 103 #[.int .i64 n] w fun e w' => e = .returned (.bool (allow n)) ∧ w = w' := by
  rcases Int.lt_or_le n 0 with h1 | h1
  · have ha := allow_no (.inl h1)
    rw [ha]
    clear ha
    go_enter Try.func103, Try.ntmps103
    go_wp2_with fail
    go_ret
    exact ⟨rfl, rfl⟩
  · rcases Int.lt_or_le 1000000 n with h2 | h2
    · have ha := allow_no (.inr h2)
      rw [ha]
      clear ha
      have h3 : decide (n ≤ 1000000) = false := by simp; omega
      go_enter Try.func103, Try.ntmps103
      go_wp2_with fail
      go_ret
      exact ⟨rfl, rfl⟩
    · have ha := allow_iff.2 ⟨h1, h2⟩
      rw [ha]
      clear ha
      go_enter Try.func103, Try.ntmps103
      go_wp2_with fail
      go_ret
      exact ⟨rfl, rfl⟩
theorem counted_as {n : Int} {q : Bool} (h : allow n = q) : ∀ w, Calls Try.prog 103 #[.int .i64 n] w fun e w' => e = .returned (.bool q) ∧ w = w' := fun w => by rw [← h]; exact counted_any n w
set_option maxRecDepth 100000 in
set_option maxHeartbeats 400000 in
theorem refStock_any (s : StockD) (w : World) : Calls Try.prog 78 #[.agg #[.int .i64 s.green, .int .i64 s.cured]] w fun e w' => e = .returned (.bool (stOk s)) ∧ Below w.heap.size w w' := by
  obtain ⟨g, c⟩ := s
  unfold stOk
  simp only
  cases h0 : allow g <;> cases h1 : allow c
  all_goals
    have C0 := Lib.hid (counted_as h0)
    have C1 := Lib.hid (counted_as h1)
    clear h0 h1
    go_enter Try.func78, Try.ntmps78
    go_wp2_with (first | (go_at_call 103; ((with_reducible refine (C0.out _).mono ?_); rintro e w1 ⟨rfl, rfl⟩)) | (go_at_call 103; ((with_reducible refine (C1.out _).mono ?_); rintro e w1 ⟨rfl, rfl⟩)))
    go_ret
    exact ⟨rfl, (Below.refl _ _).alloc (Nat.le_refl _) _⟩
theorem refShift_aux (a0 a1 a2 a3 a4 : Int) : (allow a0 = false ∧ shOk ⟨a0, a1, a2, a3, a4⟩ = false) ∨ (allow a0 = true ∧ allow a1 = false ∧ shOk ⟨a0, a1, a2, a3, a4⟩ = false) ∨ (allow a0 = true ∧ allow a1 = true ∧ allow a2 = false ∧ shOk ⟨a0, a1, a2, a3, a4⟩ = false) ∨
    (allow a0 = true ∧ allow a1 = true ∧ allow a2 = true ∧ allow a3 = false ∧ shOk ⟨a0, a1, a2, a3, a4⟩ = false) ∨ (allow a0 = true ∧ allow a1 = true ∧ allow a2 = true ∧ allow a3 = true ∧ allow a4 = false ∧ shOk ⟨a0, a1, a2, a3, a4⟩ = false) ∨
    (allow a0 = true ∧ allow a1 = true ∧ allow a2 = true ∧ allow a3 = true ∧ allow a4 = true ∧ shOk ⟨a0, a1, a2, a3, a4⟩ = true) := by
  unfold shOk
  cases h0 : allow a0 <;> cases h1 : allow a1 <;> cases h2 : allow a2 <;> cases h3 : allow a3 <;> cases h4 : allow a4 <;> simp
set_option maxRecDepth 100000 in
set_option maxHeartbeats 1000000 in
theorem refShift_any (x : ShiftD) (w : World) :
    Calls Try.prog 79 #[.agg #[.int .i64 x.built, .int .i64 x.lost, .int .i64 x.cured, .int .i64 x.scrapped, .int .i64 x.shipped]] w fun e w' => e = .returned (.bool (shOk x)) ∧ Below w.heap.size w w' := by
  obtain ⟨a0, a1, a2, a3, a4⟩ := x
  simp only
  have D := refShift_aux a0 a1 a2 a3 a4
  obtain ⟨q, hq⟩ : ∃ q, q = shOk ⟨a0, a1, a2, a3, a4⟩ := ⟨_, rfl⟩
  rw [← hq] at D ⊢
  clear hq
  rcases D with ⟨h0, rfl⟩ | ⟨h0, h1, rfl⟩ | ⟨h0, h1, h2, rfl⟩ | ⟨h0, h1, h2, h3, rfl⟩ | ⟨h0, h1, h2, h3, h4, rfl⟩ | ⟨h0, h1, h2, h3, h4, rfl⟩
  all_goals
    have C0 := Lib.hid (counted_as h0)
    try have C1 := Lib.hid (counted_as h1)
    try have C2 := Lib.hid (counted_as h2)
    try have C3 := Lib.hid (counted_as h3)
    try have C4 := Lib.hid (counted_as h4)
    clear h0
    try clear h1
    try clear h2
    try clear h3
    try clear h4
    go_enter Try.func79, Try.ntmps79
    go_wp2_with (first | (go_at_call 103; ((with_reducible refine (C0.out _).mono ?_); rintro e w1 ⟨rfl, rfl⟩)) | (go_at_call 103; ((with_reducible refine (C1.out _).mono ?_); rintro e w1 ⟨rfl, rfl⟩)) | (go_at_call 103; ((with_reducible refine (C2.out _).mono ?_); rintro e w1 ⟨rfl, rfl⟩)) | (go_at_call 103; ((with_reducible refine (C3.out _).mono ?_); rintro e w1 ⟨rfl, rfl⟩)) | (go_at_call 103; ((with_reducible refine (C4.out _).mono ?_); rintro e w1 ⟨rfl, rfl⟩)))
    go_ret
    exact ⟨rfl, (Below.refl _ _).alloc (Nat.le_refl _) _⟩
set_option maxRecDepth 100000 in
set_option maxHeartbeats 400000 in
theorem refAfter_any (s : StockD) (x : ShiftD) (w : World) (h1 : -1000000000 ≤ s.green ∧ s.green ≤ 1000000000) (h2 : -1000000000 ≤ s.cured ∧ s.cured ≤ 1000000000) (hx : shOk x = true) :
    Calls Try.prog 80 #[.agg #[.int .i64 s.green, .int .i64 s.cured], .agg #[.int .i64 x.built, .int .i64 x.lost, .int .i64 x.cured, .int .i64 x.scrapped, .int .i64 x.shipped]] w fun e w' => e = .returned (.agg #[.int .i64 (stAfter s x).green, .int .i64 (stAfter s x).cured]) ∧ Below w.heap.size w w' := by
  obtain ⟨⟨b0, b1⟩, ⟨b2, b3⟩, ⟨b4, b5⟩, ⟨b6, b7⟩, b8, b9⟩ := shOk_bounds hx
  obtain ⟨a0, a1, a2, a3, a4⟩ := x
  obtain ⟨g, c⟩ := s
  simp only [stAfter] at *
  obtain ⟨h1, h1'⟩ := h1
  obtain ⟨h2, h2'⟩ := h2
  clear hx
  go_enter Try.func80, Try.ntmps80
  go_wp2_with fail
  refine bodyPost_ret (v := .agg #[.int .i64 (g + a0 - a1 - a2), .int .i64 (c + a2 - a3 - a4)]) (by simp [results, Try.results80, go_sem]) rfl ⟨rfl, ?_⟩
  exact (((Below.refl _ _).alloc (Nat.le_refl _) _).alloc (by simp) _).alloc (by simp; omega) _
end Go.Proofs.Ytlanephpmoajiaa
