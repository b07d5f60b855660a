/- The walks of allowed, Shift.allowed and Stock.after. -/
import Derived.Test.YtlanephpmoajiaaCountPlain
import Derived.Test.YtlanephpmoajiaaGet
namespace Go.Proofs.Ytlanephpmoajiaa
open Go.RowKit

set_option maxRecDepth 100000 in
set_option maxHeartbeats 400000 in
theorem allowed_any (v : Value) (xs : List Int) (S : Nat → Prop) (w : World) (hv : Rd (.int .i64) w S v xs) :
    Calls Try.prog 75 #[v] w fun e w' => e = .returned (.bool (xs.all allow)) ∧ w = w' := by
  obtain ⟨A, n, cap, rfl, hn, hcap, hmax, hc⟩ := hv.open_
  have HC := Lib.hid hc
  have HN := Lib.hid hn
  clear hc hn hv
  go_enter Try.func75, Try.ntmps75
  go_wp2_with fail
  go_loop [7] (fun i => ∃ k : Nat, k ≤ n ∧ i = .int .i64 k ∧ ∀ j, j < k → ∀ x, xs[j]? = some x → allow x = true) (fun i => n - (intOf i).toNat)
  case atStart => exact ⟨0, Nat.zero_le _, rfl, fun j hj => by omega⟩
  case round =>
    obtain ⟨k, hk, rfl, hall⟩ := hrel
    have HALL := Lib.hid hall
    clear hall
    by_cases hlt : k < n
    · obtain ⟨b, off, x, rfl, -, hx, hcell⟩ := HC.out k hlt
      have HX := Lib.hid hx
      clear hx
      rcases Int.lt_or_le x 0 with h1 | h1
      · go_wp2_with fail
        go_ret
        have hbad : xs.all allow = false := by
          rw [List.all_eq_false]; exact ⟨x, mem_of_get? HX.out, by rw [allow_no (.inl h1)]; simp⟩
        exact ⟨ret_bool hbad.symm, rfl⟩
      · rcases Int.lt_or_le 1000000 x with h2 | h2
        · go_wp2_with fail
          go_ret
          have hbad : xs.all allow = false := by
            rw [List.all_eq_false]; exact ⟨x, mem_of_get? HX.out, by rw [allow_no (.inr h2)]; simp⟩
          exact ⟨ret_bool hbad.symm, rfl⟩
        · go_wp2_with fail
          go_round
          case rel => exact ⟨k + 1, by omega, by go_num, fun j hj y hy => by
            rcases Nat.lt_or_ge j k with h3 | h3
            · exact HALL.out j h3 y hy
            · obtain rfl : j = k := by omega
              have := HX.out
              rw [this] at hy
              obtain rfl := Option.some.inj hy
              exact allow_iff.2 ⟨h1, h2⟩⟩
          case measure => simp [intOf]; omega
    · go_wp2_with fail
      go_ret
      have hgood : xs.all allow = true := by
        rw [List.all_eq_true]
        intro x hx
        obtain ⟨j, hj⟩ := List.mem_iff_getElem?.1 hx
        exact HALL.out j (by have := (List.getElem?_eq_some_iff.1 hj).1; have := HN.out; omega) x hj
      exact ⟨ret_bool hgood.symm, rfl⟩
/-- A slice that was just built reads as its numbers. -/
theorem rd_built (w : World) (xs : List Int) (t : TypeId) (hn : xs.length ≤ maxLen) : Rd (.int .i64) (w.alloc (.cells (xs.map (Value.int .i64)).toArray t)) (w.heap.size ≤ ·) (.slice (some ⟨w.heap.size, 0, none⟩) xs.length xs.length) xs := by
  refine ⟨_, _, rfl, Nat.le_refl _, hn, fun _ => ⟨_, _, rfl, Nat.le_refl _, fun i hi => ?_⟩⟩
  have := cell_of_row (w.alloc (.cells (xs.map (Value.int .i64)).toArray t)) w.heap.size (0 + i) (xs.map (Value.int .i64)).toArray t (0, 0) (heap_alloc_new w _)
  rw [this]
  simp [hi]
set_option maxRecDepth 100000 in
set_option maxHeartbeats 400000 in
theorem shAllowed_any (x : ShiftD) (w : World) :
    Calls Try.prog 76 #[.agg #[.int .i64 x.built, .int .i64 x.lost, .int .i64 x.cured, .int .i64 x.scrapped, .int .i64 x.shipped]] w fun e w' => e = .returned (.bool (shOk x)) ∧ Below w.heap.size w w' := by
  obtain ⟨a0, a1, a2, a3, a4⟩ := x
  simp only at *
  obtain ⟨q, hq⟩ : ∃ q, q = shOk ⟨a0, a1, a2, a3, a4⟩ := ⟨_, rfl⟩
  have HO : ([a0, a1, a2, a3, a4] : List Int).all allow = q := by rw [hq]; unfold shOk; simp [Bool.and_assoc]
  obtain ⟨w0, hw0⟩ : ∃ w0, w0 = w.alloc (.cells #[.int .i64 a0, .int .i64 a1, .int .i64 a2, .int .i64 a3, .int .i64 a4] 96) := ⟨_, rfl⟩
  have hb0 : Below w.heap.size w w0 := by rw [hw0]; exact (Below.refl _ w).alloc (Nat.le_refl _) _
  have hm := heap_alloc_new w (.cells #[.int .i64 a0, .int .i64 a1, .int .i64 a2, .int .i64 a3, .int .i64 a4] 96)
  rw [← hw0] at hm
  have HR : Hid (Calls Try.prog 75 #[.slice (some ⟨w0.heap.size, 0, none⟩) 5 5] (w0.alloc (.cells #[.int .i64 a0, .int .i64 a1, .int .i64 a2, .int .i64 a3, .int .i64 a4] 3)) fun e w' => e = .returned (.bool q) ∧ w0.alloc (.cells #[.int .i64 a0, .int .i64 a1, .int .i64 a2, .int .i64 a3, .int .i64 a4] 3) = w') := by
    have h := allowed_any (.slice (some ⟨w0.heap.size, 0, none⟩) 5 5) [a0, a1, a2, a3, a4] (w0.heap.size ≤ ·) (w0.alloc (.cells #[.int .i64 a0, .int .i64 a1, .int .i64 a2, .int .i64 a3, .int .i64 a4] 3)) (rd_built w0 [a0, a1, a2, a3, a4] 3 (by simp [maxLen]))
    rw [HO] at h
    exact h
  rw [show w0.heap.size = w.heap.size + 1 from by rw [hw0]; simp] at HR
  have c0 := cell_of_row w0 _ 0 _ _ _ hm
  have c1 := cell_of_row w0 _ 1 _ _ _ hm
  have c2 := cell_of_row w0 _ 2 _ _ _ hm
  have c3 := cell_of_row w0 _ 3 _ _ _ hm
  have c4 := cell_of_row w0 _ 4 _ _ _ hm
  rw [← hq]
  have HW := Lib.hid hw0
  clear hq HO hw0 hm
  go_enter Try.func76, Try.ntmps76
  go_wp2_with fail
  rw [← HW.out]
  go_wp2_with fail
  refine HR.out.mono ?_
  rintro e w1 ⟨rfl, rfl⟩
  go_wp2_with fail
  go_ret
  exact ⟨rfl, hb0.alloc hb0.size _⟩
set_option maxRecDepth 100000 in
set_option maxHeartbeats 400000 in
theorem stAfter_any (s : StockD) (x : ShiftD) (w : World) (h1 : -1000000000 ≤ s.green ∧ s.green ≤ 1000000000) (h2 : -1000000000 ≤ s.cured ∧ s.cured ≤ 1000000000) (hx : shOk x = true) :
    Calls Try.prog 77 #[.agg #[.int .i64 s.green, .int .i64 s.cured], .agg #[.int .i64 x.built, .int .i64 x.lost, .int .i64 x.cured, .int .i64 x.scrapped, .int .i64 x.shipped]] w fun e w' => e = .returned (.agg #[.int .i64 (stAfter s x).green, .int .i64 (stAfter s x).cured]) ∧ Below w.heap.size w w' := by
  obtain ⟨⟨b0, b1⟩, ⟨b2, b3⟩, ⟨b4, b5⟩, ⟨b6, b7⟩, b8, b9⟩ := shOk_bounds hx
  obtain ⟨a0, a1, a2, a3, a4⟩ := x
  obtain ⟨g, c⟩ := s
  simp only [stAfter] at *
  obtain ⟨h1, h1'⟩ := h1
  obtain ⟨h2, h2'⟩ := h2
  clear hx
  go_enter Try.func77, Try.ntmps77
  go_wp2_with fail
  refine bodyPost_ret (v := .agg #[.int .i64 (g + a0 - a1 - a2), .int .i64 (c + a2 - a3 - a4)]) (by simp [results, Try.results77, go_sem]) rfl ⟨rfl, ?_⟩
  exact (((Below.refl _ _).alloc (Nat.le_refl _) _).alloc (by simp) _).alloc (by simp; omega) _
end Go.Proofs.Ytlanephpmoajiaa
