/- The walks of round (no waveform) and fits of layer 10. -/
import Derived.Test.YtfondpakbiagjaaGreatDoorHFin
namespace Go.Proofs.YtfondpakbiagjaaGreatDoor
open Go.RowKit Go.Lib
set_option linter.unusedVariables false
set_option linter.unusedSimpArgs false
set_option maxRecDepth 100000
set_option maxHeartbeats 4000000
/-- The cells of a waveform of zeros. -/
theorem zr_size : Tryz.zeroCells271.size = 216 := by kernel_rfl
theorem zr_len : Tryz.zeroCells271.toList.length = 216 := by rw [Array.length_toList]; exact zr_size
theorem zr_one : Tryz.zeroCells271.toList.toArray.all (·.oneCell') = true := by kernel_rfl
theorem blk_arr {w : World} {b t : Nat} {cs : Array Value} (h : w.heap[b]? = some (.cells cs t (0, 0))) : w.rangeAt b 0 cs.toList := blk_all (cs := cs.toList) (by rw [Array.toArray_toList]; exact h)
theorem round_nil (w : World) : Calls Tryz.prog 187 #[.slice none 0 0] w fun e w' => e = .returned (.tuple #[.agg Tryz.zeroCells271.toList.toArray, .bool false]) ∧ Below w.heap.size w w' := by
  obtain ⟨W1, HW1, HB1, HS1, j1⟩ := st_al0 w Tryz.zeroCells271 271
  obtain ⟨W2, HW2, HB2, HS2, j2⟩ := st_alk 1 2 Tryz.zeroCells271 271 HS1 rfl
  have hL := blk_arr HB2.out
  have hTH : W2.there w.heap.size 0 216 := blk_there (kB HB1 j2).out (by rw [zr_size]; exact Nat.le_refl _)
  have hi : (Tryz.prog.info? 271).map (·.size) = some Tryz.zeroCells271.toList.toArray.size := by rw [Array.toArray_toList, zr_size]; kernel_rfl
  have hi2 : (Tryz.prog.info? 271).map (·.size) = some Tryz.zeroCells271.toList.length := by rw [zr_len]; kernel_rfl
  have hTH2 : W2.there w.heap.size 0 Tryz.zeroCells271.toList.toArray.size := by rw [Array.toArray_toList, zr_size]; exact hTH
  obtain ⟨W3, HW3⟩ : ∃ W, Hid (W = W2.setCells w.heap.size 0 Tryz.zeroCells271.toList.toArray.toList) := ⟨_, rfl⟩
  have hR : W3.rangeAt w.heap.size 0 Tryz.zeroCells271.toList := by
    rw [HW3.out]
    have := World.rangeAt_setCells_same W2 w.heap.size 0 Tryz.zeroCells271.toList (by rw [zr_len]; exact hTH)
    simpa using this
  have HJ : Hid (Below w.heap.size w W3) := kS (a := w) (kM HW3) (Nat.le_refl _) (Lib.hid (tt j1 j2))
  have HR := Lib.hid hR
  clear HB1 HB2 HS1 HS2 j1 j2 hTH hR
  go_enter Tryz.func187, Tryz.ntmps187
  go_wp2_with (first | (rw [← HW1.out, ← HW2.out]; refine wpList_load_mid (by rfl) 271 _ (by rfl) (w.heap.size + 1) 0 (by rfl) _ _ (by exact hL) Tryz.underlying271 rfl hi2 ?_) | (refine wpList_store_mid (by rfl) 271 _ _ (by rfl) w.heap.size 0 _ (by rfl) (by rfl) (by exact hTH2) hi zr_one ?_; rw [← HW3.out]))
  exact bodyPost_ret (results_cell_tmp rfl (by rfl) HR.out Tryz.underlying271 rfl hi2) rfl ⟨rfl, HJ.out⟩
/-- An act that fits. -/
structure FitsD (a : ActD) : Prop where
  f1 : 1 ≤ a.from_
  f2 : a.from_ ≤ a.to_
  f3 : a.to_ - a.from_ < 64
  f4 : a.to_ ≤ 1000000
  k6 : a.kind ≠ 6
  k4 : a.kind ≠ 4 ∨ a.n ≤ 2
theorem fits_ok (a : ActD) (t : ByteArray) (w : World) (h : FitsD a) : Calls Tryz.prog 137 #[actV a t] w fun e w' => e = .returned (.int .i64 0) ∧ Below w.heap.size w w' := by
  obtain ⟨k, f, u, n⟩ := a
  obtain ⟨f1, f2, f3, f4, k6, k4⟩ := h
  replace f1 : 1 ≤ f := f1
  replace f2 : f ≤ u := f2
  replace f3 : u - f < 64 := f3
  replace f4 : u ≤ 1000000 := f4
  replace k6 : k ≠ 6 := k6
  replace k4 : k ≠ 4 ∨ n ≤ 2 := k4
  obtain ⟨W1, HW1, HB1, HS1, j1⟩ := st_al0 w #[.int .i64 k, .int .i64 f, .int .i64 u, .int .i64 n, .string t, .slice none 0 0] 154
  have HJ := Lib.hid j1
  have h1 : ¬ f < 1 := by omega
  have h2 : ¬ u < f := by omega
  have hw : IntKind.i64.wrap (u - f) = u - f := IntWalk.i64_in _ (by omega)
  have h3 : ¬ 64 ≤ u - f := by omega
  have h6 : (k == 6) = false := beq_false_of_ne k6
  have hi : (Tryz.prog.info? 271).map (·.size) = some Tryz.zeroCells271.toList.toArray.size := by rw [Array.toArray_toList, zr_size]; kernel_rfl
  show Calls _ _ #[.agg #[.int .i64 k, .int .i64 f, .int .i64 u, .int .i64 n, .string t, .slice none 0 0]] _ _
  have HLT : Hid (w.heap.size < W1.heap.size) := blk_lt HB1.out
  clear f1 f2 f3 f4 HS1 j1
  rcases (show k ≠ 4 ∨ (k = 4 ∧ n ≤ 2) by omega) with k5 | ⟨rfl, k5⟩
  case' inl => have h4 : (k == 4) = false := beq_false_of_ne k5
  case' inr => have h4 : ¬ 2 < n := by omega
  all_goals
    clear k4 k5 k6
    go_enter Tryz.func137, Tryz.ntmps137
    go_wp2_with fail
    rw [← HW1.out]
    refine (round_nil _).mono ?_
    rintro e w2 ⟨rfl, j2⟩
    have HB2 := kB HB1 j2
    replace HJ := kU HJ j2
    obtain ⟨W3, HW3, HB3, HS3, j3⟩ := st_al0 w2 Tryz.zeroCells271 271
    have hTH : W3.there w2.heap.size 0 Tryz.zeroCells271.toList.toArray.size := by rw [Array.toArray_toList, zr_size]; exact blk_there HB3.out (by rw [zr_size]; exact Nat.le_refl _)
    obtain ⟨W4, HW4⟩ : ∃ W, Hid (W = W3.setCells w2.heap.size 0 Tryz.zeroCells271.toList.toArray.toList) := ⟨_, rfl⟩
    have hne : w.heap.size ≠ w2.heap.size := by have := HLT.out; have := j2.size; omega
    have HB4 := kO (kM HW4) (kB HB2 j3) hne
    replace HJ := kS (a := w) (kM HW4) (show Hid _ from Nat.le_of_lt (Nat.lt_of_lt_of_le HLT.out j2.size)) (kU HJ j3)
    have c0 := kC HB4 0 rfl
    have c1 := kC HB4 1 rfl
    have c2 := kC HB4 2 rfl
    clear HB1 HB2 HB3 HS3 j2 j3 hne
    go_wp2_with (rw [← HW3.out]; refine wpList_store_mid (by rfl) 271 _ _ (by rfl) w2.heap.size 0 _ (by rfl) (by rfl) (by exact hTH) hi zr_one ?_; rw [← HW4.out])
    go_ret
    exact ⟨rfl, HJ.out⟩
end Go.Proofs.YtfondpakbiagjaaGreatDoor
