/- The walk of jobs. Plain laws of PlantBounds: another order of the jobs changes nothing. -/
import Derived.Test.YtogccnngdfancaaGreatPart34
import Derived.Test.YtogccnngdfancaaGreatPart03
namespace Go.Proofs.YtogccnngdfancaaGreat
open Go.RowKit
set_option linter.unusedVariables false
set_option linter.unusedSimpArgs false
theorem info37j : (Tryz.prog.info? 80).map (fun i => (i.zero, i.size, i.bytes)) = some (some (.agg #[.int .i64 0, .int .i64 0, .int .i64 0]), 3, 24) := by kernel_rfl
theorem le24 : 24 ≤ 1000 := by decide
theorem one3 (a0 a1 a2 : Int) : ∀ u ∈ (#[.int .i64 a0, .int .i64 a1, .int .i64 a2] : Array Value).toList, u.oneCell' = true := by
  intro u hu; simp at hu; rcases hu with rfl | rfl | rfl <;> rfl
def JobsPost (w : World) (xs : List JobD) (e : Ending) (w' : World) : Prop :=
  ∃ va vb, e = .returned (.tuple #[va, vb]) ∧ RdK 3 jobC w' (w.heap.size ≤ ·) va xs ∧ RdK 3 jobC w' (w.heap.size ≤ ·) vb xs ∧ Below w.heap.size w w'
theorem flat_snoc {α : Type} {f : α → List Value} {xs : List α} {k : Nat} {x : α} (h : xs[k]? = some x) : (xs.take (k + 1)).flatMap f = (xs.take k).flatMap f ++ f x := by
  rw [take_snoc? h, List.flatMap_append]; simp
set_option maxRecDepth 100000 in
set_option maxHeartbeats 1000000 in
theorem jobs_any (v : Value) (xs : List JobD) (S : Nat → Prop) (w : World) (hv : RdK 3 jobC w S v xs) (hl : xs.length ≤ 1000) :
    Calls Tryz.prog 6 #[v] w (JobsPost w xs) := by
  obtain ⟨i0, hi0, hz0, hz1, hz2⟩ := info_parts info38
  obtain ⟨j0, hj0, hy0, hy1, hy2⟩ := info_parts info37j
  obtain ⟨A, n, cap, rfl, hn, hcap, hmax, hc⟩ := (hv.lt jobC_0).open_
  have HC := Lib.hid hc
  have HN := Lib.hid hn
  have hn1 : n ≤ 1000 := by omega
  have HT0 : Hid (TwoO w.heap.size 79 80 3 3 (.slice none 0 0) 0 ((xs.take 0).flatMap jobC) (.slice none 0 0) 0 ((xs.take 0).flatMap jobC) (fun _ _ => False) w w) := by
    unfold Hid
    exact TwoO.bare _ _ _ _ _ _ (Nat.le_refl _)
  clear hc hn hv hl
  go_enter Tryz.func6, Tryz.ntmps6
  go_wp2_with fail
  go_loopw [4, 5, 10] (fun va vb iv wr => ∃ k : Nat, k ≤ n ∧ iv = .int .i64 k ∧ TwoO w.heap.size 79 80 3 3 va k ((xs.take k).flatMap jobC) vb k ((xs.take k).flatMap jobC) (fun _ _ => False) w wr) (fun _ _ iv _ => n - (intOf iv).toNat)
  case atStart => exact ⟨0, Nat.zero_le _, rfl, HT0.out⟩
  case round =>
    clear HT0
    obtain ⟨k, hk, rfl, hT⟩ := hrel
    by_cases hlt : k < n
    · obtain ⟨b, off, x, rfl, ⟨_, hb⟩, hx, hcell⟩ := HC.out k hlt
      have d0 : wr.cell? ⟨b, off + k * 3, none⟩ = some (.int .i64 x.press) := (hT.bel.cell (p := ⟨b, _, none⟩) hb).trans (hcell 0 _ rfl)
      have d1 : wr.cell? ⟨b, off + k * 3 + 1, none⟩ = some (.int .i64 x.kind) := (hT.bel.cell (p := ⟨b, _, none⟩) hb).trans (hcell 1 _ rfl)
      have d2 : wr.cell? ⟨b, off + k * 3 + 2, none⟩ = some (.int .i64 x.start) := (hT.bel.cell (p := ⟨b, _, none⟩) hb).trans (hcell 2 _ rfl)
      obtain ⟨A1, cp1, rfl⟩ := ownsRow_slice hT.a
      obtain ⟨A2, cp2, rfl⟩ := ownsRow_slice hT.b
      have HF : Hid ((xs.take (k + 1)).flatMap jobC = (xs.take k).flatMap jobC ++ jobC x) := flat_snoc hx
      obtain ⟨c, hc⟩ : ∃ c, c = (xs.take k).flatMap jobC := ⟨_, rfl⟩
      rw [← hc] at hT HF
      obtain ⟨a0, a1, a2⟩ := x
      simp only at d0 d1 d2
      have HTL := Lib.hid hT
      obtain ⟨W1, hW1⟩ : ∃ W1, W1 = wr.alloc (.cells #[.int .i64 a0, .int .i64 a1, .int .i64 a2] 78) := ⟨_, rfl⟩
      have hT1 := (hT.lay (.cells #[.int .i64 a0, .int .i64 a1, .int .i64 a2] 78))
      rw [← hW1] at hT1
      have HW1 := Lib.hid hW1
      have hm := heap_alloc_new wr (.cells #[.int .i64 a0, .int .i64 a1, .int .i64 a2] 78)
      rw [← hW1] at hm
      have x0 := cell_of_row W1 _ 0 _ _ _ hm
      have x1 := cell_of_row W1 _ 1 _ _ _ hm
      have x2 := cell_of_row W1 _ 2 _ _ _ hm
      clear hx hcell hc hW1 hm hT
      have hk6 : k ≤ 1000000 := by omega
      go_wp2_with fail
      rw [← HW1.out]
      clear d0 d1 d2
      go_region_held3 (fun w' => w'.cell? ⟨wr.heap.size, 0, none⟩ = some (.int .i64 a0) ∧ w'.cell? ⟨wr.heap.size, 1, none⟩ = some (.int .i64 a1) ∧ w'.cell? ⟨wr.heap.size, 2, none⟩ = some (.int .i64 a2))
        (first | go_keep | exact ⟨x0, x1, x2⟩ | exact ⟨y0, y1, y2⟩ | exact ⟨z0, z1, z2⟩)
        (first
          | ((first | (refine step_two rfl (.tmp 14) (.tmp 16) 31 rfl w.heap.size 79 i0 _ 3 24 Tryz.underlying31 hi0 hz0 hz1 hz2 rfl (Nat.succ_pos _) rfl _ _ #[.int .i64 a0, .int .i64 a1, .int .i64 a2] 79 rfl rfl (one3 _ _ _) hk6 le24 ((hT1.lay _).drew) ?_ ?_) | (refine step_two rfl (.tmp 14) (.tmp 16) 31 rfl w.heap.size 79 i0 _ 3 24 Tryz.underlying31 hi0 hz0 hz1 hz2 rfl (Nat.succ_pos _) rfl _ _ #[.int .i64 a0, .int .i64 a1, .int .i64 a2] 79 rfl rfl (one3 _ _ _) hk6 le24 (((hT1.lay _).lay _).drew) ?_ ?_))
             (first | (refine .inr ⟨?_, rfl⟩; · simp) | (refine .inl (.inr ⟨?_, rfl⟩); · simp))
             rintro v' w2 hT2 ⟨A3, c3, rfl⟩
             have hG := hT2.pr wr.heap.size (.cells #[.int .i64 a0, .int .i64 a1, .int .i64 a2] 78)
             simp only [true_and, and_true, or_true, true_or, false_or, forall_const, and_self, true_implies] at hG
             have y0 := cell_of_row w2 _ 0 _ _ _ hG.1
             have y1 := cell_of_row w2 _ 1 _ _ _ hG.1
             have y2 := cell_of_row w2 _ 2 _ _ _ hG.1)
          | ((first | (refine step_two rfl (.tmp 18) (.tmp 20) 32 rfl w.heap.size 80 j0 _ 3 24 Tryz.underlying32 hj0 hy0 hy1 hy2 rfl (Nat.succ_pos _) rfl _ _ #[.int .i64 a0, .int .i64 a1, .int .i64 a2] 80 rfl rfl (one3 _ _ _) hk6 le24 (hT2.swap) ?_ ?_) | (refine step_two rfl (.tmp 18) (.tmp 20) 32 rfl w.heap.size 80 j0 _ 3 24 Tryz.underlying32 hj0 hy0 hy1 hy2 rfl (Nat.succ_pos _) rfl _ _ #[.int .i64 a0, .int .i64 a1, .int .i64 a2] 80 rfl rfl (one3 _ _ _) hk6 le24 ((hT2.lay _).swap) ?_ ?_))
             (first | (refine .inr ⟨?_, rfl⟩; · simp) | (refine .inl (.inr ⟨?_, rfl⟩); · simp))
             rintro v' w3 hT3 ⟨A4, c4, rfl⟩
             have hG := hT3.pr wr.heap.size (.cells #[.int .i64 a0, .int .i64 a1, .int .i64 a2] 78)
             simp only [true_and, and_true, or_true, true_or, false_or, forall_const, and_self, true_implies] at hG
             have z0 := cell_of_row w3 _ 0 _ _ _ hG.1
             have z1 := cell_of_row w3 _ 1 _ _ _ hG.1
             have z2 := cell_of_row w3 _ 2 _ _ _ hG.1))
      all_goals
        have hT9 := hT3.swap.strike (P' := fun _ _ => False) (fun _ _ h => h.elim)
        clear hT3 hT2 hT1
        go_wp2_with fail
        go_roundw
        case rel => exact ⟨k + 1, by omega, by go_num, by rw [HF.out]; exact hT9⟩
        case measure => simp [intOf]; omega
    · go_wp2_with fail
      go_ret2
      have h1 : xs.take k = xs := List.take_of_length_le (by have := HN.out; omega)
      rw [h1] at hT
      have h2 : xs.length = k := by have := HN.out; omega
      exact ⟨_, _, rfl, RdK.of_own jobC_len hT.a h2, RdK.of_own jobC_len hT.b h2, hT.bel⟩
/-! Another order. -/
end Go.Proofs.YtogccnngdfancaaGreat
