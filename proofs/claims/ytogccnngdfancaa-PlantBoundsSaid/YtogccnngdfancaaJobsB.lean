/- The walk of jobs. Plain laws of PlantBounds: another order of the jobs changes nothing. -/
import Derived.Test.YtogccnngdfancaaEnds
import Derived.Test.YtogccnngdfancaaOne
namespace Go.Proofs.Ytogccnngdfancaa
open Go.RowKit
set_option linter.unusedVariables false
set_option linter.unusedSimpArgs false
theorem info37j : (Try.prog.info? 37).map (fun i => (i.zero, i.size, i.bytes)) = some (some (.agg #[.int .i64 0, .int .i64 0, .int .i64 0]), 3, 24) := by kernel_rfl
theorem le24 : 24 ≤ 1000 := by decide
theorem one3 (a0 a1 a2 : Int) : ∀ u ∈ (#[.int .i64 a0, .int .i64 a1, .int .i64 a2] : Array Value).toList, u.oneCell' = true := by
  intro u hu; simp at hu; rcases hu with rfl | rfl | rfl <;> rfl
def JobsPost (w : World) (xs : List JobD) (e : Ending) (w' : World) : Prop :=
  ∃ va vb, e = .returned (.tuple #[va, vb]) ∧ RdK 3 jobC w' (w.heap.size ≤ ·) va xs ∧ RdK 3 jobC w' (w.heap.size ≤ ·) vb xs ∧ Below w.heap.size w w'
theorem flat_snoc {α : Type} {f : α → List Value} {xs : List α} {k : Nat} {x : α} (h : xs[k]? = some x) : (xs.take (k + 1)).flatMap f = (xs.take k).flatMap f ++ f x := by
  rw [take_snoc? h, List.flatMap_append]; simp
set_option maxRecDepth 100000 in
set_option maxHeartbeats 1000000 in
theorem jobs_any (v : Value) (xs : List JobD) (S : Nat → Prop) (w : World) (hv : RdK 3 jobC w S v xs) (hl : xs.length ≤ 1000) :
    Calls Try.prog 12 #[v] w (JobsPost w xs) := by
  obtain ⟨i0, hi0, hz0, hz1, hz2⟩ := info_parts info38
  obtain ⟨j0, hj0, hy0, hy1, hy2⟩ := info_parts info37j
  obtain ⟨A, n, cap, rfl, hn, hcap, hmax, hc⟩ := (hv.lt jobC_0).open_
  have HC := Lib.hid hc
  have HN := Lib.hid hn
  have hn1 : n ≤ 1000 := by omega
  have HT0 : Hid (TwoO w.heap.size 38 37 3 3 (.slice none 0 0) 0 ((xs.take 0).flatMap jobC) (.slice none 0 0) 0 ((xs.take 0).flatMap jobC) (fun _ _ => False) w w) := by
    unfold Hid
    exact TwoO.bare _ _ _ _ _ _ (Nat.le_refl _)
  clear hc hn hv hl
  go_enter Try.func12, Try.ntmps12
  go_wp2_with fail
  go_loopw [4, 5, 10] (fun va vb iv wr => ∃ k : Nat, k ≤ n ∧ iv = .int .i64 k ∧ TwoO w.heap.size 38 37 3 3 va k ((xs.take k).flatMap jobC) vb k ((xs.take k).flatMap jobC) (fun _ _ => False) w wr) (fun _ _ iv _ => n - (intOf iv).toNat)
  case atStart => exact ⟨0, Nat.zero_le _, rfl, HT0.out⟩
  case round =>
    clear HT0
    obtain ⟨k, hk, rfl, hT⟩ := hrel
    by_cases hlt : k < n
    · obtain ⟨b, off, x, rfl, ⟨_, hb⟩, hx, hcell⟩ := HC.out k hlt
      have d0 : wr.cell? ⟨b, off + k * 3, none⟩ = some (.int .i64 x.press) := (hT.bel.cell (p := ⟨b, _, none⟩) hb).trans (hcell 0 _ rfl)
      have d1 : wr.cell? ⟨b, off + k * 3 + 1, none⟩ = some (.int .i64 x.kind) := (hT.bel.cell (p := ⟨b, _, none⟩) hb).trans (hcell 1 _ rfl)
      have d2 : wr.cell? ⟨b, off + k * 3 + 2, none⟩ = some (.int .i64 x.start) := (hT.bel.cell (p := ⟨b, _, none⟩) hb).trans (hcell 2 _ rfl)
      obtain ⟨A1, cp1, rfl⟩ := ownsRow_slice hT.a
      obtain ⟨A2, cp2, rfl⟩ := ownsRow_slice hT.b
      have HF : Hid ((xs.take (k + 1)).flatMap jobC = (xs.take k).flatMap jobC ++ jobC x) := flat_snoc hx
      obtain ⟨c, hc⟩ : ∃ c, c = (xs.take k).flatMap jobC := ⟨_, rfl⟩
      rw [← hc] at hT HF
      obtain ⟨a0, a1, a2⟩ := x
      simp only at d0 d1 d2
      have HTL := Lib.hid hT
      obtain ⟨W1, hW1⟩ : ∃ W1, W1 = wr.alloc (.cells #[.int .i64 a0, .int .i64 a1, .int .i64 a2] 73) := ⟨_, rfl⟩
      have hT1 := (hT.lay (.cells #[.int .i64 a0, .int .i64 a1, .int .i64 a2] 73))
      rw [← hW1] at hT1
      have HW1 := Lib.hid hW1
      have hm := heap_alloc_new wr (.cells #[.int .i64 a0, .int .i64 a1, .int .i64 a2] 73)
      rw [← hW1] at hm
      have x0 := cell_of_row W1 _ 0 _ _ _ hm
      have x1 := cell_of_row W1 _ 1 _ _ _ hm
      have x2 := cell_of_row W1 _ 2 _ _ _ hm
      clear hx hcell hc hW1 hm hT
      have hk6 : k ≤ 1000000 := by omega
      go_wp2_with fail
      rw [← HW1.out]
      clear d0 d1 d2
      go_region_held3 (fun w' => w'.cell? ⟨wr.heap.size, 0, none⟩ = some (.int .i64 a0) ∧ w'.cell? ⟨wr.heap.size, 1, none⟩ = some (.int .i64 a1) ∧ w'.cell? ⟨wr.heap.size, 2, none⟩ = some (.int .i64 a2))
        (first | go_keep | exact ⟨x0, x1, x2⟩ | exact ⟨y0, y1, y2⟩ | exact ⟨z0, z1, z2⟩)
        (first
          | ((first | (refine step_two rfl (.tmp 14) (.tmp 16) 27 rfl w.heap.size 38 i0 _ 3 24 Try.underlying27 hi0 hz0 hz1 hz2 rfl (Nat.succ_pos _) rfl _ _ #[.int .i64 a0, .int .i64 a1, .int .i64 a2] 38 rfl rfl (one3 _ _ _) hk6 le24 ((hT1.lay _).drew) ?_ ?_) | (refine step_two rfl (.tmp 14) (.tmp 16) 27 rfl w.heap.size 38 i0 _ 3 24 Try.underlying27 hi0 hz0 hz1 hz2 rfl (Nat.succ_pos _) rfl _ _ #[.int .i64 a0, .int .i64 a1, .int .i64 a2] 38 rfl rfl (one3 _ _ _) hk6 le24 (((hT1.lay _).lay _).drew) ?_ ?_))
             (first | (refine .inr ⟨?_, rfl⟩; · simp) | (refine .inl (.inr ⟨?_, rfl⟩); · simp))
             rintro v' w2 hT2 ⟨A3, c3, rfl⟩
             have hG := hT2.pr wr.heap.size (.cells #[.int .i64 a0, .int .i64 a1, .int .i64 a2] 73)
             simp only [true_and, and_true, or_true, true_or, false_or, forall_const, and_self, true_implies] at hG
             have y0 := cell_of_row w2 _ 0 _ _ _ hG.1
             have y1 := cell_of_row w2 _ 1 _ _ _ hG.1
             have y2 := cell_of_row w2 _ 2 _ _ _ hG.1)
          | ((first | (refine step_two rfl (.tmp 18) (.tmp 20) 32 rfl w.heap.size 37 j0 _ 3 24 Try.underlying32 hj0 hy0 hy1 hy2 rfl (Nat.succ_pos _) rfl _ _ #[.int .i64 a0, .int .i64 a1, .int .i64 a2] 37 rfl rfl (one3 _ _ _) hk6 le24 (hT2.swap) ?_ ?_) | (refine step_two rfl (.tmp 18) (.tmp 20) 32 rfl w.heap.size 37 j0 _ 3 24 Try.underlying32 hj0 hy0 hy1 hy2 rfl (Nat.succ_pos _) rfl _ _ #[.int .i64 a0, .int .i64 a1, .int .i64 a2] 37 rfl rfl (one3 _ _ _) hk6 le24 ((hT2.lay _).swap) ?_ ?_))
             (first | (refine .inr ⟨?_, rfl⟩; · simp) | (refine .inl (.inr ⟨?_, rfl⟩); · simp))
             rintro v' w3 hT3 ⟨A4, c4, rfl⟩
             have hG := hT3.pr wr.heap.size (.cells #[.int .i64 a0, .int .i64 a1, .int .i64 a2] 73)
             simp only [true_and, and_true, or_true, true_or, false_or, forall_const, and_self, true_implies] at hG
             have z0 := cell_of_row w3 _ 0 _ _ _ hG.1
             have z1 := cell_of_row w3 _ 1 _ _ _ hG.1
             have z2 := cell_of_row w3 _ 2 _ _ _ hG.1))
      all_goals
        have hT9 := hT3.swap.strike (P' := fun _ _ => False) (fun _ _ h => h.elim)
        clear hT3 hT2 hT1
        go_wp2_with fail
        go_roundw
        case rel => exact ⟨k + 1, by omega, by go_num, by rw [HF.out]; exact hT9⟩
        case measure => simp [intOf]; omega
    · go_wp2_with fail
      go_ret2
      have h1 : xs.take k = xs := List.take_of_length_le (by have := HN.out; omega)
      rw [h1] at hT
      have h2 : xs.length = k := by have := HN.out; omega
      exact ⟨_, _, rfl, RdK.of_own jobC_len hT.a h2, RdK.of_own jobC_len hT.b h2, hT.bel⟩
/-! Another order. -/
theorem valid_perm {d : WorksD} {l s : List JobD} (hp : s.Perm l) (h : Valid d l) : Valid d s :=
  ⟨fun j hj => h.rng j (hp.mem_iff.1 hj), (pairs_perm hp).2 h.pair, fun j hj => by unfold runN; rw [hp.countP_eq]; exact h.mould j (hp.mem_iff.1 hj), fun k hk => by unfold kindN; rw [hp.countP_eq]; exact h.need k hk⟩
theorem chk_perm {d : WorksD} {l s : List JobD} (hp : s.Perm l) : chkE d s = 0 ↔ chkE d l = 0 := by
  rw [chkE_zero, chkE_zero, hp.length_eq]
  exact ⟨fun h => ⟨h.1, h.2.1, valid_perm hp.symm h.2.2⟩, fun h => ⟨h.1, h.2.1, valid_perm hp h.2.2⟩⟩
theorem endMax_le {d : WorksD} : ∀ (l : List JobD) (m M : Int), m ≤ M → (∀ j ∈ l, endJ d j ≤ M) → l.foldl (fun m j => max m (endJ d j)) m ≤ M
  | [], m, M, h, _ => h
  | x :: l, m, M, h, h2 => by
    have hx := h2 x (List.mem_cons_self ..)
    exact endMax_le l (max m (endJ d x)) M (by omega) fun j hj => h2 j (List.mem_cons_of_mem _ hj)
theorem endMax_perm {d : WorksD} {l s : List JobD} (hp : s.Perm l) : endMax d s = endMax d l := by
  refine Int.le_antisymm ?_ ?_
  · exact endMax_le s 0 _ (endMax_ge d l 0).1 fun j hj => (endMax_ge d l 0).2 j (hp.mem_iff.1 hj)
  · exact endMax_le l 0 _ (endMax_ge d s 0).1 fun j hj => (endMax_ge d s 0).2 j (hp.mem_iff.2 hj)
theorem endE_perm {d : WorksD} {l s : List JobD} (hp : s.Perm l) : endE d s = endE d l := by
  unfold endE
  by_cases h : chkE d l = 0
  · rw [if_pos h, if_pos ((chk_perm hp).2 h), endMax_perm hp]
  · rw [if_neg h, if_neg (fun h' => h ((chk_perm hp).1 h'))]
/-- From the end, turned. -/
def turnL (s : List JobD) (k : Nat) : List JobD := s.reverse.drop (k % s.length) ++ s.reverse.take (k % s.length)
theorem turnL_perm (s : List JobD) (k : Nat) : (turnL s k).Perm s := by
  unfold turnL
  refine List.Perm.trans List.perm_append_comm ?_
  rw [List.take_append_drop]
  exact List.reverse_perm s
theorem turnL_len (s : List JobD) (k : Nat) : (turnL s k).length = s.length := (turnL_perm s k).length_eq
theorem turnL_get {s : List JobD} {k i : Nat} (h : i < s.length) : (turnL s k)[i]? = s[s.length - 1 - (i + k) % s.length]? := by
  unfold turnL
  have hk : k % s.length < s.length := Nat.mod_lt _ (by omega)
  have hm : (i + k) % s.length = if i + k % s.length < s.length then i + k % s.length else i + k % s.length - s.length := by
    rw [Nat.add_mod, Nat.mod_eq_of_lt h]
    split
    · exact Nat.mod_eq_of_lt ‹_›
    · rw [Nat.mod_eq_sub_mod (by omega), Nat.mod_eq_of_lt (by omega)]
  rw [hm]
  by_cases hc : i + k % s.length < s.length
  · rw [if_pos hc, List.getElem?_append_left (by simp; omega), List.getElem?_drop, List.getElem?_reverse (by omega)]
    congr 1; omega
  · rw [if_neg hc, List.getElem?_append_right (by simp; omega), List.getElem?_take_of_lt (by simp; omega), List.getElem?_reverse (by simp; omega)]
    congr 1; simp; omega
end Go.Proofs.Ytogccnngdfancaa
