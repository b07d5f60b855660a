/- The walk of fits. -/
import Derived.Test.YtogccnngdfancaaFits2
namespace Go.Proofs.Ytogccnngdfancaa
open Go.RowKit
set_option linter.unusedVariables false
set_option linter.unusedSimpArgs false
set_option maxRecDepth 100000 in
set_option maxHeartbeats 2000000 in
theorem fits_any (v vl : Value) (d : WorksD) (l : List JobD) (j : JobD) (S T : Nat → Prop) (w : World) (hv : WkV w S v d) (hl : RdK 3 jobC w T vl l) (h0 : 0 ≤ j.kind) (h1 : j.kind < d.cure.length) (hml : d.moulds.length = d.cure.length)
    (hjs : Calm j.start) (hs : ∀ y ∈ l, y.kind = j.kind → Calm y.start) (hc : Calm (cureOf d j.kind)) (hll : l.length ≤ 900) :
    Calls Try.prog 39 #[v, vl, JobV j] w fun e w' => e = .returned (.bool (fitsP d l j)) ∧ Below w.heap.size w w' := by
  obtain ⟨i0, hi, hz0, hz1, hz2⟩ := info_parts info38
  obtain ⟨vc, vn, vm, rfl, hr1, hr2, hr3⟩ := hv
  have hv : WkV w S (.agg #[.int .i64 d.presses, .int .i64 d.change, vc, vn, vm]) d := ⟨_, _, _, rfl, hr1, hr2, hr3⟩
  have HCL := Lib.hid (fun w' (h : Below w.heap.size w w') => cloneJ_own vl l T w' (hl.below jobC_0 h) (by omega))
  have HLEN : Hid (l.length ≤ 900) := hll
  obtain ⟨W1, hW1⟩ : ∃ W1, W1 = (w.alloc (.cells #[.int .i64 d.presses, .int .i64 d.change, vc, vn, vm] 31)).alloc (.cells #[.int .i64 j.press, .int .i64 j.kind, .int .i64 j.start] 38) := ⟨_, rfl⟩
  have hb1 : Below w.heap.size w W1 := by rw [hW1]; exact ((Below.refl _ w).alloc (Nat.le_refl _) _).alloc (by simp) _
  have m0 : W1.heap[w.heap.size]? = some (.cells #[.int .i64 d.presses, .int .i64 d.change, vc, vn, vm] 31) := by rw [hW1, Below.heap_alloc _ _ _ (by simp)]; exact heap_alloc_new w _
  have m1 : W1.heap[w.heap.size + 1]? = some (.cells #[.int .i64 j.press, .int .i64 j.kind, .int .i64 j.start] 38) := by rw [hW1]; have := heap_alloc_new (w.alloc (.cells #[.int .i64 d.presses, .int .i64 d.change, vc, vn, vm] 31)) (.cells #[.int .i64 j.press, .int .i64 j.kind, .int .i64 j.start] 38); simpa using this
  have hsz : W1.heap.size = w.heap.size + 2 := by rw [hW1]; simp
  have HCELL : Hid (∀ w', Below W1.heap.size W1 w' → w'.cell? ⟨w.heap.size + 1, 0, none⟩ = some (.int .i64 j.press) ∧ w'.cell? ⟨w.heap.size + 1, 1, none⟩ = some (.int .i64 j.kind) ∧ w'.cell? ⟨w.heap.size + 1, 2, none⟩ = some (.int .i64 j.start)) := fun w' hb => by
    have k1 := (hb.block _ (by omega)).trans m1
    exact ⟨cell_of_row w' _ 0 _ _ _ k1, cell_of_row w' _ 1 _ _ _ k1, cell_of_row w' _ 2 _ _ _ k1⟩
  -- the test, wherever it is made
  have HEND : Hid (∀ (W : World) (va : Value) (g : Nat), Below W1.heap.size W1 W → W.heap[g]? = some (.cells #[va] 27) → W.ownsRow W1.heap.size 38 3 va (l.length + 1) ((l ++ [j]).flatMap jobC) →
      Calls Try.prog 58 #[va, .func (.func 59) #[] #[.pointer (some ⟨w.heap.size + 1, 0, none⟩), .pointer (some ⟨w.heap.size, 0, none⟩), .pointer (some ⟨g, 0, none⟩)]] W fun e w' => e = .returned (.bool ((l ++ [j]).any (badJ d (l ++ [j]) j))) ∧ Below W.heap.size W w') := fun W va g hb hg ho => by
    have hla : RdK 3 jobC W (W1.heap.size ≤ ·) va (l ++ [j]) := RdK.of_own (fun _ => rfl) ho (by simp)
    refine containsFuncJ_any va (l ++ [j]) _ 59 _ ?_ (badJ d (l ++ [j]) j) W hla (fun x hx w' hb' => ?_)
    · intro args w; rfl
    have hbW : Below W1.heap.size W1 w' := hb.trans (hb'.mono (by have := hb.size; omega))
    refine fits1_any _ _ _ 38 31 27 d (l ++ [j]) j x va vc vn vm S (W1.heap.size ≤ ·) w' ?_ ?_ ?_ ((hv.below hb1).below hbW) (hla.below jobC_0 hb') h0 h1 hml hjs ?_ hc (by simp; omega)
    · exact (hbW.block _ (by omega)).trans m1
    · exact (hbW.block _ (by omega)).trans m0
    · exact (hb'.block _ (Array.getElem?_eq_some_iff.1 hg).1).trans hg
    · intro y hy hk
      rcases List.mem_append.1 hy with hy | hy
      · exact hs y hy hk
      · simp at hy; subst hy; exact hjs
  have HB1 := Lib.hid hb1
  have HW1 := Lib.hid hW1
  have HFIT : Hid (fitsP d l j = !((l ++ [j]).any (badJ d (l ++ [j]) j))) := rfl
  obtain ⟨bad, hbad⟩ : ∃ b, b = (l ++ [j]).any (badJ d (l ++ [j]) j) := ⟨_, rfl⟩
  rw [← hbad] at HEND HFIT
  have T0 : Hid (TwoO W1.heap.size 38 38 3 3 (.slice none 0 0) 0 [] (.slice none 0 0) 0 [] (fun _ _ => False) W1 W1) := TwoO.bare _ _ _ _ _ _ (Nat.le_refl _)
  have HJC : Hid ((l ++ [j]).flatMap jobC = l.flatMap jobC ++ [.int .i64 j.press, .int .i64 j.kind, .int .i64 j.start]) := by show _ = _; simp [jobC]
  obtain ⟨xs, hxs⟩ : ∃ xs, xs = l.flatMap jobC := ⟨_, rfl⟩
  obtain ⟨ys, hys⟩ : ∃ ys, ys = (l ++ [j]).flatMap jobC := ⟨_, rfl⟩
  obtain ⟨n, hn⟩ : ∃ n, n = l.length := ⟨_, rfl⟩
  rw [← hxs, ← hn] at HCL
  rw [← hxs, ← hys] at HJC
  rw [← hys, ← hn] at HEND
  rw [← hn] at HLEN
  obtain ⟨jp, jk, js⟩ := j
  simp only [JobV] at *
  clear hr1 hr2 hr3 hv hl hml hjs hs hc hll hb1 hW1 m0 m1 hsz hbad hxs hys hn h1 h0
  go_enter Try.func39, Try.ntmps39
  go_wp2_with fail
  rw [← HW1.out]
  have TD : Hid (TwoO W1.heap.size 38 38 3 3 (.slice none 0 0) 0 [] (.slice none 0 0) 0 [] (fun _ _ => False) W1 W1.drew) := T0.out.drew
  refine seq_start (S := fun w' => w'.cell? ⟨w.heap.size + 1, 0, none⟩ = some (.int .i64 jp) ∧ w'.cell? ⟨w.heap.size + 1, 1, none⟩ = some (.int .i64 jk) ∧ w'.cell? ⟨w.heap.size + 1, 2, none⟩ = some (.int .i64 js)) (by kernel_rfl) (by kernel_rfl) (by exact HCELL.out _ TD.out.bel) ?_
  repeat (first
    | (refine seq_take0 (v := ?_) ?_ (fun _ _ _ h => h) (by kernel_rfl) ?_ ?_; rotate_left; (focus rfl); (focus (intro w' hSw; (try dsimp only at hSw); go_simp; (try with_reducible rfl); done)); (try simp only [Act.put, List.setIfInBounds_toArray, List.set_cons_zero, List.set_cons_succ]))
    | (refine seq_takeG (v := ?_) (g := ?_) (d := ?_) (b := ?_) (u := ?_) ?_ ?_ ?_ ?_ (fun _ _ _ h => h) (by kernel_rfl) ?_ ?_; rotate_left 5; (focus rfl); (focus rfl); (focus rfl); (focus (first | rfl | (go_simp; done))); (focus (intro w' hSw; (try dsimp only at hSw); go_simp; (try with_reducible rfl); done)); (try simp only [Act.put, List.setIfInBounds_toArray, List.set_cons_zero, List.set_cons_succ]))
    | (refine seq_skipG (g := ?_) (d := ?_) (b := ?_) (u := ?_) ?_ ?_ ?_ ?_ (fun _ _ _ h => h) (by kernel_rfl) ?_; rotate_left 4; (focus rfl); (focus rfl); (focus rfl); (focus (first | rfl | (go_simp; done))); (try simp only [Act.put, List.setIfInBounds_toArray, List.set_cons_zero, List.set_cons_succ])))
  repeat (refine seq_swap ?_; first
    | (refine seq_take0 (v := ?_) ?_ (fun _ _ _ h => h) (by kernel_rfl) ?_ ?_; rotate_left; (focus rfl); (focus (intro w' hSw; (try dsimp only at hSw); go_simp; (try with_reducible rfl); done)); (try simp only [Act.put, List.setIfInBounds_toArray, List.set_cons_zero, List.set_cons_succ]))
    | (refine seq_takeG (v := ?_) (g := ?_) (d := ?_) (b := ?_) (u := ?_) ?_ ?_ ?_ ?_ (fun _ _ _ h => h) (by kernel_rfl) ?_ ?_; rotate_left 5; (focus rfl); (focus rfl); (focus rfl); (focus (first | rfl | (go_simp; done))); (focus (intro w' hSw; (try dsimp only at hSw); go_simp; (try with_reducible rfl); done)); (try simp only [Act.put, List.setIfInBounds_toArray, List.set_cons_zero, List.set_cons_succ]))
    | (refine seq_skipG (g := ?_) (d := ?_) (b := ?_) (u := ?_) ?_ ?_ ?_ ?_ (fun _ _ _ h => h) (by kernel_rfl) ?_; rotate_left 4; (focus rfl); (focus rfl); (focus rfl); (focus (first | rfl | (go_simp; done))); (try simp only [Act.put, List.setIfInBounds_toArray, List.set_cons_zero, List.set_cons_succ])))
  obtain ⟨w0, hw0⟩ : ∃ x, x = W1.drew := ⟨_, rfl⟩
  rw [← hw0] at TD ⊢
  clear hw0
  refine seq_perm (List.Perm.cons _ (List.Perm.cons _ (List.Perm.swap _ _ _))) ?_

  refine seq_three (by kernel_rfl) (by rfl) (by rfl) (by rfl) ?_ ?_ ?_
  · skip
    intro K hK
    go_simp
    refine (HCL.out _ (HB1.out.trans (TD.out.bel.mono HB1.out.size))).mono ?_
    rintro e w1 ⟨⟨v1, rfl, ho1⟩, hb1⟩
    have T1 := Lib.hid (TD.out.born ho1 hb1)
    clear ho1 hb1
    refine hK.out _ _ (HCELL.out _ T1.out.bel) ?_
    clear hK K
    refine seq_both (by kernel_rfl) (by rfl) (by rfl) ?_ ?_
    · skip
      intro K hK
      go_simp
      have T2 := Lib.hid (T1.out.lay (.cells #[.int .i64 jp, .int .i64 jk, .int .i64 js] 38))
      obtain ⟨g2, hg2⟩ : ∃ g, g = w1.heap.size := ⟨_, rfl⟩
      have G2 : Hid (W1.heap.size ≤ g2) := by show _ ≤ _; rw [hg2]; exact T1.out.hB
      rw [← hg2] at T2 ⊢
      obtain ⟨w2, hw2⟩ : ∃ wz, wz = w1.alloc (.cells #[.int .i64 jp, .int .i64 jk, .int .i64 js] 38) := ⟨_, rfl⟩
      rw [← hw2] at T2 ⊢
      clear hw2 hg2
      refine hK.out _ _ (HCELL.out _ T2.out.bel) ?_
      clear hK K
      refine seq_both (by kernel_rfl) (by rfl) (by rfl) ?_ ?_
      · skip
        intro K hK
        go_simp
        have T3 := Lib.hid (T2.out.lay (.cells #[.slice none 0 0] 27))
        obtain ⟨g3, hg3⟩ : ∃ g, g = w2.heap.size := ⟨_, rfl⟩
        have G3 : Hid (W1.heap.size ≤ g3) := by show _ ≤ _; rw [hg3]; exact T2.out.hB
        rw [← hg3] at T3 ⊢
        obtain ⟨w3, hw3⟩ : ∃ wz, wz = w2.alloc (.cells #[.slice none 0 0] 27) := ⟨_, rfl⟩
        rw [← hw3] at T3 ⊢
        clear hw3 hg3
        refine hK.out _ _ (HCELL.out _ T3.out.bel) ?_
        clear hK K
        refine seq_op (by kernel_rfl) (by rfl) ?_
        intro K hK
        refine step_two1 rfl _ _ 27 rfl W1.heap.size 38 i0 (.agg #[.int .i64 0, .int .i64 0, .int .i64 0]) 3 24 Try.underlying27 hi hz0 hz1 hz2 rfl (by decide) rfl g2 1 #[.int .i64 jp, .int .i64 jk, .int .i64 js] 38 rfl rfl (by intro u hu; simp at hu; rcases hu with rfl | rfl | rfl <;> rfl) (by have := HLEN.out; omega) (by decide) T3.out (.inl (.inr ⟨rfl, rfl⟩)) ?_
        rintro va4 w4 T4 ⟨A4, c4, rfl⟩
        replace T4 := Lib.hid T4
        refine hK.out _ _ (HCELL.out _ T4.out.bel) ?_
        clear hK K
        refine seq_op (by kernel_rfl) (by rfl) ?_
        intro K hK
        have hgl := (T4.out.pr g3 _ (.inr ⟨rfl, rfl⟩)).1
        have cl := cell_of_row w4 g3 0 _ _ _ hgl
        have fl := frozen_of_row w4 g3 0 _ _ hgl
        go_simp
        have T5 := Lib.hid (T4.out.write (g := g3) (.inr ⟨rfl, rfl⟩) G3.out 0 (.slice A4 (n + 1) c4))
        have HG5 := Lib.hid (heap_setCell_same w4 g3 0 _ 27 (.slice A4 (n + 1) c4) hgl)
        obtain ⟨w5, hw5⟩ : ∃ wz, wz = w4.setCell ⟨g3, 0, none⟩ (.slice A4 (n + 1) c4) := ⟨_, rfl⟩
        rw [← hw5] at T5 HG5 ⊢
        clear hw5 hgl cl fl
        refine hK.out _ _ (HCELL.out _ T5.out.bel) ?_
        clear hK K
        refine seq_done (by kernel_rfl) ?_
        have cl2 := cell_of_row w5 g3 0 _ _ _ HG5.out
        go_wp2_with fail
        refine (HEND.out _ _ _ T5.out.bel HG5.out (by rw [HJC.out]; exact T5.out.a)).mono ?_
        rintro e w9 ⟨rfl, hb9⟩
        have hbx := HB1.out.trans ((T5.out.bel.trans (hb9.mono (by have := T5.out.bel.size; omega))).mono HB1.out.size)
        clear hb9 cl2
        go_wp2_with fail
        go_ret
        exact ⟨by rw [HFIT.out]; rfl, hbx⟩
      · skip
        intro K hK
        refine step_two1 rfl _ _ 27 rfl W1.heap.size 38 i0 (.agg #[.int .i64 0, .int .i64 0, .int .i64 0]) 3 24 Try.underlying27 hi hz0 hz1 hz2 rfl (by decide) rfl g2 1 #[.int .i64 jp, .int .i64 jk, .int .i64 js] 38 rfl rfl (by intro u hu; simp at hu; rcases hu with rfl | rfl | rfl <;> rfl) (by have := HLEN.out; omega) (by decide) T2.out (.inr ⟨rfl, rfl⟩) ?_
        rintro va6 w6 T6 ⟨A6, c6, rfl⟩
        replace T6 := Lib.hid T6
        refine hK.out _ _ (HCELL.out _ T6.out.bel) ?_
        clear hK K
        refine seq_op (by kernel_rfl) (by rfl) ?_
        intro K hK
        go_simp
        have T7 := Lib.hid (T6.out.lay (.cells #[.slice none 0 0] 27))
        obtain ⟨g7, hg7⟩ : ∃ g, g = w6.heap.size := ⟨_, rfl⟩
        have G7 : Hid (W1.heap.size ≤ g7) := by show _ ≤ _; rw [hg7]; exact T6.out.hB
        rw [← hg7] at T7 ⊢
        obtain ⟨w7, hw7⟩ : ∃ wz, wz = w6.alloc (.cells #[.slice none 0 0] 27) := ⟨_, rfl⟩
        rw [← hw7] at T7 ⊢
        clear hw7 hg7
        refine hK.out _ _ (HCELL.out _ T7.out.bel) ?_
        clear hK K
        refine seq_op (by kernel_rfl) (by rfl) ?_
        intro K hK
        have hgl := (T7.out.pr g7 _ (.inr ⟨rfl, rfl⟩)).1
        have cl := cell_of_row w7 g7 0 _ _ _ hgl
        have fl := frozen_of_row w7 g7 0 _ _ hgl
        go_simp
        have T8 := Lib.hid (T7.out.write (g := g7) (.inr ⟨rfl, rfl⟩) G7.out 0 (.slice A6 (n + 1) c6))
        have HG8 := Lib.hid (heap_setCell_same w7 g7 0 _ 27 (.slice A6 (n + 1) c6) hgl)
        obtain ⟨w8, hw8⟩ : ∃ wz, wz = w7.setCell ⟨g7, 0, none⟩ (.slice A6 (n + 1) c6) := ⟨_, rfl⟩
        rw [← hw8] at T8 HG8 ⊢
        clear hw8 hgl cl fl
        refine hK.out _ _ (HCELL.out _ T8.out.bel) ?_
        clear hK K
        refine seq_done (by kernel_rfl) ?_
        have cl2 := cell_of_row w8 g7 0 _ _ _ HG8.out
        go_wp2_with fail
        refine (HEND.out _ _ _ T8.out.bel HG8.out (by rw [HJC.out]; exact T8.out.a)).mono ?_
        rintro e w9 ⟨rfl, hb9⟩
        have hbx := HB1.out.trans ((T8.out.bel.trans (hb9.mono (by have := T8.out.bel.size; omega))).mono HB1.out.size)
        clear hb9 cl2
        go_wp2_with fail
        go_ret
        exact ⟨by rw [HFIT.out]; rfl, hbx⟩
    · skip
      intro K hK
      go_simp
      have T9 := Lib.hid (T1.out.lay (.cells #[.slice none 0 0] 27))
      obtain ⟨g9, hg9⟩ : ∃ g, g = w1.heap.size := ⟨_, rfl⟩
      have G9 : Hid (W1.heap.size ≤ g9) := by show _ ≤ _; rw [hg9]; exact T1.out.hB
      rw [← hg9] at T9 ⊢
      obtain ⟨w9, hw9⟩ : ∃ wz, wz = w1.alloc (.cells #[.slice none 0 0] 27) := ⟨_, rfl⟩
      rw [← hw9] at T9 ⊢
      clear hw9 hg9
      refine hK.out _ _ (HCELL.out _ T9.out.bel) ?_
      clear hK K
      refine seq_op (by kernel_rfl) (by rfl) ?_
      intro K hK
      go_simp
      have T10 := Lib.hid (T9.out.lay (.cells #[.int .i64 jp, .int .i64 jk, .int .i64 js] 38))
      obtain ⟨g10, hg10⟩ : ∃ g, g = w9.heap.size := ⟨_, rfl⟩
      have G10 : Hid (W1.heap.size ≤ g10) := by show _ ≤ _; rw [hg10]; exact T9.out.hB
      rw [← hg10] at T10 ⊢
      obtain ⟨w10, hw10⟩ : ∃ wz, wz = w9.alloc (.cells #[.int .i64 jp, .int .i64 jk, .int .i64 js] 38) := ⟨_, rfl⟩
      rw [← hw10] at T10 ⊢
      clear hw10 hg10
      refine hK.out _ _ (HCELL.out _ T10.out.bel) ?_
      clear hK K
      refine seq_op (by kernel_rfl) (by rfl) ?_
      intro K hK
      refine step_two1 rfl _ _ 27 rfl W1.heap.size 38 i0 (.agg #[.int .i64 0, .int .i64 0, .int .i64 0]) 3 24 Try.underlying27 hi hz0 hz1 hz2 rfl (by decide) rfl g10 1 #[.int .i64 jp, .int .i64 jk, .int .i64 js] 38 rfl rfl (by intro u hu; simp at hu; rcases hu with rfl | rfl | rfl <;> rfl) (by have := HLEN.out; omega) (by decide) T10.out (.inr ⟨rfl, rfl⟩) ?_
      rintro va11 w11 T11 ⟨A11, c11, rfl⟩
      replace T11 := Lib.hid T11
      refine hK.out _ _ (HCELL.out _ T11.out.bel) ?_
      clear hK K
      refine seq_op (by kernel_rfl) (by rfl) ?_
      intro K hK
      have hgl := (T11.out.pr g9 _ (.inl (.inr ⟨rfl, rfl⟩))).1
      have cl := cell_of_row w11 g9 0 _ _ _ hgl
      have fl := frozen_of_row w11 g9 0 _ _ hgl
      go_simp
      have T12 := Lib.hid (T11.out.write (g := g9) (.inl (.inr ⟨rfl, rfl⟩)) G9.out 0 (.slice A11 (n + 1) c11))
      have HG12 := Lib.hid (heap_setCell_same w11 g9 0 _ 27 (.slice A11 (n + 1) c11) hgl)
      obtain ⟨w12, hw12⟩ : ∃ wz, wz = w11.setCell ⟨g9, 0, none⟩ (.slice A11 (n + 1) c11) := ⟨_, rfl⟩
      rw [← hw12] at T12 HG12 ⊢
      clear hw12 hgl cl fl
      refine hK.out _ _ (HCELL.out _ T12.out.bel) ?_
      clear hK K
      refine seq_done (by kernel_rfl) ?_
      have cl2 := cell_of_row w12 g9 0 _ _ _ HG12.out
      go_wp2_with fail
      refine (HEND.out _ _ _ T12.out.bel HG12.out (by rw [HJC.out]; exact T12.out.a)).mono ?_
      rintro e w9 ⟨rfl, hb9⟩
      have hbx := HB1.out.trans ((T12.out.bel.trans (hb9.mono (by have := T12.out.bel.size; omega))).mono HB1.out.size)
      clear hb9 cl2
      go_wp2_with fail
      go_ret
      exact ⟨by rw [HFIT.out]; rfl, hbx⟩
  · skip
    intro K hK
    go_simp
    have T13 := Lib.hid (TD.out.lay (.cells #[.int .i64 jp, .int .i64 jk, .int .i64 js] 38))
    obtain ⟨g13, hg13⟩ : ∃ g, g = w0.heap.size := ⟨_, rfl⟩
    have G13 : Hid (W1.heap.size ≤ g13) := by show _ ≤ _; rw [hg13]; exact TD.out.hB
    rw [← hg13] at T13 ⊢
    obtain ⟨w13, hw13⟩ : ∃ wz, wz = w0.alloc (.cells #[.int .i64 jp, .int .i64 jk, .int .i64 js] 38) := ⟨_, rfl⟩
    rw [← hw13] at T13 ⊢
    clear hw13 hg13
    refine hK.out _ _ (HCELL.out _ T13.out.bel) ?_
    clear hK K
    refine seq_both (by kernel_rfl) (by rfl) (by rfl) ?_ ?_
    · skip
      intro K hK
      go_simp
      refine (HCL.out _ (HB1.out.trans (T13.out.bel.mono HB1.out.size))).mono ?_
      rintro e w14 ⟨⟨v14, rfl, ho14⟩, hb14⟩
      have T14 := Lib.hid (T13.out.born ho14 hb14)
      clear ho14 hb14
      refine hK.out _ _ (HCELL.out _ T14.out.bel) ?_
      clear hK K
      refine seq_both (by kernel_rfl) (by rfl) (by rfl) ?_ ?_
      · skip
        intro K hK
        go_simp
        have T15 := Lib.hid (T14.out.lay (.cells #[.slice none 0 0] 27))
        obtain ⟨g15, hg15⟩ : ∃ g, g = w14.heap.size := ⟨_, rfl⟩
        have G15 : Hid (W1.heap.size ≤ g15) := by show _ ≤ _; rw [hg15]; exact T14.out.hB
        rw [← hg15] at T15 ⊢
        obtain ⟨w15, hw15⟩ : ∃ wz, wz = w14.alloc (.cells #[.slice none 0 0] 27) := ⟨_, rfl⟩
        rw [← hw15] at T15 ⊢
        clear hw15 hg15
        refine hK.out _ _ (HCELL.out _ T15.out.bel) ?_
        clear hK K
        refine seq_op (by kernel_rfl) (by rfl) ?_
        intro K hK
        refine step_two1 rfl _ _ 27 rfl W1.heap.size 38 i0 (.agg #[.int .i64 0, .int .i64 0, .int .i64 0]) 3 24 Try.underlying27 hi hz0 hz1 hz2 rfl (by decide) rfl g13 1 #[.int .i64 jp, .int .i64 jk, .int .i64 js] 38 rfl rfl (by intro u hu; simp at hu; rcases hu with rfl | rfl | rfl <;> rfl) (by have := HLEN.out; omega) (by decide) T15.out (.inl (.inr ⟨rfl, rfl⟩)) ?_
        rintro va16 w16 T16 ⟨A16, c16, rfl⟩
        replace T16 := Lib.hid T16
        refine hK.out _ _ (HCELL.out _ T16.out.bel) ?_
        clear hK K
        refine seq_op (by kernel_rfl) (by rfl) ?_
        intro K hK
        have hgl := (T16.out.pr g15 _ (.inr ⟨rfl, rfl⟩)).1
        have cl := cell_of_row w16 g15 0 _ _ _ hgl
        have fl := frozen_of_row w16 g15 0 _ _ hgl
        go_simp
        have T17 := Lib.hid (T16.out.write (g := g15) (.inr ⟨rfl, rfl⟩) G15.out 0 (.slice A16 (n + 1) c16))
        have HG17 := Lib.hid (heap_setCell_same w16 g15 0 _ 27 (.slice A16 (n + 1) c16) hgl)
        obtain ⟨w17, hw17⟩ : ∃ wz, wz = w16.setCell ⟨g15, 0, none⟩ (.slice A16 (n + 1) c16) := ⟨_, rfl⟩
        rw [← hw17] at T17 HG17 ⊢
        clear hw17 hgl cl fl
        refine hK.out _ _ (HCELL.out _ T17.out.bel) ?_
        clear hK K
        refine seq_done (by kernel_rfl) ?_
        have cl2 := cell_of_row w17 g15 0 _ _ _ HG17.out
        go_wp2_with fail
        refine (HEND.out _ _ _ T17.out.bel HG17.out (by rw [HJC.out]; exact T17.out.a)).mono ?_
        rintro e w9 ⟨rfl, hb9⟩
        have hbx := HB1.out.trans ((T17.out.bel.trans (hb9.mono (by have := T17.out.bel.size; omega))).mono HB1.out.size)
        clear hb9 cl2
        go_wp2_with fail
        go_ret
        exact ⟨by rw [HFIT.out]; rfl, hbx⟩
      · skip
        intro K hK
        refine step_two1 rfl _ _ 27 rfl W1.heap.size 38 i0 (.agg #[.int .i64 0, .int .i64 0, .int .i64 0]) 3 24 Try.underlying27 hi hz0 hz1 hz2 rfl (by decide) rfl g13 1 #[.int .i64 jp, .int .i64 jk, .int .i64 js] 38 rfl rfl (by intro u hu; simp at hu; rcases hu with rfl | rfl | rfl <;> rfl) (by have := HLEN.out; omega) (by decide) T14.out (.inr ⟨rfl, rfl⟩) ?_
        rintro va18 w18 T18 ⟨A18, c18, rfl⟩
        replace T18 := Lib.hid T18
        refine hK.out _ _ (HCELL.out _ T18.out.bel) ?_
        clear hK K
        refine seq_op (by kernel_rfl) (by rfl) ?_
        intro K hK
        go_simp
        have T19 := Lib.hid (T18.out.lay (.cells #[.slice none 0 0] 27))
        obtain ⟨g19, hg19⟩ : ∃ g, g = w18.heap.size := ⟨_, rfl⟩
        have G19 : Hid (W1.heap.size ≤ g19) := by show _ ≤ _; rw [hg19]; exact T18.out.hB
        rw [← hg19] at T19 ⊢
        obtain ⟨w19, hw19⟩ : ∃ wz, wz = w18.alloc (.cells #[.slice none 0 0] 27) := ⟨_, rfl⟩
        rw [← hw19] at T19 ⊢
        clear hw19 hg19
        refine hK.out _ _ (HCELL.out _ T19.out.bel) ?_
        clear hK K
        refine seq_op (by kernel_rfl) (by rfl) ?_
        intro K hK
        have hgl := (T19.out.pr g19 _ (.inr ⟨rfl, rfl⟩)).1
        have cl := cell_of_row w19 g19 0 _ _ _ hgl
        have fl := frozen_of_row w19 g19 0 _ _ hgl
        go_simp
        have T20 := Lib.hid (T19.out.write (g := g19) (.inr ⟨rfl, rfl⟩) G19.out 0 (.slice A18 (n + 1) c18))
        have HG20 := Lib.hid (heap_setCell_same w19 g19 0 _ 27 (.slice A18 (n + 1) c18) hgl)
        obtain ⟨w20, hw20⟩ : ∃ wz, wz = w19.setCell ⟨g19, 0, none⟩ (.slice A18 (n + 1) c18) := ⟨_, rfl⟩
        rw [← hw20] at T20 HG20 ⊢
        clear hw20 hgl cl fl
        refine hK.out _ _ (HCELL.out _ T20.out.bel) ?_
        clear hK K
        refine seq_done (by kernel_rfl) ?_
        have cl2 := cell_of_row w20 g19 0 _ _ _ HG20.out
        go_wp2_with fail
        refine (HEND.out _ _ _ T20.out.bel HG20.out (by rw [HJC.out]; exact T20.out.a)).mono ?_
        rintro e w9 ⟨rfl, hb9⟩
        have hbx := HB1.out.trans ((T20.out.bel.trans (hb9.mono (by have := T20.out.bel.size; omega))).mono HB1.out.size)
        clear hb9 cl2
        go_wp2_with fail
        go_ret
        exact ⟨by rw [HFIT.out]; rfl, hbx⟩
    · skip
      intro K hK
      go_simp
      have T21 := Lib.hid (T13.out.lay (.cells #[.slice none 0 0] 27))
      obtain ⟨g21, hg21⟩ : ∃ g, g = w13.heap.size := ⟨_, rfl⟩
      have G21 : Hid (W1.heap.size ≤ g21) := by show _ ≤ _; rw [hg21]; exact T13.out.hB
      rw [← hg21] at T21 ⊢
      obtain ⟨w21, hw21⟩ : ∃ wz, wz = w13.alloc (.cells #[.slice none 0 0] 27) := ⟨_, rfl⟩
      rw [← hw21] at T21 ⊢
      clear hw21 hg21
      refine hK.out _ _ (HCELL.out _ T21.out.bel) ?_
      clear hK K
      refine seq_op (by kernel_rfl) (by rfl) ?_
      intro K hK
      go_simp
      refine (HCL.out _ (HB1.out.trans (T21.out.bel.mono HB1.out.size))).mono ?_
      rintro e w22 ⟨⟨v22, rfl, ho22⟩, hb22⟩
      have T22 := Lib.hid (T21.out.born ho22 hb22)
      clear ho22 hb22
      refine hK.out _ _ (HCELL.out _ T22.out.bel) ?_
      clear hK K
      refine seq_op (by kernel_rfl) (by rfl) ?_
      intro K hK
      refine step_two1 rfl _ _ 27 rfl W1.heap.size 38 i0 (.agg #[.int .i64 0, .int .i64 0, .int .i64 0]) 3 24 Try.underlying27 hi hz0 hz1 hz2 rfl (by decide) rfl g13 1 #[.int .i64 jp, .int .i64 jk, .int .i64 js] 38 rfl rfl (by intro u hu; simp at hu; rcases hu with rfl | rfl | rfl <;> rfl) (by have := HLEN.out; omega) (by decide) T22.out (.inl (.inr ⟨rfl, rfl⟩)) ?_
      rintro va23 w23 T23 ⟨A23, c23, rfl⟩
      replace T23 := Lib.hid T23
      refine hK.out _ _ (HCELL.out _ T23.out.bel) ?_
      clear hK K
      refine seq_op (by kernel_rfl) (by rfl) ?_
      intro K hK
      have hgl := (T23.out.pr g21 _ (.inr ⟨rfl, rfl⟩)).1
      have cl := cell_of_row w23 g21 0 _ _ _ hgl
      have fl := frozen_of_row w23 g21 0 _ _ hgl
      go_simp
      have T24 := Lib.hid (T23.out.write (g := g21) (.inr ⟨rfl, rfl⟩) G21.out 0 (.slice A23 (n + 1) c23))
      have HG24 := Lib.hid (heap_setCell_same w23 g21 0 _ 27 (.slice A23 (n + 1) c23) hgl)
      obtain ⟨w24, hw24⟩ : ∃ wz, wz = w23.setCell ⟨g21, 0, none⟩ (.slice A23 (n + 1) c23) := ⟨_, rfl⟩
      rw [← hw24] at T24 HG24 ⊢
      clear hw24 hgl cl fl
      refine hK.out _ _ (HCELL.out _ T24.out.bel) ?_
      clear hK K
      refine seq_done (by kernel_rfl) ?_
      have cl2 := cell_of_row w24 g21 0 _ _ _ HG24.out
      go_wp2_with fail
      refine (HEND.out _ _ _ T24.out.bel HG24.out (by rw [HJC.out]; exact T24.out.a)).mono ?_
      rintro e w9 ⟨rfl, hb9⟩
      have hbx := HB1.out.trans ((T24.out.bel.trans (hb9.mono (by have := T24.out.bel.size; omega))).mono HB1.out.size)
      clear hb9 cl2
      go_wp2_with fail
      go_ret
      exact ⟨by rw [HFIT.out]; rfl, hbx⟩
  · skip
    intro K hK
    go_simp
    have T25 := Lib.hid (TD.out.lay (.cells #[.slice none 0 0] 27))
    obtain ⟨g25, hg25⟩ : ∃ g, g = w0.heap.size := ⟨_, rfl⟩
    have G25 : Hid (W1.heap.size ≤ g25) := by show _ ≤ _; rw [hg25]; exact TD.out.hB
    rw [← hg25] at T25 ⊢
    obtain ⟨w25, hw25⟩ : ∃ wz, wz = w0.alloc (.cells #[.slice none 0 0] 27) := ⟨_, rfl⟩
    rw [← hw25] at T25 ⊢
    clear hw25 hg25
    refine hK.out _ _ (HCELL.out _ T25.out.bel) ?_
    clear hK K
    refine seq_both (by kernel_rfl) (by rfl) (by rfl) ?_ ?_
    · skip
      intro K hK
      go_simp
      refine (HCL.out _ (HB1.out.trans (T25.out.bel.mono HB1.out.size))).mono ?_
      rintro e w26 ⟨⟨v26, rfl, ho26⟩, hb26⟩
      have T26 := Lib.hid (T25.out.born ho26 hb26)
      clear ho26 hb26
      refine hK.out _ _ (HCELL.out _ T26.out.bel) ?_
      clear hK K
      refine seq_op (by kernel_rfl) (by rfl) ?_
      intro K hK
      go_simp
      have T27 := Lib.hid (T26.out.lay (.cells #[.int .i64 jp, .int .i64 jk, .int .i64 js] 38))
      obtain ⟨g27, hg27⟩ : ∃ g, g = w26.heap.size := ⟨_, rfl⟩
      have G27 : Hid (W1.heap.size ≤ g27) := by show _ ≤ _; rw [hg27]; exact T26.out.hB
      rw [← hg27] at T27 ⊢
      obtain ⟨w27, hw27⟩ : ∃ wz, wz = w26.alloc (.cells #[.int .i64 jp, .int .i64 jk, .int .i64 js] 38) := ⟨_, rfl⟩
      rw [← hw27] at T27 ⊢
      clear hw27 hg27
      refine hK.out _ _ (HCELL.out _ T27.out.bel) ?_
      clear hK K
      refine seq_op (by kernel_rfl) (by rfl) ?_
      intro K hK
      refine step_two1 rfl _ _ 27 rfl W1.heap.size 38 i0 (.agg #[.int .i64 0, .int .i64 0, .int .i64 0]) 3 24 Try.underlying27 hi hz0 hz1 hz2 rfl (by decide) rfl g27 1 #[.int .i64 jp, .int .i64 jk, .int .i64 js] 38 rfl rfl (by intro u hu; simp at hu; rcases hu with rfl | rfl | rfl <;> rfl) (by have := HLEN.out; omega) (by decide) T27.out (.inr ⟨rfl, rfl⟩) ?_
      rintro va28 w28 T28 ⟨A28, c28, rfl⟩
      replace T28 := Lib.hid T28
      refine hK.out _ _ (HCELL.out _ T28.out.bel) ?_
      clear hK K
      refine seq_op (by kernel_rfl) (by rfl) ?_
      intro K hK
      have hgl := (T28.out.pr g25 _ (.inl (.inr ⟨rfl, rfl⟩))).1
      have cl := cell_of_row w28 g25 0 _ _ _ hgl
      have fl := frozen_of_row w28 g25 0 _ _ hgl
      go_simp
      have T29 := Lib.hid (T28.out.write (g := g25) (.inl (.inr ⟨rfl, rfl⟩)) G25.out 0 (.slice A28 (n + 1) c28))
      have HG29 := Lib.hid (heap_setCell_same w28 g25 0 _ 27 (.slice A28 (n + 1) c28) hgl)
      obtain ⟨w29, hw29⟩ : ∃ wz, wz = w28.setCell ⟨g25, 0, none⟩ (.slice A28 (n + 1) c28) := ⟨_, rfl⟩
      rw [← hw29] at T29 HG29 ⊢
      clear hw29 hgl cl fl
      refine hK.out _ _ (HCELL.out _ T29.out.bel) ?_
      clear hK K
      refine seq_done (by kernel_rfl) ?_
      have cl2 := cell_of_row w29 g25 0 _ _ _ HG29.out
      go_wp2_with fail
      refine (HEND.out _ _ _ T29.out.bel HG29.out (by rw [HJC.out]; exact T29.out.a)).mono ?_
      rintro e w9 ⟨rfl, hb9⟩
      have hbx := HB1.out.trans ((T29.out.bel.trans (hb9.mono (by have := T29.out.bel.size; omega))).mono HB1.out.size)
      clear hb9 cl2
      go_wp2_with fail
      go_ret
      exact ⟨by rw [HFIT.out]; rfl, hbx⟩
    · skip
      intro K hK
      go_simp
      have T30 := Lib.hid (T25.out.lay (.cells #[.int .i64 jp, .int .i64 jk, .int .i64 js] 38))
      obtain ⟨g30, hg30⟩ : ∃ g, g = w25.heap.size := ⟨_, rfl⟩
      have G30 : Hid (W1.heap.size ≤ g30) := by show _ ≤ _; rw [hg30]; exact T25.out.hB
      rw [← hg30] at T30 ⊢
      obtain ⟨w30, hw30⟩ : ∃ wz, wz = w25.alloc (.cells #[.int .i64 jp, .int .i64 jk, .int .i64 js] 38) := ⟨_, rfl⟩
      rw [← hw30] at T30 ⊢
      clear hw30 hg30
      refine hK.out _ _ (HCELL.out _ T30.out.bel) ?_
      clear hK K
      refine seq_op (by kernel_rfl) (by rfl) ?_
      intro K hK
      go_simp
      refine (HCL.out _ (HB1.out.trans (T30.out.bel.mono HB1.out.size))).mono ?_
      rintro e w31 ⟨⟨v31, rfl, ho31⟩, hb31⟩
      have T31 := Lib.hid (T30.out.born ho31 hb31)
      clear ho31 hb31
      refine hK.out _ _ (HCELL.out _ T31.out.bel) ?_
      clear hK K
      refine seq_op (by kernel_rfl) (by rfl) ?_
      intro K hK
      refine step_two1 rfl _ _ 27 rfl W1.heap.size 38 i0 (.agg #[.int .i64 0, .int .i64 0, .int .i64 0]) 3 24 Try.underlying27 hi hz0 hz1 hz2 rfl (by decide) rfl g30 1 #[.int .i64 jp, .int .i64 jk, .int .i64 js] 38 rfl rfl (by intro u hu; simp at hu; rcases hu with rfl | rfl | rfl <;> rfl) (by have := HLEN.out; omega) (by decide) T31.out (.inr ⟨rfl, rfl⟩) ?_
      rintro va32 w32 T32 ⟨A32, c32, rfl⟩
      replace T32 := Lib.hid T32
      refine hK.out _ _ (HCELL.out _ T32.out.bel) ?_
      clear hK K
      refine seq_op (by kernel_rfl) (by rfl) ?_
      intro K hK
      have hgl := (T32.out.pr g25 _ (.inl (.inr ⟨rfl, rfl⟩))).1
      have cl := cell_of_row w32 g25 0 _ _ _ hgl
      have fl := frozen_of_row w32 g25 0 _ _ hgl
      go_simp
      have T33 := Lib.hid (T32.out.write (g := g25) (.inl (.inr ⟨rfl, rfl⟩)) G25.out 0 (.slice A32 (n + 1) c32))
      have HG33 := Lib.hid (heap_setCell_same w32 g25 0 _ 27 (.slice A32 (n + 1) c32) hgl)
      obtain ⟨w33, hw33⟩ : ∃ wz, wz = w32.setCell ⟨g25, 0, none⟩ (.slice A32 (n + 1) c32) := ⟨_, rfl⟩
      rw [← hw33] at T33 HG33 ⊢
      clear hw33 hgl cl fl
      refine hK.out _ _ (HCELL.out _ T33.out.bel) ?_
      clear hK K
      refine seq_done (by kernel_rfl) ?_
      have cl2 := cell_of_row w33 g25 0 _ _ _ HG33.out
      go_wp2_with fail
      refine (HEND.out _ _ _ T33.out.bel HG33.out (by rw [HJC.out]; exact T33.out.a)).mono ?_
      rintro e w9 ⟨rfl, hb9⟩
      have hbx := HB1.out.trans ((T33.out.bel.trans (hb9.mono (by have := T33.out.bel.size; omega))).mono HB1.out.size)
      clear hb9 cl2
      go_wp2_with fail
      go_ret
      exact ⟨by rw [HFIT.out]; rfl, hbx⟩
end Go.Proofs.Ytogccnngdfancaa
