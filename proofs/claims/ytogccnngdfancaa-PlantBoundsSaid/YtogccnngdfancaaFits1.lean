/- The walks of fits. -/
import Derived.Test.YtogccnngdfancaaBd
import Derived.Test.YtogccnngdfancaaFuncs
import Derived.Test.YtogccnngdfancaaClone
namespace Go.Proofs.Ytogccnngdfancaa
open Go.RowKit
set_option linter.unusedVariables false
set_option linter.unusedSimpArgs false
theorem RdK.cell_at {α : Type} {k : Nat} {f : α → List Value} {w : World} {S : Nat → Prop} {b off n cap : Nat} {xs : List α} (h : RdK k f w S (.slice (some ⟨b, off, none⟩) n cap) xs) {i : Nat} {x : α} (hx : xs[i]? = some x) {j : Nat} {u : Value} (hu : (f x)[j]? = some u) : w.cell? ⟨b, off + i * k + j, none⟩ = some u := by
  obtain ⟨A, c, he, _, _, hc⟩ := h
  obtain ⟨b', off', hA, _, hcc⟩ := hc (by intro e; subst e; simp at hx)
  simp only [Value.slice.injEq] at he
  obtain ⟨rfl, _, _⟩ := he
  simp only [Option.some.injEq, Addr.mk.injEq] at hA
  obtain ⟨rfl, rfl, _⟩ := hA
  exact hcc i x hx j u hu
theorem WkV.moulds {w : World} {S : Nat → Prop} {a b vc vn vm : Value} {d : WorksD} (h : WkV w S (.agg #[a, b, vc, vn, vm]) d) : Rd (Value.int .i64) w S vm d.moulds := by
  obtain ⟨c', n', m', he, _, _, hm⟩ := h
  simp only [Value.agg.injEq, Array.mk.injEq, List.cons.injEq, and_true] at he
  obtain ⟨_, _, _, _, rfl⟩ := he
  exact hm
set_option maxRecDepth 100000 in
set_option maxHeartbeats 2000000 in
theorem fits1_any (bj bw ba : Nat) (tj tw ta : TypeId) (d : WorksD) (l : List JobD) (j x : JobD) (va vc vn vm : Value) (S T : Nat → Prop) (w : World)
    (hj : w.heap[bj]? = some (.cells #[.int .i64 j.press, .int .i64 j.kind, .int .i64 j.start] tj))
    (hw : w.heap[bw]? = some (.cells #[.int .i64 d.presses, .int .i64 d.change, vc, vn, vm] tw))
    (ha : w.heap[ba]? = some (.cells #[va] ta))
    (hv : WkV w S (.agg #[.int .i64 d.presses, .int .i64 d.change, vc, vn, vm]) d) (hl : RdK 3 jobC w T va l) (h0 : 0 ≤ j.kind) (h1 : j.kind < d.cure.length) (hml : d.moulds.length = d.cure.length)
    (hjs : Calm j.start) (hs : ∀ y ∈ l, y.kind = j.kind → Calm y.start) (hc : Calm (cureOf d j.kind)) (hll : l.length ≤ 1000) :
    Calls Try.prog 59 #[JobV x, .pointer (some ⟨bj, 0, none⟩), .pointer (some ⟨bw, 0, none⟩), .pointer (some ⟨ba, 0, none⟩)] w fun e w' => e = .returned (.bool (badJ d l j x)) ∧ Below w.heap.size w w' := by
  have HE := Lib.hid (fun w' (h : Below w.heap.size w w') => end_any _ d j S w' (hv.below h) h0 h1 hjs hc)
  have HR := Lib.hid (fun w' (h : Below w.heap.size w w') => running_any _ va d l j.kind x.start S T w' (hv.below h) (hl.below jobC_0 h) h0 h1 hs hc hll)
  have hrl := runN_le d l j.kind x.start
  obtain ⟨r, hr⟩ : ∃ r, r = runN d l j.kind x.start := ⟨_, rfl⟩
  rw [← hr] at HR hrl
  have HBAD : Hid (badJ d l j x = (decide (x.kind = j.kind) && (decide (j.start ≤ x.start) && decide (x.start < endJ d j)) && decide (mouldOf d j.kind < (r : Int)))) := by show _ = _; rw [hr]; rfl
  obtain ⟨e0, he0⟩ : ∃ e0, e0 = endJ d j := ⟨_, rfl⟩
  rw [← he0] at HE HBAD
  have hmo := hv.moulds
  obtain ⟨Am, nm, cm, rfl, hnm, -, hmm, hcm⟩ := hmo.lt.open_
  obtain ⟨bm, om, m, rfl, ⟨_, hbm⟩, hm, hmc⟩ := hcm j.kind.toNat (by omega)
  have hmv : mouldOf d j.kind = m := at_of hm
  rw [hmv] at HBAD
  obtain ⟨jp, jk, js⟩ := j
  obtain ⟨xp, xk, xs⟩ := x
  simp only [JobV] at *
  obtain ⟨k, rfl⟩ : ∃ k : Nat, jk = (k : Int) := ⟨jk.toNat, by omega⟩
  rw [Int.toNat_natCast] at hmc
  obtain ⟨w1, hw1⟩ : ∃ w1, w1 = w.alloc (.cells #[.int .i64 xp, .int .i64 xk, .int .i64 xs] 38) := ⟨_, rfl⟩
  have hb1 : Below w.heap.size w w1 := by rw [hw1]; exact (Below.refl _ w).alloc (Nat.le_refl _) _
  have hmx := heap_alloc_new w (.cells #[.int .i64 xp, .int .i64 xk, .int .i64 xs] 38)
  rw [← hw1] at hmx
  have hsz : w.heap.size < w1.heap.size := by rw [hw1]; simp
  have HCELL : Hid (∀ w', Below w1.heap.size w1 w' → w'.cell? ⟨w.heap.size, 1, none⟩ = some (.int .i64 xk) ∧ w'.cell? ⟨w.heap.size, 2, none⟩ = some (.int .i64 xs) ∧
      (w'.cell? ⟨bj, 0, none⟩ = some (.int .i64 jp) ∧ w'.cell? ⟨bj, 1, none⟩ = some (.int .i64 k) ∧ w'.cell? ⟨bj, 2, none⟩ = some (.int .i64 js)) ∧
      (w'.cell? ⟨bw, 0, none⟩ = some (.int .i64 d.presses) ∧ w'.cell? ⟨bw, 1, none⟩ = some (.int .i64 d.change) ∧ w'.cell? ⟨bw, 2, none⟩ = some vc ∧ w'.cell? ⟨bw, 3, none⟩ = some vn ∧ w'.cell? ⟨bw, 4, none⟩ = some (.slice (some ⟨bm, om, none⟩) nm cm)) ∧
      w'.cell? ⟨ba, 0, none⟩ = some va ∧ w'.cell? ⟨bm, om + k, none⟩ = some (.int .i64 m)) := fun w' hb => by
    have k0 := (hb.block _ hsz).trans hmx
    have hbb : Below w.heap.size w w' := hb1.trans (hb.mono (by omega))
    have kj := (hbb.block _ (Array.getElem?_eq_some_iff.1 hj).1).trans hj
    have kw := (hbb.block _ (Array.getElem?_eq_some_iff.1 hw).1).trans hw
    have ka := (hbb.block _ (Array.getElem?_eq_some_iff.1 ha).1).trans ha
    exact ⟨cell_of_row w' _ 1 _ _ _ k0, cell_of_row w' _ 2 _ _ _ k0, ⟨cell_of_row w' _ 0 _ _ _ kj, cell_of_row w' _ 1 _ _ _ kj, cell_of_row w' _ 2 _ _ _ kj⟩,
      ⟨cell_of_row w' _ 0 _ _ _ kw, cell_of_row w' _ 1 _ _ _ kw, cell_of_row w' _ 2 _ _ _ kw, cell_of_row w' _ 3 _ _ _ kw, cell_of_row w' _ 4 _ _ _ kw⟩,
      cell_of_row w' _ 0 _ _ _ ka, (hbb.cell (p := ⟨bm, _, none⟩) hbm).trans hmc⟩
  have HB1 := Lib.hid hb1
  have HW1 := Lib.hid hw1
  have hkn : (k : Int) < (nm : Int) := by omega
  have hk0 : (0 : Int) ≤ (k : Int) := by omega
  clear hj hw ha hv hl hs hc hll hjs hml hr he0 hmo hnm hcm hm hmc hmv h1 hw1 hmx hb1 hsz
  by_cases a1 : js ≤ xs
  · go_enter Try.func59, Try.ntmps59
    go_wp2_with fail
    rw [← HW1.out]
    refine seq_start (S := fun w' => w'.cell? ⟨w.heap.size, 1, none⟩ = some (.int .i64 xk) ∧ w'.cell? ⟨w.heap.size, 2, none⟩ = some (.int .i64 xs) ∧ (w'.cell? ⟨bj, 0, none⟩ = some (.int .i64 jp) ∧ w'.cell? ⟨bj, 1, none⟩ = some (.int .i64 k) ∧ w'.cell? ⟨bj, 2, none⟩ = some (.int .i64 js)) ∧ (w'.cell? ⟨bw, 0, none⟩ = some (.int .i64 d.presses) ∧ w'.cell? ⟨bw, 1, none⟩ = some (.int .i64 d.change) ∧ w'.cell? ⟨bw, 2, none⟩ = some vc ∧ w'.cell? ⟨bw, 3, none⟩ = some vn ∧ w'.cell? ⟨bw, 4, none⟩ = some (.slice (some ⟨bm, om, none⟩) nm cm)) ∧ w'.cell? ⟨ba, 0, none⟩ = some va ∧ w'.cell? ⟨bm, om + k, none⟩ = some (.int .i64 m)) (by kernel_rfl) (by kernel_rfl) (by exact HCELL.out _ (Below.refl _ _).drew) ?_
    repeat (first
      | (refine seq_take0 (v := ?_) ?_ (fun _ _ _ h => h) (by kernel_rfl) ?_ ?_; rotate_left; (focus rfl); (focus (intro w' hSw; (try dsimp only at hSw); go_simp; (try with_reducible rfl); done)); (try simp only [Act.put, List.setIfInBounds_toArray, List.set_cons_zero, List.set_cons_succ]))
      | (refine seq_takeG (v := ?_) (g := ?_) (d := ?_) (b := ?_) (u := ?_) ?_ ?_ ?_ ?_ (fun _ _ _ h => h) (by kernel_rfl) ?_ ?_; rotate_left 5; (focus rfl); (focus rfl); (focus rfl); (focus (first | rfl | (go_simp; done))); (focus (intro w' hSw; (try dsimp only at hSw); go_simp; (try with_reducible rfl); done)); (try simp only [Act.put, List.setIfInBounds_toArray, List.set_cons_zero, List.set_cons_succ]))
      | (refine seq_skipG (g := ?_) (d := ?_) (b := ?_) (u := ?_) ?_ ?_ ?_ ?_ (fun _ _ _ h => h) (by kernel_rfl) ?_; rotate_left 4; (focus rfl); (focus rfl); (focus rfl); (focus (first | rfl | (go_simp; done))); (try simp only [Act.put, List.setIfInBounds_toArray, List.set_cons_zero, List.set_cons_succ])))
    refine seq_op (by kernel_rfl) (by rfl) (fun K hK => ?_)
    go_simp
    refine (HE.out _ HB1.out.drew).mono ?_
    rintro e w2 ⟨rfl, hb2⟩
    have HB2 : Hid (Below w1.heap.size w1 w2) := (Below.refl _ w1).drew.trans hb2
    clear hb2
    refine hK.out _ _ (HCELL.out _ HB2.out) ?_
    clear hK K
    by_cases a2 : xs < e0
    · skip
      repeat (first
        | (refine seq_take0 (v := ?_) ?_ (fun _ _ _ h => h) (by kernel_rfl) ?_ ?_; rotate_left; (focus rfl); (focus (intro w' hSw; (try dsimp only at hSw); go_simp; (try with_reducible rfl); done)); (try simp only [Act.put, List.setIfInBounds_toArray, List.set_cons_zero, List.set_cons_succ]))
        | (refine seq_takeG (v := ?_) (g := ?_) (d := ?_) (b := ?_) (u := ?_) ?_ ?_ ?_ ?_ (fun _ _ _ h => h) (by kernel_rfl) ?_ ?_; rotate_left 5; (focus rfl); (focus rfl); (focus rfl); (focus (first | rfl | (go_simp; done))); (focus (intro w' hSw; (try dsimp only at hSw); go_simp; (try with_reducible rfl); done)); (try simp only [Act.put, List.setIfInBounds_toArray, List.set_cons_zero, List.set_cons_succ]))
        | (refine seq_skipG (g := ?_) (d := ?_) (b := ?_) (u := ?_) ?_ ?_ ?_ ?_ (fun _ _ _ h => h) (by kernel_rfl) ?_; rotate_left 4; (focus rfl); (focus rfl); (focus rfl); (focus (first | rfl | (go_simp; done))); (try simp only [Act.put, List.setIfInBounds_toArray, List.set_cons_zero, List.set_cons_succ])))
      refine seq_done (by kernel_rfl) ?_
      by_cases a3 : xk = k
      · have a3b : (xk == (k : Int)) = true := by simpa using a3
        have HBD : Hid (badJ d l ⟨jp, k, js⟩ ⟨xp, xk, xs⟩ = decide (m < (r : Int))) := by show _ = _; rw [HBAD.out]; simp [a1, a2, a3]
        clear a3
        go_wp2_with fail
        refine seq_start (S := fun w' => w'.cell? ⟨w.heap.size, 1, none⟩ = some (.int .i64 xk) ∧ w'.cell? ⟨w.heap.size, 2, none⟩ = some (.int .i64 xs) ∧ (w'.cell? ⟨bj, 0, none⟩ = some (.int .i64 jp) ∧ w'.cell? ⟨bj, 1, none⟩ = some (.int .i64 k) ∧ w'.cell? ⟨bj, 2, none⟩ = some (.int .i64 js)) ∧ (w'.cell? ⟨bw, 0, none⟩ = some (.int .i64 d.presses) ∧ w'.cell? ⟨bw, 1, none⟩ = some (.int .i64 d.change) ∧ w'.cell? ⟨bw, 2, none⟩ = some vc ∧ w'.cell? ⟨bw, 3, none⟩ = some vn ∧ w'.cell? ⟨bw, 4, none⟩ = some (.slice (some ⟨bm, om, none⟩) nm cm)) ∧ w'.cell? ⟨ba, 0, none⟩ = some va ∧ w'.cell? ⟨bm, om + k, none⟩ = some (.int .i64 m)) (by kernel_rfl) (by kernel_rfl) (by exact HCELL.out _ HB2.out.drew) ?_
        repeat (first
          | (refine seq_take0 (v := ?_) ?_ (fun _ _ _ h => h) (by kernel_rfl) ?_ ?_; rotate_left; (focus rfl); (focus (intro w' hSw; (try dsimp only at hSw); go_simp; (try with_reducible rfl); done)); (try simp only [Act.put, List.setIfInBounds_toArray, List.set_cons_zero, List.set_cons_succ]))
          | (refine seq_takeG (v := ?_) (g := ?_) (d := ?_) (b := ?_) (u := ?_) ?_ ?_ ?_ ?_ (fun _ _ _ h => h) (by kernel_rfl) ?_ ?_; rotate_left 5; (focus rfl); (focus rfl); (focus rfl); (focus (first | rfl | (go_simp; done))); (focus (intro w' hSw; (try dsimp only at hSw); go_simp; (try with_reducible rfl); done)); (try simp only [Act.put, List.setIfInBounds_toArray, List.set_cons_zero, List.set_cons_succ]))
          | (refine seq_skipG (g := ?_) (d := ?_) (b := ?_) (u := ?_) ?_ ?_ ?_ ?_ (fun _ _ _ h => h) (by kernel_rfl) ?_; rotate_left 4; (focus rfl); (focus rfl); (focus rfl); (focus (first | rfl | (go_simp; done))); (try simp only [Act.put, List.setIfInBounds_toArray, List.set_cons_zero, List.set_cons_succ])))
        repeat (refine seq_swap ?_; first
          | (refine seq_take0 (v := ?_) ?_ (fun _ _ _ h => h) (by kernel_rfl) ?_ ?_; rotate_left; (focus rfl); (focus (intro w' hSw; (try dsimp only at hSw); go_simp; (try with_reducible rfl); done)); (try simp only [Act.put, List.setIfInBounds_toArray, List.set_cons_zero, List.set_cons_succ]))
          | (refine seq_takeG (v := ?_) (g := ?_) (d := ?_) (b := ?_) (u := ?_) ?_ ?_ ?_ ?_ (fun _ _ _ h => h) (by kernel_rfl) ?_ ?_; rotate_left 5; (focus rfl); (focus rfl); (focus rfl); (focus (first | rfl | (go_simp; done))); (focus (intro w' hSw; (try dsimp only at hSw); go_simp; (try with_reducible rfl); done)); (try simp only [Act.put, List.setIfInBounds_toArray, List.set_cons_zero, List.set_cons_succ]))
          | (refine seq_skipG (g := ?_) (d := ?_) (b := ?_) (u := ?_) ?_ ?_ ?_ ?_ (fun _ _ _ h => h) (by kernel_rfl) ?_; rotate_left 4; (focus rfl); (focus rfl); (focus rfl); (focus (first | rfl | (go_simp; done))); (try simp only [Act.put, List.setIfInBounds_toArray, List.set_cons_zero, List.set_cons_succ])))
        refine seq_op (by kernel_rfl) (by rfl) (fun K hK => ?_)
        go_simp
        refine (HR.out _ (HB1.out.trans (HB2.out.drew.mono HB1.out.size))).mono ?_
        rintro e w3 ⟨rfl, hb3⟩
        have HB3 : Hid (Below w1.heap.size w1 w3) := HB2.out.drew.trans (hb3.mono HB2.out.drew.size)
        clear hb3
        refine hK.out _ _ (HCELL.out _ HB3.out) ?_
        clear hK K
        repeat (first
          | (refine seq_take0 (v := ?_) ?_ (fun _ _ _ h => h) (by kernel_rfl) ?_ ?_; rotate_left; (focus rfl); (focus (intro w' hSw; (try dsimp only at hSw); go_simp; (try with_reducible rfl); done)); (try simp only [Act.put, List.setIfInBounds_toArray, List.set_cons_zero, List.set_cons_succ]))
          | (refine seq_takeG (v := ?_) (g := ?_) (d := ?_) (b := ?_) (u := ?_) ?_ ?_ ?_ ?_ (fun _ _ _ h => h) (by kernel_rfl) ?_ ?_; rotate_left 5; (focus rfl); (focus rfl); (focus rfl); (focus (first | rfl | (go_simp; done))); (focus (intro w' hSw; (try dsimp only at hSw); go_simp; (try with_reducible rfl); done)); (try simp only [Act.put, List.setIfInBounds_toArray, List.set_cons_zero, List.set_cons_succ]))
          | (refine seq_skipG (g := ?_) (d := ?_) (b := ?_) (u := ?_) ?_ ?_ ?_ ?_ (fun _ _ _ h => h) (by kernel_rfl) ?_; rotate_left 4; (focus rfl); (focus rfl); (focus rfl); (focus (first | rfl | (go_simp; done))); (try simp only [Act.put, List.setIfInBounds_toArray, List.set_cons_zero, List.set_cons_succ])))
        refine seq_done (by kernel_rfl) ?_
        go_wp2_with fail
        go_ret
        exact ⟨by rw [HBD.out]; rfl, HB1.out.trans (HB3.out.mono HB1.out.size)⟩
      · have a3b : (xk == (k : Int)) = false := by simpa using a3
        have HBD : Hid (badJ d l ⟨jp, k, js⟩ ⟨xp, xk, xs⟩ = false) := by show _ = _; rw [HBAD.out]; simp [a3]
        clear a3
        go_wp2_with fail
        refine seq_start (S := fun w' => w'.cell? ⟨w.heap.size, 1, none⟩ = some (.int .i64 xk) ∧ w'.cell? ⟨w.heap.size, 2, none⟩ = some (.int .i64 xs) ∧ (w'.cell? ⟨bj, 0, none⟩ = some (.int .i64 jp) ∧ w'.cell? ⟨bj, 1, none⟩ = some (.int .i64 k) ∧ w'.cell? ⟨bj, 2, none⟩ = some (.int .i64 js)) ∧ (w'.cell? ⟨bw, 0, none⟩ = some (.int .i64 d.presses) ∧ w'.cell? ⟨bw, 1, none⟩ = some (.int .i64 d.change) ∧ w'.cell? ⟨bw, 2, none⟩ = some vc ∧ w'.cell? ⟨bw, 3, none⟩ = some vn ∧ w'.cell? ⟨bw, 4, none⟩ = some (.slice (some ⟨bm, om, none⟩) nm cm)) ∧ w'.cell? ⟨ba, 0, none⟩ = some va ∧ w'.cell? ⟨bm, om + k, none⟩ = some (.int .i64 m)) (by kernel_rfl) (by kernel_rfl) (by exact HCELL.out _ HB2.out.drew) ?_
        repeat (first
          | (refine seq_take0 (v := ?_) ?_ (fun _ _ _ h => h) (by kernel_rfl) ?_ ?_; rotate_left; (focus rfl); (focus (intro w' hSw; (try dsimp only at hSw); go_simp; (try with_reducible rfl); done)); (try simp only [Act.put, List.setIfInBounds_toArray, List.set_cons_zero, List.set_cons_succ]))
          | (refine seq_takeG (v := ?_) (g := ?_) (d := ?_) (b := ?_) (u := ?_) ?_ ?_ ?_ ?_ (fun _ _ _ h => h) (by kernel_rfl) ?_ ?_; rotate_left 5; (focus rfl); (focus rfl); (focus rfl); (focus (first | rfl | (go_simp; done))); (focus (intro w' hSw; (try dsimp only at hSw); go_simp; (try with_reducible rfl); done)); (try simp only [Act.put, List.setIfInBounds_toArray, List.set_cons_zero, List.set_cons_succ]))
          | (refine seq_skipG (g := ?_) (d := ?_) (b := ?_) (u := ?_) ?_ ?_ ?_ ?_ (fun _ _ _ h => h) (by kernel_rfl) ?_; rotate_left 4; (focus rfl); (focus rfl); (focus rfl); (focus (first | rfl | (go_simp; done))); (try simp only [Act.put, List.setIfInBounds_toArray, List.set_cons_zero, List.set_cons_succ])))
        refine seq_done (by kernel_rfl) ?_
        go_wp2_with fail
        go_ret
        exact ⟨by rw [HBD.out]; rfl, HB1.out.trans (HB2.out.drew.mono HB1.out.size)⟩
    · have HBD : Hid (badJ d l ⟨jp, k, js⟩ ⟨xp, xk, xs⟩ = false) := by show _ = _; rw [HBAD.out]; simp [a2]
      repeat (first
        | (refine seq_take0 (v := ?_) ?_ (fun _ _ _ h => h) (by kernel_rfl) ?_ ?_; rotate_left; (focus rfl); (focus (intro w' hSw; (try dsimp only at hSw); go_simp; (try with_reducible rfl); done)); (try simp only [Act.put, List.setIfInBounds_toArray, List.set_cons_zero, List.set_cons_succ]))
        | (refine seq_takeG (v := ?_) (g := ?_) (d := ?_) (b := ?_) (u := ?_) ?_ ?_ ?_ ?_ (fun _ _ _ h => h) (by kernel_rfl) ?_ ?_; rotate_left 5; (focus rfl); (focus rfl); (focus rfl); (focus (first | rfl | (go_simp; done))); (focus (intro w' hSw; (try dsimp only at hSw); go_simp; (try with_reducible rfl); done)); (try simp only [Act.put, List.setIfInBounds_toArray, List.set_cons_zero, List.set_cons_succ]))
        | (refine seq_skipG (g := ?_) (d := ?_) (b := ?_) (u := ?_) ?_ ?_ ?_ ?_ (fun _ _ _ h => h) (by kernel_rfl) ?_; rotate_left 4; (focus rfl); (focus rfl); (focus rfl); (focus (first | rfl | (go_simp; done))); (try simp only [Act.put, List.setIfInBounds_toArray, List.set_cons_zero, List.set_cons_succ])))
      refine seq_done (by kernel_rfl) ?_
      by_cases a3 : xk = k
      · have a3b : (xk == (k : Int)) = true := by simpa using a3
        clear a3
        go_wp2_with fail
        refine seq_start (S := fun w' => w'.cell? ⟨w.heap.size, 1, none⟩ = some (.int .i64 xk) ∧ w'.cell? ⟨w.heap.size, 2, none⟩ = some (.int .i64 xs) ∧ (w'.cell? ⟨bj, 0, none⟩ = some (.int .i64 jp) ∧ w'.cell? ⟨bj, 1, none⟩ = some (.int .i64 k) ∧ w'.cell? ⟨bj, 2, none⟩ = some (.int .i64 js)) ∧ (w'.cell? ⟨bw, 0, none⟩ = some (.int .i64 d.presses) ∧ w'.cell? ⟨bw, 1, none⟩ = some (.int .i64 d.change) ∧ w'.cell? ⟨bw, 2, none⟩ = some vc ∧ w'.cell? ⟨bw, 3, none⟩ = some vn ∧ w'.cell? ⟨bw, 4, none⟩ = some (.slice (some ⟨bm, om, none⟩) nm cm)) ∧ w'.cell? ⟨ba, 0, none⟩ = some va ∧ w'.cell? ⟨bm, om + k, none⟩ = some (.int .i64 m)) (by kernel_rfl) (by kernel_rfl) (by exact HCELL.out _ HB2.out.drew) ?_
        repeat (first
          | (refine seq_take0 (v := ?_) ?_ (fun _ _ _ h => h) (by kernel_rfl) ?_ ?_; rotate_left; (focus rfl); (focus (intro w' hSw; (try dsimp only at hSw); go_simp; (try with_reducible rfl); done)); (try simp only [Act.put, List.setIfInBounds_toArray, List.set_cons_zero, List.set_cons_succ]))
          | (refine seq_takeG (v := ?_) (g := ?_) (d := ?_) (b := ?_) (u := ?_) ?_ ?_ ?_ ?_ (fun _ _ _ h => h) (by kernel_rfl) ?_ ?_; rotate_left 5; (focus rfl); (focus rfl); (focus rfl); (focus (first | rfl | (go_simp; done))); (focus (intro w' hSw; (try dsimp only at hSw); go_simp; (try with_reducible rfl); done)); (try simp only [Act.put, List.setIfInBounds_toArray, List.set_cons_zero, List.set_cons_succ]))
          | (refine seq_skipG (g := ?_) (d := ?_) (b := ?_) (u := ?_) ?_ ?_ ?_ ?_ (fun _ _ _ h => h) (by kernel_rfl) ?_; rotate_left 4; (focus rfl); (focus rfl); (focus rfl); (focus (first | rfl | (go_simp; done))); (try simp only [Act.put, List.setIfInBounds_toArray, List.set_cons_zero, List.set_cons_succ])))
        refine seq_done (by kernel_rfl) ?_
        go_wp2_with fail
        go_ret
        exact ⟨by rw [HBD.out]; rfl, HB1.out.trans (HB2.out.drew.mono HB1.out.size)⟩
      · have a3b : (xk == (k : Int)) = false := by simpa using a3
        clear a3
        go_wp2_with fail
        refine seq_start (S := fun w' => w'.cell? ⟨w.heap.size, 1, none⟩ = some (.int .i64 xk) ∧ w'.cell? ⟨w.heap.size, 2, none⟩ = some (.int .i64 xs) ∧ (w'.cell? ⟨bj, 0, none⟩ = some (.int .i64 jp) ∧ w'.cell? ⟨bj, 1, none⟩ = some (.int .i64 k) ∧ w'.cell? ⟨bj, 2, none⟩ = some (.int .i64 js)) ∧ (w'.cell? ⟨bw, 0, none⟩ = some (.int .i64 d.presses) ∧ w'.cell? ⟨bw, 1, none⟩ = some (.int .i64 d.change) ∧ w'.cell? ⟨bw, 2, none⟩ = some vc ∧ w'.cell? ⟨bw, 3, none⟩ = some vn ∧ w'.cell? ⟨bw, 4, none⟩ = some (.slice (some ⟨bm, om, none⟩) nm cm)) ∧ w'.cell? ⟨ba, 0, none⟩ = some va ∧ w'.cell? ⟨bm, om + k, none⟩ = some (.int .i64 m)) (by kernel_rfl) (by kernel_rfl) (by exact HCELL.out _ HB2.out.drew) ?_
        repeat (first
          | (refine seq_take0 (v := ?_) ?_ (fun _ _ _ h => h) (by kernel_rfl) ?_ ?_; rotate_left; (focus rfl); (focus (intro w' hSw; (try dsimp only at hSw); go_simp; (try with_reducible rfl); done)); (try simp only [Act.put, List.setIfInBounds_toArray, List.set_cons_zero, List.set_cons_succ]))
          | (refine seq_takeG (v := ?_) (g := ?_) (d := ?_) (b := ?_) (u := ?_) ?_ ?_ ?_ ?_ (fun _ _ _ h => h) (by kernel_rfl) ?_ ?_; rotate_left 5; (focus rfl); (focus rfl); (focus rfl); (focus (first | rfl | (go_simp; done))); (focus (intro w' hSw; (try dsimp only at hSw); go_simp; (try with_reducible rfl); done)); (try simp only [Act.put, List.setIfInBounds_toArray, List.set_cons_zero, List.set_cons_succ]))
          | (refine seq_skipG (g := ?_) (d := ?_) (b := ?_) (u := ?_) ?_ ?_ ?_ ?_ (fun _ _ _ h => h) (by kernel_rfl) ?_; rotate_left 4; (focus rfl); (focus rfl); (focus rfl); (focus (first | rfl | (go_simp; done))); (try simp only [Act.put, List.setIfInBounds_toArray, List.set_cons_zero, List.set_cons_succ])))
        refine seq_done (by kernel_rfl) ?_
        go_wp2_with fail
        go_ret
        exact ⟨by rw [HBD.out]; rfl, HB1.out.trans (HB2.out.drew.mono HB1.out.size)⟩
  · have HBD : Hid (badJ d l ⟨jp, k, js⟩ ⟨xp, xk, xs⟩ = false) := by show _ = _; rw [HBAD.out]; simp [a1]
    have hb0 : Hid (Below w1.heap.size w1 w1.drew) := (Below.refl _ w1).drew
    have a1b : decide (js ≤ xs) = false := decide_eq_false a1
    have a1c : decide (xs < js) = true := decide_eq_true (by omega)
    by_cases a3 : xk = k
    · have a3b : (xk == (k : Int)) = true := by simpa using a3
      clear a3
      go_enter Try.func59, Try.ntmps59
      go_wp2_with fail
      rw [← HW1.out]
      refine seq_start (S := fun w' => w'.cell? ⟨w.heap.size, 1, none⟩ = some (.int .i64 xk) ∧ w'.cell? ⟨w.heap.size, 2, none⟩ = some (.int .i64 xs) ∧ (w'.cell? ⟨bj, 0, none⟩ = some (.int .i64 jp) ∧ w'.cell? ⟨bj, 1, none⟩ = some (.int .i64 k) ∧ w'.cell? ⟨bj, 2, none⟩ = some (.int .i64 js)) ∧ (w'.cell? ⟨bw, 0, none⟩ = some (.int .i64 d.presses) ∧ w'.cell? ⟨bw, 1, none⟩ = some (.int .i64 d.change) ∧ w'.cell? ⟨bw, 2, none⟩ = some vc ∧ w'.cell? ⟨bw, 3, none⟩ = some vn ∧ w'.cell? ⟨bw, 4, none⟩ = some (.slice (some ⟨bm, om, none⟩) nm cm)) ∧ w'.cell? ⟨ba, 0, none⟩ = some va ∧ w'.cell? ⟨bm, om + k, none⟩ = some (.int .i64 m)) (by kernel_rfl) (by kernel_rfl) (by exact HCELL.out _ (Below.refl _ _).drew) ?_
      repeat (first
        | (refine seq_take0 (v := ?_) ?_ (fun _ _ _ h => h) (by kernel_rfl) ?_ ?_; rotate_left; (focus rfl); (focus (intro w' hSw; (try dsimp only at hSw); go_simp; (try with_reducible rfl); done)); (try simp only [Act.put, List.setIfInBounds_toArray, List.set_cons_zero, List.set_cons_succ]))
        | (refine seq_takeG (v := ?_) (g := ?_) (d := ?_) (b := ?_) (u := ?_) ?_ ?_ ?_ ?_ (fun _ _ _ h => h) (by kernel_rfl) ?_ ?_; rotate_left 5; (focus rfl); (focus rfl); (focus rfl); (focus (first | rfl | (go_simp; done))); (focus (intro w' hSw; (try dsimp only at hSw); go_simp; (try with_reducible rfl); done)); (try simp only [Act.put, List.setIfInBounds_toArray, List.set_cons_zero, List.set_cons_succ]))
        | (refine seq_skipG (g := ?_) (d := ?_) (b := ?_) (u := ?_) ?_ ?_ ?_ ?_ (fun _ _ _ h => h) (by kernel_rfl) ?_; rotate_left 4; (focus rfl); (focus rfl); (focus rfl); (focus (first | rfl | (go_simp; done))); (try simp only [Act.put, List.setIfInBounds_toArray, List.set_cons_zero, List.set_cons_succ])))
      refine seq_done (by kernel_rfl) ?_
      go_wp2_with fail
      refine seq_start (S := fun w' => w'.cell? ⟨w.heap.size, 1, none⟩ = some (.int .i64 xk) ∧ w'.cell? ⟨w.heap.size, 2, none⟩ = some (.int .i64 xs) ∧ (w'.cell? ⟨bj, 0, none⟩ = some (.int .i64 jp) ∧ w'.cell? ⟨bj, 1, none⟩ = some (.int .i64 k) ∧ w'.cell? ⟨bj, 2, none⟩ = some (.int .i64 js)) ∧ (w'.cell? ⟨bw, 0, none⟩ = some (.int .i64 d.presses) ∧ w'.cell? ⟨bw, 1, none⟩ = some (.int .i64 d.change) ∧ w'.cell? ⟨bw, 2, none⟩ = some vc ∧ w'.cell? ⟨bw, 3, none⟩ = some vn ∧ w'.cell? ⟨bw, 4, none⟩ = some (.slice (some ⟨bm, om, none⟩) nm cm)) ∧ w'.cell? ⟨ba, 0, none⟩ = some va ∧ w'.cell? ⟨bm, om + k, none⟩ = some (.int .i64 m)) (by kernel_rfl) (by kernel_rfl) (by exact HCELL.out _ hb0.out.drew) ?_
      repeat (first
        | (refine seq_take0 (v := ?_) ?_ (fun _ _ _ h => h) (by kernel_rfl) ?_ ?_; rotate_left; (focus rfl); (focus (intro w' hSw; (try dsimp only at hSw); go_simp; (try with_reducible rfl); done)); (try simp only [Act.put, List.setIfInBounds_toArray, List.set_cons_zero, List.set_cons_succ]))
        | (refine seq_takeG (v := ?_) (g := ?_) (d := ?_) (b := ?_) (u := ?_) ?_ ?_ ?_ ?_ (fun _ _ _ h => h) (by kernel_rfl) ?_ ?_; rotate_left 5; (focus rfl); (focus rfl); (focus rfl); (focus (first | rfl | (go_simp; done))); (focus (intro w' hSw; (try dsimp only at hSw); go_simp; (try with_reducible rfl); done)); (try simp only [Act.put, List.setIfInBounds_toArray, List.set_cons_zero, List.set_cons_succ]))
        | (refine seq_skipG (g := ?_) (d := ?_) (b := ?_) (u := ?_) ?_ ?_ ?_ ?_ (fun _ _ _ h => h) (by kernel_rfl) ?_; rotate_left 4; (focus rfl); (focus rfl); (focus rfl); (focus (first | rfl | (go_simp; done))); (try simp only [Act.put, List.setIfInBounds_toArray, List.set_cons_zero, List.set_cons_succ])))
      refine seq_done (by kernel_rfl) ?_
      go_wp2_with fail
      go_ret
      exact ⟨by rw [HBD.out]; rfl, HB1.out.trans (hb0.out.drew.mono HB1.out.size)⟩
    · have a3b : (xk == (k : Int)) = false := by simpa using a3
      clear a3
      go_enter Try.func59, Try.ntmps59
      go_wp2_with fail
      rw [← HW1.out]
      refine seq_start (S := fun w' => w'.cell? ⟨w.heap.size, 1, none⟩ = some (.int .i64 xk) ∧ w'.cell? ⟨w.heap.size, 2, none⟩ = some (.int .i64 xs) ∧ (w'.cell? ⟨bj, 0, none⟩ = some (.int .i64 jp) ∧ w'.cell? ⟨bj, 1, none⟩ = some (.int .i64 k) ∧ w'.cell? ⟨bj, 2, none⟩ = some (.int .i64 js)) ∧ (w'.cell? ⟨bw, 0, none⟩ = some (.int .i64 d.presses) ∧ w'.cell? ⟨bw, 1, none⟩ = some (.int .i64 d.change) ∧ w'.cell? ⟨bw, 2, none⟩ = some vc ∧ w'.cell? ⟨bw, 3, none⟩ = some vn ∧ w'.cell? ⟨bw, 4, none⟩ = some (.slice (some ⟨bm, om, none⟩) nm cm)) ∧ w'.cell? ⟨ba, 0, none⟩ = some va ∧ w'.cell? ⟨bm, om + k, none⟩ = some (.int .i64 m)) (by kernel_rfl) (by kernel_rfl) (by exact HCELL.out _ (Below.refl _ _).drew) ?_
      repeat (first
        | (refine seq_take0 (v := ?_) ?_ (fun _ _ _ h => h) (by kernel_rfl) ?_ ?_; rotate_left; (focus rfl); (focus (intro w' hSw; (try dsimp only at hSw); go_simp; (try with_reducible rfl); done)); (try simp only [Act.put, List.setIfInBounds_toArray, List.set_cons_zero, List.set_cons_succ]))
        | (refine seq_takeG (v := ?_) (g := ?_) (d := ?_) (b := ?_) (u := ?_) ?_ ?_ ?_ ?_ (fun _ _ _ h => h) (by kernel_rfl) ?_ ?_; rotate_left 5; (focus rfl); (focus rfl); (focus rfl); (focus (first | rfl | (go_simp; done))); (focus (intro w' hSw; (try dsimp only at hSw); go_simp; (try with_reducible rfl); done)); (try simp only [Act.put, List.setIfInBounds_toArray, List.set_cons_zero, List.set_cons_succ]))
        | (refine seq_skipG (g := ?_) (d := ?_) (b := ?_) (u := ?_) ?_ ?_ ?_ ?_ (fun _ _ _ h => h) (by kernel_rfl) ?_; rotate_left 4; (focus rfl); (focus rfl); (focus rfl); (focus (first | rfl | (go_simp; done))); (try simp only [Act.put, List.setIfInBounds_toArray, List.set_cons_zero, List.set_cons_succ])))
      refine seq_done (by kernel_rfl) ?_
      go_wp2_with fail
      refine seq_start (S := fun w' => w'.cell? ⟨w.heap.size, 1, none⟩ = some (.int .i64 xk) ∧ w'.cell? ⟨w.heap.size, 2, none⟩ = some (.int .i64 xs) ∧ (w'.cell? ⟨bj, 0, none⟩ = some (.int .i64 jp) ∧ w'.cell? ⟨bj, 1, none⟩ = some (.int .i64 k) ∧ w'.cell? ⟨bj, 2, none⟩ = some (.int .i64 js)) ∧ (w'.cell? ⟨bw, 0, none⟩ = some (.int .i64 d.presses) ∧ w'.cell? ⟨bw, 1, none⟩ = some (.int .i64 d.change) ∧ w'.cell? ⟨bw, 2, none⟩ = some vc ∧ w'.cell? ⟨bw, 3, none⟩ = some vn ∧ w'.cell? ⟨bw, 4, none⟩ = some (.slice (some ⟨bm, om, none⟩) nm cm)) ∧ w'.cell? ⟨ba, 0, none⟩ = some va ∧ w'.cell? ⟨bm, om + k, none⟩ = some (.int .i64 m)) (by kernel_rfl) (by kernel_rfl) (by exact HCELL.out _ hb0.out.drew) ?_
      repeat (first
        | (refine seq_take0 (v := ?_) ?_ (fun _ _ _ h => h) (by kernel_rfl) ?_ ?_; rotate_left; (focus rfl); (focus (intro w' hSw; (try dsimp only at hSw); go_simp; (try with_reducible rfl); done)); (try simp only [Act.put, List.setIfInBounds_toArray, List.set_cons_zero, List.set_cons_succ]))
        | (refine seq_takeG (v := ?_) (g := ?_) (d := ?_) (b := ?_) (u := ?_) ?_ ?_ ?_ ?_ (fun _ _ _ h => h) (by kernel_rfl) ?_ ?_; rotate_left 5; (focus rfl); (focus rfl); (focus rfl); (focus (first | rfl | (go_simp; done))); (focus (intro w' hSw; (try dsimp only at hSw); go_simp; (try with_reducible rfl); done)); (try simp only [Act.put, List.setIfInBounds_toArray, List.set_cons_zero, List.set_cons_succ]))
        | (refine seq_skipG (g := ?_) (d := ?_) (b := ?_) (u := ?_) ?_ ?_ ?_ ?_ (fun _ _ _ h => h) (by kernel_rfl) ?_; rotate_left 4; (focus rfl); (focus rfl); (focus rfl); (focus (first | rfl | (go_simp; done))); (try simp only [Act.put, List.setIfInBounds_toArray, List.set_cons_zero, List.set_cons_succ])))
      refine seq_done (by kernel_rfl) ?_
      go_wp2_with fail
      go_ret
      exact ⟨by rw [HBD.out]; rfl, HB1.out.trans (hb0.out.drew.mono HB1.out.size)⟩
end Go.Proofs.Ytogccnngdfancaa
