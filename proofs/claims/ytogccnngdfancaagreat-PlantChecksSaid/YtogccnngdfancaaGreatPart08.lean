/- The rows of jobs that the library's stable sort works on; the comparison; two blocks exchanged. -/
import Derived.Test.YtogccnngdfancaaGreatPart07
import Derived.Test.YtogccnngdfancaaGreatPart02
import Derived.Test.YtogccnngdfancaaGreatPart03
import Derived.Test.YtogccnngdfancaaGreatPart04
namespace Go.Proofs.YtogccnngdfancaaGreat
open Go.RowKit
set_option linter.unusedVariables false
set_option linter.unusedSimpArgs false
/-- A row of jobs of the call's own. -/
structure JRow (B g n cap : Nat) (W0 w : World) (l : List JobD) : Prop where
  own : w.ownsRow B 79 3 (.slice (some ⟨g, 0, none⟩) n cap) n (l.flatMap jobC)
  len : l.length = n
  bel : Below B W0 w
theorem JRow.hg {B g n cap : Nat} {W0 w : World} {l : List JobD} (h : JRow B g n cap W0 w l) : B ≤ g ∧ g < w.heap.size := by
  have := h.own.lt g rfl
  exact ⟨this.1, this.2⟩
theorem JRow.grow {B g n cap : Nat} {W0 w w' : World} {l : List JobD} (h : JRow B g n cap W0 w l) (hb : Below w.heap.size w w') (hB : B ≤ w.heap.size) : JRow B g n cap W0 w' l :=
  ⟨h.own.kept ⟨hb.os, hb.tape, hb.output, hb.size, fun k hk _ => hb.block k hk⟩ (Classical.em _), h.len, h.bel.trans (hb.mono hB)⟩
theorem JRow.drew {B g n cap : Nat} {W0 w : World} {l : List JobD} (h : JRow B g n cap W0 w l) : JRow B g n cap W0 w.drew l := ⟨h.own, h.len, h.bel.drew⟩
theorem flat_set : ∀ (l : List JobD) (i : Nat) (p k s : Int), (((l.flatMap jobC).set (i * 3) (.int .i64 p)).set (i * 3 + 1) (.int .i64 k)).set (i * 3 + 2) (.int .i64 s) = if i < l.length then (l.set i ⟨p, k, s⟩).flatMap jobC else l.flatMap jobC
  | [], i, p, k, s => by simp
  | x :: l, 0, p, k, s => by simp [jobC]
  | x :: l, i + 1, p, k, s => by
    have ih := flat_set l i p k s
    rw [show (i + 1) * 3 = i * 3 + 3 by omega]
    simp only [List.flatMap_cons, List.length_cons, Nat.add_lt_add_iff_right, List.set_cons_succ]
    simp only [jobC, List.cons_append, List.nil_append, List.set_cons_succ]
    rw [ih]
    split <;> rfl
theorem JRow.cell {B g n cap : Nat} {W0 w : World} {l : List JobD} (h : JRow B g n cap W0 w l) {i : Nat} {x : JobD} (hx : l[i]? = some x) :
    w.cell? ⟨g, i * 3, none⟩ = some (.int .i64 x.press) ∧ w.cell? ⟨g, i * 3 + 1, none⟩ = some (.int .i64 x.kind) ∧ w.cell? ⟨g, i * 3 + 2, none⟩ = some (.int .i64 x.start) := by
  have hi := (List.getElem?_eq_some_iff.1 hx).1
  have hn := h.len
  have f := fun j u hu => flat_at (f := jobC) (k := 3) jobC_len l i x hx j u hu
  exact ⟨(h.own.cellAt (i * 3) (by omega)).trans (f 0 _ rfl), (h.own.cellAt (i * 3 + 1) (by omega)).trans (f 1 _ rfl), (h.own.cellAt (i * 3 + 2) (by omega)).trans (f 2 _ rfl)⟩
theorem JRow.frozen {B g n cap : Nat} {W0 w : World} {l : List JobD} (h : JRow B g n cap W0 w l) (j : Nat) : w.frozen? ⟨g, j, none⟩ = false := h.own.frozenAt j
theorem JRow.put {B g n cap : Nat} {W0 w : World} {l : List JobD} (h : JRow B g n cap W0 w l) {i : Nat} (hi : i < n) (p k s : Int) :
    JRow B g n cap W0 (((w.setCell ⟨g, i * 3, none⟩ (.int .i64 p)).setCell ⟨g, i * 3 + 1, none⟩ (.int .i64 k)).setCell ⟨g, i * 3 + 2, none⟩ (.int .i64 s)) (l.set i ⟨p, k, s⟩) := by
  have h1 := (h.own.stored (i * 3) (.int .i64 p)).1
  have h2 := (h1.stored (i * 3 + 1) (.int .i64 k)).1
  have h3 := (h2.stored (i * 3 + 2) (.int .i64 s)).1
  rw [flat_set, if_pos (by rw [h.len]; exact hi)] at h3
  have hg := h.hg.1
  exact ⟨h3, by rw [List.length_set]; exact h.len, ((h.bel.setCell hg _).setCell hg _).setCell hg _⟩
set_option maxRecDepth 100000 in
set_option maxHeartbeats 2000000 in
theorem swapRange_any (B g n cap : Nat) (A P M Q C : List JobD) (a b k : Nat) (cv : Value) (W0 w : World) (h : JRow B g n cap W0 w (A ++ P ++ M ++ Q ++ C)) (ha : a = A.length) (hb : b = A.length + k + M.length) (hp : P.length = k) (hq : Q.length = k) (hn : n ≤ 64) :
    Calls Tryz.prog 135 #[.slice (some ⟨g, 0, none⟩) n cap, .int .i64 (a : Int), .int .i64 (b : Int), .int .i64 (k : Int), cv] w fun e w' => (∃ v, e = .returned v) ∧ JRow B g n cap W0 w' (A ++ Q ++ M ++ P ++ C) := by
  have hlen := h.len
  have hlen2 : b + k ≤ n := by simp at hlen; omega
  have HG : Hid (∀ i, i < k → ∃ x y, (blkAt A P M Q C i)[a + i]? = some x ∧ (blkAt A P M Q C i)[b + i]? = some y ∧ ((blkAt A P M Q C i).set (a + i) y).set (b + i) x = blkAt A P M Q C (i + 1)) := fun i hi => by
    rw [ha, hb]; exact blkAt_get hp hq hi
  have HE : Hid (blkAt A P M Q C k = A ++ Q ++ M ++ P ++ C) := blkAt_end A P M Q C k hp hq
  have H0 : Hid (JRow B g n cap W0 w (blkAt A P M Q C 0)) := by rw [blkAt_zero]; exact h
  have hab : a + k ≤ b := by omega
  clear h ha hb hlen hp hq
  go_enter Tryz.func135, Tryz.ntmps135
  go_wp2_with fail
  go_loopw [10] (fun iv wr => ∃ i : Nat, i ≤ k ∧ iv = .int .i64 (i : Int) ∧ JRow B g n cap W0 wr (blkAt A P M Q C i)) (fun iv _ => k - (intOf iv).toNat)
  case atStart => exact ⟨0, Nat.zero_le _, rfl, H0.out⟩
  case round =>
    obtain ⟨i, hi, rfl, hrow⟩ := hrel
    clear H0
    have HR := Lib.hid hrow
    clear hrow
    by_cases hlt : i < k
    · obtain ⟨x, y, hx, hy, hs⟩ := HG.out i hlt
      obtain ⟨u, hu⟩ : ∃ u, u = a + i := ⟨_, rfl⟩
      obtain ⟨v, hv⟩ : ∃ v, v = b + i := ⟨_, rfl⟩
      rw [← hu] at hx hs
      rw [← hv] at hy hs
      have HX := Lib.hid hx
      have HY := Lib.hid hy
      have HS := Lib.hid hs
      have hun : u < n := by omega
      have hvn : v < n := by omega
      have hwu : IntKind.i64.wrap ((a : Int) + (i : Int)) = (u : Int) := by rw [IntWalk.i64_in _ (by omega)]; omega
      have hwv : IntKind.i64.wrap ((b : Int) + (i : Int)) = (v : Int) := by rw [IntWalk.i64_in _ (by omega)]; omega
      have huv : u ≠ v := by omega
      have hu0 : (0 : Int) ≤ (u : Int) := by omega
      have hv0 : (0 : Int) ≤ (v : Int) := by omega
      have hun' : (u : Int) < (n : Int) := by omega
      have hvn' : (v : Int) < (n : Int) := by omega
      have hlt' : (i : Int) < (k : Int) := by omega
      have hk64 : k ≤ 64 := by omega
      clear hx hy hs hu hv hab hlen2
      obtain ⟨xp, xk, xs⟩ := x
      obtain ⟨yp, yk, ys⟩ := y
      obtain ⟨⟨c0, c1, c2⟩, ⟨c3, c4, c5⟩, hfr⟩ : (wr.cell? ⟨g, u * 3, none⟩ = some (.int .i64 xp) ∧ wr.cell? ⟨g, u * 3 + 1, none⟩ = some (.int .i64 xk) ∧ wr.cell? ⟨g, u * 3 + 2, none⟩ = some (.int .i64 xs)) ∧ (wr.cell? ⟨g, v * 3, none⟩ = some (.int .i64 yp) ∧ wr.cell? ⟨g, v * 3 + 1, none⟩ = some (.int .i64 yk) ∧ wr.cell? ⟨g, v * 3 + 2, none⟩ = some (.int .i64 ys)) ∧ ∀ j, wr.frozen? ⟨g, j, none⟩ = false := ⟨HR.out.cell HX.out, HR.out.cell HY.out, HR.out.frozen⟩
      clear HG
      go_wp2_with fail
      go_region
      all_goals
        have hT := ((HR.out.put hun yp yk ys).put hvn xp xk xs).drew
        rw [HS.out] at hT
        have HT := Lib.hid hT
        clear hT c0 c1 c2 c3 c4 c5 hfr
        go_wp2_with fail
        go_roundw
        case rel => exact ⟨i + 1, hlt, by go_num, HT.out⟩
        case measure => simp [intOf]; omega
    · have hie : i = k := by omega
      have hlt' : ¬ ((i : Int) < (k : Int)) := by omega
      have HE2 : Hid (JRow B g n cap W0 wr (A ++ Q ++ M ++ P ++ C)) := by have := HR.out; rw [hie, HE.out] at this; exact this
      clear hie
      go_wp2_with fail
      go_end0
      exact ⟨⟨_, rfl⟩, by simpa using HE2.out⟩
theorem isNaN_any (a : Int) (w : World) : Calls Tryz.prog 82 #[.int .i64 a] w fun e w' => e = .returned (.bool false) ∧ w = w' := by
  go_enter Tryz.func82, Tryz.ntmps82
  go_wp2
  go_ret
  simp
theorem compare_any (a b : Int) (w : World) : Calls Tryz.prog 53 #[.int .i64 a, .int .i64 b] w fun e w' => e = .returned (.int .i64 (cmpI a b)) ∧ w = w' := by
  by_cases h1 : a < b
  · have HC : Hid (cmpI a b = -1) := if_pos h1
    go_enter Tryz.func53, Tryz.ntmps53
    go_wp2_with (go_at_call 82; refine (isNaN_any _ _).mono ?_; rintro e w' ⟨rfl, rfl⟩)
    go_ret
    exact ⟨by rw [HC.out]; rfl, rfl⟩
  · by_cases h2 : b < a
    · have HC : Hid (cmpI a b = 1) := by show _ = _; unfold cmpI; rw [if_neg h1, if_pos h2]
      go_enter Tryz.func53, Tryz.ntmps53
      go_wp2_with (go_at_call 82; refine (isNaN_any _ _).mono ?_; rintro e w' ⟨rfl, rfl⟩)
      go_ret
      exact ⟨by rw [HC.out]; rfl, rfl⟩
    · have HC : Hid (cmpI a b = 0) := by show _ = _; unfold cmpI; rw [if_neg h1, if_neg h2]
      go_enter Tryz.func53, Tryz.ntmps53
      go_wp2_with (go_at_call 82; refine (isNaN_any _ _).mono ?_; rintro e w' ⟨rfl, rfl⟩)
      go_ret
      exact ⟨by rw [HC.out]; rfl, rfl⟩
def orI (x y : Int) : Int := if x = 0 then y else x
set_option maxRecDepth 100000 in
set_option maxHeartbeats 1000000 in
theorem or_any (x y : Int) (w : World) (b : Nat) (t : TypeId) (h : w.heap[b]? = some (.cells #[.int .i64 x, .int .i64 y] t)) : Calls Tryz.prog 52 #[.slice (some ⟨b, 0, none⟩) 2 2] w fun e w' => e = .returned (.int .i64 (orI x y)) ∧ w = w' := by
  have c0 := cell_of_row w b 0 _ _ _ h
  have c1 := cell_of_row w b 1 _ _ _ h
  simp at c0 c1
  clear h
  obtain ⟨z, hz⟩ : ∃ z, z = orI x y := ⟨_, rfl⟩
  rw [← hz]
  have HZ : Hid (z = if x = 0 then y else x) := by show _ = _; rw [hz]; rfl
  clear hz
  by_cases hx : x = 0
  · have HX := Lib.hid hx
    have hxb : (x != 0) = false := by simp [hx]
    clear hx
    go_enter Tryz.func52, Tryz.ntmps52
    go_wp2_with fail
    go_loop [8] (fun iv => ∃ i : Nat, i ≤ 2 ∧ iv = .int .i64 (i : Int) ∧ Hid (i = 2 → y = 0)) (fun iv => 2 - (intOf iv).toNat)
    case atStart => exact ⟨0, by omega, rfl, fun h => absurd h (by decide)⟩
    case round =>
      obtain ⟨i, hi, rfl, HI⟩ := hrel
      rcases (by omega : i = 0 ∨ i = 1 ∨ i = 2) with rfl | rfl | rfl
      · go_wp2_with fail
        go_round
        case rel => exact ⟨1, by omega, rfl, fun h => absurd h (by decide)⟩
        case measure => simp [intOf]
      · by_cases hy : y = 0
        · have HY := Lib.hid hy
          have hyb : (y != 0) = false := by simp [hy]
          clear hy
          go_wp2_with fail
          go_round
          case rel => exact ⟨2, by omega, rfl, fun _ => HY.out⟩
          case measure => simp [intOf]
        · have hyb : (y != 0) = true := by simp [hy]
          clear hy
          go_wp2_with fail
          go_ret
          exact ⟨by rw [HZ.out, if_pos HX.out]; rfl, rfl⟩
      · go_wp2_with fail
        go_ret
        exact ⟨by rw [HZ.out, if_pos HX.out, HI.out trivial]; rfl, rfl⟩
  · have hxb : (x != 0) = true := by simp [hx]
    have HX := Lib.hid hx
    clear hx
    go_enter Tryz.func52, Tryz.ntmps52
    go_wp2_with fail
    go_loop [8] (fun iv => iv = .int .i64 0) (fun iv => 0)
    case atStart => rfl
    case round =>
      subst hrel
      go_wp2_with fail
      go_ret
      exact ⟨by rw [HZ.out, if_neg HX.out]; rfl, rfl⟩
theorem cmpJ_eq (x y : JobD) : cmpJ x y = orI (cmpI x.press y.press) (cmpI x.start y.start) := rfl
set_option maxRecDepth 100000 in
set_option maxHeartbeats 1000000 in
theorem sorted1_any (x y : JobD) (w : World) : Calls Tryz.prog 51 #[JobV x, JobV y] w fun e w' => e = .returned (.int .i64 (cmpJ x y)) ∧ Below w.heap.size w w' := by
  rw [cmpJ_eq]
  obtain ⟨xp, xk, xs⟩ := x
  obtain ⟨yp, yk, ys⟩ := y
  unfold JobV
  simp only []
  obtain ⟨p, hp⟩ : ∃ p, p = cmpI xp yp := ⟨_, rfl⟩
  obtain ⟨q, hq⟩ : ∃ q, q = cmpI xs ys := ⟨_, rfl⟩
  rw [← hp, ← hq]
  have HC1 := Lib.hid (compare_any xp yp)
  have HC2 := Lib.hid (compare_any xs ys)
  rw [← hp] at HC1
  rw [← hq] at HC2
  clear hp hq
  obtain ⟨W, hW⟩ : ∃ W, W = (w.alloc (.cells #[.int .i64 xp, .int .i64 xk, .int .i64 xs] 79)).alloc (.cells #[.int .i64 yp, .int .i64 yk, .int .i64 ys] 79) := ⟨_, rfl⟩
  have hb : Below w.heap.size w W := by rw [hW]; exact ((Below.refl _ w).alloc (Nat.le_refl _) _).alloc (by simp) _
  have m1 : W.heap[w.heap.size]? = some (.cells #[.int .i64 xp, .int .i64 xk, .int .i64 xs] 79) := by
    rw [hW]; exact (((Below.refl _ (w.alloc (.cells #[.int .i64 xp, .int .i64 xk, .int .i64 xs] 79))).alloc (Nat.le_refl _) _).block _ (by simp)).trans (heap_alloc_new w _)
  have m2 : W.heap[w.heap.size + 1]? = some (.cells #[.int .i64 yp, .int .i64 yk, .int .i64 ys] 79) := by
    have := heap_alloc_new (w.alloc (.cells #[.int .i64 xp, .int .i64 xk, .int .i64 xs] 79)) (.cells #[.int .i64 yp, .int .i64 yk, .int .i64 ys] 79)
    rw [hW]; simpa using this
  have hsz : W.heap.size = w.heap.size + 2 := by rw [hW]; simp
  have HS : Hid (∀ w', Below W.heap.size W w' → (w'.cell? ⟨w.heap.size, 0, none⟩ = some (.int .i64 xp) ∧ w'.cell? ⟨w.heap.size, 2, none⟩ = some (.int .i64 xs)) ∧ w'.cell? ⟨w.heap.size + 1, 0, none⟩ = some (.int .i64 yp) ∧ w'.cell? ⟨w.heap.size + 1, 2, none⟩ = some (.int .i64 ys)) := fun w' h => by
    have k1 := (h.block _ (by omega)).trans m1
    have k2 := (h.block _ (by omega)).trans m2
    exact ⟨⟨cell_of_row w' _ 0 _ _ _ k1, cell_of_row w' _ 2 _ _ _ k1⟩, cell_of_row w' _ 0 _ _ _ k2, cell_of_row w' _ 2 _ _ _ k2⟩
  have HB := Lib.hid hb
  have HW := Lib.hid hW
  clear hb m1 m2 hsz hW
  go_enter Tryz.func51, Tryz.ntmps51
  go_wp2_with fail
  rw [← HW.out]
  have HBD : Hid (Below W.heap.size W W.drew) := (Below.refl _ W).drew
  refine seq_start (S := fun w' => (w'.cell? ⟨w.heap.size, 0, none⟩ = some (.int .i64 xp) ∧ w'.cell? ⟨w.heap.size, 2, none⟩ = some (.int .i64 xs)) ∧ w'.cell? ⟨w.heap.size + 1, 0, none⟩ = some (.int .i64 yp) ∧ w'.cell? ⟨w.heap.size + 1, 2, none⟩ = some (.int .i64 ys)) (by kernel_rfl) (by kernel_rfl) (by exact HS.out _ HBD.out) ?_
  repeat (first
    | (refine seq_take0 (v := ?_) ?_ (fun _ _ _ h => h) (by kernel_rfl) ?_ ?_; rotate_left; (focus rfl); (focus (intro w' hSw; (try dsimp only at hSw); go_simp; (try with_reducible rfl); done)); (try simp only [Act.put, List.setIfInBounds_toArray, List.set_cons_zero, List.set_cons_succ]))
    | (refine seq_takeG (v := ?_) (g := ?_) (d := ?_) (b := ?_) (u := ?_) ?_ ?_ ?_ ?_ (fun _ _ _ h => h) (by kernel_rfl) ?_ ?_; rotate_left 5; (focus rfl); (focus rfl); (focus rfl); (focus (first | rfl | (go_simp; done))); (focus (intro w' hSw; (try dsimp only at hSw); go_simp; (try with_reducible rfl); done)); (try simp only [Act.put, List.setIfInBounds_toArray, List.set_cons_zero, List.set_cons_succ]))
    | (refine seq_skipG (g := ?_) (d := ?_) (b := ?_) (u := ?_) ?_ ?_ ?_ ?_ (fun _ _ _ h => h) (by kernel_rfl) ?_; rotate_left 4; (focus rfl); (focus rfl); (focus rfl); (focus (first | rfl | (go_simp; done))); (try simp only [Act.put, List.setIfInBounds_toArray, List.set_cons_zero, List.set_cons_succ])))
  repeat (refine seq_swap ?_; first
    | (refine seq_take0 (v := ?_) ?_ (fun _ _ _ h => h) (by kernel_rfl) ?_ ?_; rotate_left; (focus rfl); (focus (intro w' hSw; (try dsimp only at hSw); go_simp; (try with_reducible rfl); done)); (try simp only [Act.put, List.setIfInBounds_toArray, List.set_cons_zero, List.set_cons_succ]))
    | (refine seq_takeG (v := ?_) (g := ?_) (d := ?_) (b := ?_) (u := ?_) ?_ ?_ ?_ ?_ (fun _ _ _ h => h) (by kernel_rfl) ?_ ?_; rotate_left 5; (focus rfl); (focus rfl); (focus rfl); (focus (first | rfl | (go_simp; done))); (focus (intro w' hSw; (try dsimp only at hSw); go_simp; (try with_reducible rfl); done)); (try simp only [Act.put, List.setIfInBounds_toArray, List.set_cons_zero, List.set_cons_succ]))
    | (refine seq_skipG (g := ?_) (d := ?_) (b := ?_) (u := ?_) ?_ ?_ ?_ ?_ (fun _ _ _ h => h) (by kernel_rfl) ?_; rotate_left 4; (focus rfl); (focus rfl); (focus rfl); (focus (first | rfl | (go_simp; done))); (try simp only [Act.put, List.setIfInBounds_toArray, List.set_cons_zero, List.set_cons_succ])))
  refine seq_op (by kernel_rfl) (by rfl) (fun K hK => ?_)
  go_simp
  refine (HC1.out _).mono ?_
  rintro e' w5 ⟨rfl, rfl⟩
  refine hK.out _ _ (HS.out _ HBD.out) ?_
  clear hK K
  repeat (first
    | (refine seq_take0 (v := ?_) ?_ (fun _ _ _ h => h) (by kernel_rfl) ?_ ?_; rotate_left; (focus rfl); (focus (intro w' hSw; (try dsimp only at hSw); go_simp; (try with_reducible rfl); done)); (try simp only [Act.put, List.setIfInBounds_toArray, List.set_cons_zero, List.set_cons_succ]))
    | (refine seq_takeG (v := ?_) (g := ?_) (d := ?_) (b := ?_) (u := ?_) ?_ ?_ ?_ ?_ (fun _ _ _ h => h) (by kernel_rfl) ?_ ?_; rotate_left 5; (focus rfl); (focus rfl); (focus rfl); (focus (first | rfl | (go_simp; done))); (focus (intro w' hSw; (try dsimp only at hSw); go_simp; (try with_reducible rfl); done)); (try simp only [Act.put, List.setIfInBounds_toArray, List.set_cons_zero, List.set_cons_succ]))
    | (refine seq_skipG (g := ?_) (d := ?_) (b := ?_) (u := ?_) ?_ ?_ ?_ ?_ (fun _ _ _ h => h) (by kernel_rfl) ?_; rotate_left 4; (focus rfl); (focus rfl); (focus rfl); (focus (first | rfl | (go_simp; done))); (try simp only [Act.put, List.setIfInBounds_toArray, List.set_cons_zero, List.set_cons_succ])))
  repeat (refine seq_swap ?_; first
    | (refine seq_take0 (v := ?_) ?_ (fun _ _ _ h => h) (by kernel_rfl) ?_ ?_; rotate_left; (focus rfl); (focus (intro w' hSw; (try dsimp only at hSw); go_simp; (try with_reducible rfl); done)); (try simp only [Act.put, List.setIfInBounds_toArray, List.set_cons_zero, List.set_cons_succ]))
    | (refine seq_takeG (v := ?_) (g := ?_) (d := ?_) (b := ?_) (u := ?_) ?_ ?_ ?_ ?_ (fun _ _ _ h => h) (by kernel_rfl) ?_ ?_; rotate_left 5; (focus rfl); (focus rfl); (focus rfl); (focus (first | rfl | (go_simp; done))); (focus (intro w' hSw; (try dsimp only at hSw); go_simp; (try with_reducible rfl); done)); (try simp only [Act.put, List.setIfInBounds_toArray, List.set_cons_zero, List.set_cons_succ]))
    | (refine seq_skipG (g := ?_) (d := ?_) (b := ?_) (u := ?_) ?_ ?_ ?_ ?_ (fun _ _ _ h => h) (by kernel_rfl) ?_; rotate_left 4; (focus rfl); (focus rfl); (focus rfl); (focus (first | rfl | (go_simp; done))); (try simp only [Act.put, List.setIfInBounds_toArray, List.set_cons_zero, List.set_cons_succ])))
  refine seq_op (by kernel_rfl) (by rfl) (fun K hK => ?_)
  go_simp
  refine (HC2.out _).mono ?_
  rintro e' w5 ⟨rfl, rfl⟩
  refine hK.out _ _ (HS.out _ HBD.out) ?_
  clear hK K
  repeat (first
    | (refine seq_take0 (v := ?_) ?_ (fun _ _ _ h => h) (by kernel_rfl) ?_ ?_; rotate_left; (focus rfl); (focus (intro w' hSw; (try dsimp only at hSw); go_simp; (try with_reducible rfl); done)); (try simp only [Act.put, List.setIfInBounds_toArray, List.set_cons_zero, List.set_cons_succ]))
    | (refine seq_takeG (v := ?_) (g := ?_) (d := ?_) (b := ?_) (u := ?_) ?_ ?_ ?_ ?_ (fun _ _ _ h => h) (by kernel_rfl) ?_ ?_; rotate_left 5; (focus rfl); (focus rfl); (focus rfl); (focus (first | rfl | (go_simp; done))); (focus (intro w' hSw; (try dsimp only at hSw); go_simp; (try with_reducible rfl); done)); (try simp only [Act.put, List.setIfInBounds_toArray, List.set_cons_zero, List.set_cons_succ]))
    | (refine seq_skipG (g := ?_) (d := ?_) (b := ?_) (u := ?_) ?_ ?_ ?_ ?_ (fun _ _ _ h => h) (by kernel_rfl) ?_; rotate_left 4; (focus rfl); (focus rfl); (focus rfl); (focus (first | rfl | (go_simp; done))); (try simp only [Act.put, List.setIfInBounds_toArray, List.set_cons_zero, List.set_cons_succ])))
  repeat (refine seq_swap ?_; first
    | (refine seq_take0 (v := ?_) ?_ (fun _ _ _ h => h) (by kernel_rfl) ?_ ?_; rotate_left; (focus rfl); (focus (intro w' hSw; (try dsimp only at hSw); go_simp; (try with_reducible rfl); done)); (try simp only [Act.put, List.setIfInBounds_toArray, List.set_cons_zero, List.set_cons_succ]))
    | (refine seq_takeG (v := ?_) (g := ?_) (d := ?_) (b := ?_) (u := ?_) ?_ ?_ ?_ ?_ (fun _ _ _ h => h) (by kernel_rfl) ?_ ?_; rotate_left 5; (focus rfl); (focus rfl); (focus rfl); (focus (first | rfl | (go_simp; done))); (focus (intro w' hSw; (try dsimp only at hSw); go_simp; (try with_reducible rfl); done)); (try simp only [Act.put, List.setIfInBounds_toArray, List.set_cons_zero, List.set_cons_succ]))
    | (refine seq_skipG (g := ?_) (d := ?_) (b := ?_) (u := ?_) ?_ ?_ ?_ ?_ (fun _ _ _ h => h) (by kernel_rfl) ?_; rotate_left 4; (focus rfl); (focus rfl); (focus rfl); (focus (first | rfl | (go_simp; done))); (try simp only [Act.put, List.setIfInBounds_toArray, List.set_cons_zero, List.set_cons_succ])))
  have HBE : Hid (Below W.heap.size W (W.alloc (.cells #[.int .i64 p, .int .i64 q] 3)).drew) := ((Below.refl _ W).alloc (Nat.le_refl _) _).drew
  refine seq_op (by kernel_rfl) (by rfl) (fun K hK => ?_)
  go_simp
  refine hK.out _ _ (HS.out _ HBE.out) ?_
  clear hK K
  repeat (first
    | (refine seq_take0 (v := ?_) ?_ (fun _ _ _ h => h) (by kernel_rfl) ?_ ?_; rotate_left; (focus rfl); (focus (intro w' hSw; (try dsimp only at hSw); go_simp; (try with_reducible rfl); done)); (try simp only [Act.put, List.setIfInBounds_toArray, List.set_cons_zero, List.set_cons_succ]))
    | (refine seq_takeG (v := ?_) (g := ?_) (d := ?_) (b := ?_) (u := ?_) ?_ ?_ ?_ ?_ (fun _ _ _ h => h) (by kernel_rfl) ?_ ?_; rotate_left 5; (focus rfl); (focus rfl); (focus rfl); (focus (first | rfl | (go_simp; done))); (focus (intro w' hSw; (try dsimp only at hSw); go_simp; (try with_reducible rfl); done)); (try simp only [Act.put, List.setIfInBounds_toArray, List.set_cons_zero, List.set_cons_succ]))
    | (refine seq_skipG (g := ?_) (d := ?_) (b := ?_) (u := ?_) ?_ ?_ ?_ ?_ (fun _ _ _ h => h) (by kernel_rfl) ?_; rotate_left 4; (focus rfl); (focus rfl); (focus rfl); (focus (first | rfl | (go_simp; done))); (try simp only [Act.put, List.setIfInBounds_toArray, List.set_cons_zero, List.set_cons_succ])))
  refine seq_op (by kernel_rfl) (by rfl) (fun K hK => ?_)
  go_simp
  refine (or_any p q (W.alloc (.cells #[.int .i64 p, .int .i64 q] 3)).drew _ 3 (show (W.alloc (.cells #[.int .i64 p, .int .i64 q] 3)).heap[W.heap.size]? = _ from heap_alloc_new W _)).mono ?_
  rintro e' w5 ⟨rfl, rfl⟩
  refine hK.out _ _ (HS.out _ HBE.out) ?_
  clear hK K
  repeat (first
    | (refine seq_take0 (v := ?_) ?_ (fun _ _ _ h => h) (by kernel_rfl) ?_ ?_; rotate_left; (focus rfl); (focus (intro w' hSw; (try dsimp only at hSw); go_simp; (try with_reducible rfl); done)); (try simp only [Act.put, List.setIfInBounds_toArray, List.set_cons_zero, List.set_cons_succ]))
    | (refine seq_takeG (v := ?_) (g := ?_) (d := ?_) (b := ?_) (u := ?_) ?_ ?_ ?_ ?_ (fun _ _ _ h => h) (by kernel_rfl) ?_ ?_; rotate_left 5; (focus rfl); (focus rfl); (focus rfl); (focus (first | rfl | (go_simp; done))); (focus (intro w' hSw; (try dsimp only at hSw); go_simp; (try with_reducible rfl); done)); (try simp only [Act.put, List.setIfInBounds_toArray, List.set_cons_zero, List.set_cons_succ]))
    | (refine seq_skipG (g := ?_) (d := ?_) (b := ?_) (u := ?_) ?_ ?_ ?_ ?_ (fun _ _ _ h => h) (by kernel_rfl) ?_; rotate_left 4; (focus rfl); (focus rfl); (focus rfl); (focus (first | rfl | (go_simp; done))); (try simp only [Act.put, List.setIfInBounds_toArray, List.set_cons_zero, List.set_cons_succ])))
  refine seq_done (by kernel_rfl) ?_
  go_wp2_with fail
  go_ret
  exact ⟨rfl, HB.out.trans (HBE.out.mono HB.out.size)⟩
set_option maxRecDepth 100000 in
set_option maxHeartbeats 2000000 in
theorem rotate_any (B g n cap : Nat) (A P Q C : List JobD) (a m b : Nat) (cv : Value) (W0 w : World) (h : JRow B g n cap W0 w (A ++ P ++ Q ++ C)) (ha : a = A.length) (hm : m = A.length + P.length) (hb : b = m + Q.length) (hp : 1 ≤ P.length) (hq : 1 ≤ Q.length) (hn : n ≤ 64) :
    Calls Tryz.prog 128 #[.slice (some ⟨g, 0, none⟩) n cap, .int .i64 (a : Int), .int .i64 (m : Int), .int .i64 (b : Int), cv] w fun e w' => (∃ v, e = .returned v) ∧ JRow B g n cap W0 w' (A ++ Q ++ P ++ C) := by
  have hlen := h.len
  have hbn : b ≤ n := by simp at hlen; omega
  have hr0 := RotInv.start A P Q C
  rw [← hm] at hr0
  obtain ⟨T, hT⟩ : ∃ T, T = A ++ Q ++ P ++ C := ⟨_, rfl⟩
  obtain ⟨l0, hl0⟩ : ∃ l, l = A ++ P ++ Q ++ C := ⟨_, rfl⟩
  obtain ⟨i0, hi0⟩ : ∃ i, i = P.length := ⟨_, rfl⟩
  obtain ⟨j0, hj0⟩ : ∃ i, i = Q.length := ⟨_, rfl⟩
  rw [← hT, ← hl0, ← hi0, ← hj0] at hr0
  rw [← hl0] at h
  rw [← hT]
  have HR0 := Lib.hid hr0
  have H0 := Lib.hid h
  have hma : (m : Int) - (a : Int) = (i0 : Int) := by omega
  have hbm : (b : Int) - (m : Int) = (j0 : Int) := by omega
  have hi1 : 1 ≤ i0 := by omega
  have hj1 : 1 ≤ j0 := by omega
  have hjb : m + j0 ≤ n := by omega
  have him : i0 ≤ m := by omega
  clear h hr0 hT hl0 hlen hm hb ha hp hq hi0 hj0
  go_enter Tryz.func128, Tryz.ntmps128
  go_wp2_with fail
  go_loopw [10, 11] (fun iv jv wr => ∃ i j l, 1 ≤ i ∧ 1 ≤ j ∧ i ≤ m ∧ m + j ≤ n ∧ iv = .int .i64 ((i : Nat) : Int) ∧ jv = .int .i64 ((j : Nat) : Int) ∧ RotInv T m i j l ∧ JRow B g n cap W0 wr l) (fun iv jv _ => (intOf iv).toNat + (intOf jv).toNat)
  case atStart => exact ⟨i0, j0, l0, hi1, hj1, him, hjb, rfl, rfl, HR0.out, H0.out⟩
  case round =>
    clear H0 HR0 hma hbm hi1 hj1 hjb him
    obtain ⟨i, j, l, hi1, hj1, him, hjn, rfl, rfl, hri, hrow⟩ := hrel
    have HRI := Lib.hid hri
    have HROW := Lib.hid hrow
    clear hri hrow
    have e1 : (m : Int) - (i : Int) = ((m - i : Nat) : Int) := by omega
    have E1 := Lib.hid e1
    clear e1
    by_cases hij : i = j
    · subst hij
      obtain ⟨A', P', M', Q', C', h1, h2, h3, h4, h5, h6⟩ := HRI.out.last
      have HC : Hid (Calls Tryz.prog 135 #[.slice (some ⟨g, 0, none⟩) n cap, .int .i64 ((m : Int) - (i : Int)), .int .i64 (m : Int), .int .i64 (i : Int), cv] wr fun e w' => (∃ v, e = .returned v) ∧ JRow B g n cap W0 w' T) := by
        have hr := HROW.out
        rw [h1] at hr
        rw [h6, E1.out]
        exact swapRange_any B g n cap A' P' M' Q' C' _ _ _ cv W0 wr hr h2.symm h5.symm h3 h4 hn
      clear h1 h2 h3 h4 h5 h6
      go_wp2_with fail
      refine HC.out.mono ?_
      rintro e w5 ⟨⟨v, rfl⟩, hT⟩
      have HT := Lib.hid hT
      clear hT
      go_wp2_with fail
      go_end0
      exact ⟨⟨_, rfl⟩, HT.out⟩
    · have hne : ((i : Int) == (j : Int)) = false := by simp; omega
      have hne' : ((i : Int) != (j : Int)) = true := by simp; omega
      by_cases hlt : j < i
      · have hlt' : (j : Int) < (i : Int) := by omega
        obtain ⟨A', P', M', Q', C', h1, h2, h3, h4, h5, h6⟩ := HRI.out.left hlt
        have HC : Hid (Calls Tryz.prog 135 #[.slice (some ⟨g, 0, none⟩) n cap, .int .i64 ((m : Int) - (i : Int)), .int .i64 (m : Int), .int .i64 (j : Int), cv] wr fun e w' => (∃ v, e = .returned v) ∧ JRow B g n cap W0 w' (A' ++ Q' ++ M' ++ P' ++ C')) := by
          have hr := HROW.out
          rw [h1] at hr
          rw [E1.out]
          exact swapRange_any B g n cap A' P' M' Q' C' _ _ _ cv W0 wr hr h2.symm h5.symm h3 h4 hn
        have HN := Lib.hid h6
        have e2 : (i : Int) - (j : Int) = ((i - j : Nat) : Int) := by omega
        have E2 := Lib.hid e2
        clear h1 h2 h3 h4 h5 h6 e2
        go_wp2_with fail
        refine HC.out.mono ?_
        rintro e w5 ⟨⟨v, rfl⟩, hT⟩
        have HT := Lib.hid hT
        clear hT
        go_wp2_with fail
        go_roundw
        case rel => exact ⟨i - j, j, _, by omega, hj1, by omega, hjn, by rw [E2.out], rfl, HN.out, HT.out⟩
        case measure => simp [intOf]; omega
      · have hlt' : ¬ ((j : Int) < (i : Int)) := by omega
        have hlt2 : i < j := by omega
        obtain ⟨A', P', M', Q', C', h1, h2, h3, h4, h5, h6⟩ := HRI.out.right hlt2
        have e3 : (m : Int) + (j : Int) - (i : Int) = ((m + j - i : Nat) : Int) := by omega
        have HC : Hid (Calls Tryz.prog 135 #[.slice (some ⟨g, 0, none⟩) n cap, .int .i64 ((m : Int) - (i : Int)), .int .i64 ((m : Int) + (j : Int) - (i : Int)), .int .i64 (i : Int), cv] wr fun e w' => (∃ v, e = .returned v) ∧ JRow B g n cap W0 w' (A' ++ Q' ++ M' ++ P' ++ C')) := by
          have hr := HROW.out
          rw [h1] at hr
          rw [E1.out, e3]
          exact swapRange_any B g n cap A' P' M' Q' C' _ _ _ cv W0 wr hr h2.symm h5.symm h3 h4 hn
        have HN := Lib.hid h6
        have e2 : (j : Int) - (i : Int) = ((j - i : Nat) : Int) := by omega
        have E2 := Lib.hid e2
        clear h1 h2 h3 h4 h5 h6 e2 e3
        go_wp2_with fail
        refine HC.out.mono ?_
        rintro e w5 ⟨⟨v, rfl⟩, hT⟩
        have HT := Lib.hid hT
        clear hT
        go_wp2_with fail
        go_roundw
        case rel => exact ⟨i, j - i, _, hi1, by omega, him, by omega, rfl, by rw [E2.out], HN.out, HT.out⟩
        case measure => simp [intOf]; omega
end Go.Proofs.YtogccnngdfancaaGreat
