/- The walk of Gap. -/
import Derived.Test.YtlanephpmoajiaaCount
import Derived.BigQuiet
import Derived.Deep.QuietTactic
import Derived.StillTailTactics
import Derived.IntWalk
namespace Go.Proofs.Ytlanephpmoajiaa
open Go.RowKit
set_option linter.unusedVariables false
set_option linter.unusedSimpArgs false
/-- What Gap leaves. -/
def GapPost (w : World) (s : StockD) (l : List ShiftD) (seen : List StockD) (e : Ending) (w' : World) : Prop :=
  e = .returned (.tuple #[.int .i64 (gapI s l seen), .agg #[.int .i64 (gapD s l seen).green, .int .i64 (gapD s l seen).cured], .int .i64 (gapErr s l seen)]) ∧ Below w.heap.size w w'
structure GapW (T : TypeId) (w : World) (g c : Int) (wr : World) : Prop where
  box : wr.heap[w.heap.size]? = some (.cells #[.int .i64 g, .int .i64 c] T)
  res : wr.heap[w.heap.size + 1]? = some (.cells #[.int .i64 0, .int .i64 0] T)
  bel : Below w.heap.size w wr
section
variable {T : TypeId} {w wr w2 : World} {g c : Int}
theorem GapW.lt (h : GapW T w g c wr) : w.heap.size + 1 < wr.heap.size := (Array.getElem?_eq_some_iff.1 h.res).1
theorem GapW.below (h : GapW T w g c wr) (hb : Below wr.heap.size wr w2) : GapW T w g c w2 :=
  ⟨(hb.block _ (by have := h.lt; omega)).trans h.box, (hb.block _ h.lt).trans h.res, h.bel.trans (hb.mono h.bel.size)⟩
theorem gapW_new (T : TypeId) (w : World) (g c : Int) : GapW T w g c ((w.alloc (.cells #[.int .i64 g, .int .i64 c] T)).alloc (.cells #[.int .i64 0, .int .i64 0] T)) :=
  ⟨by rw [Below.heap_alloc _ _ _ (by simp)]; exact heap_alloc_new w _, by have := heap_alloc_new (w.alloc (.cells #[.int .i64 g, .int .i64 c] T)) (.cells #[.int .i64 0, .int .i64 0] T); simpa using this, ((Below.refl _ w).alloc (Nat.le_refl _) _).alloc (by simp) _⟩
theorem GapW.store (h : GapW T w g c wr) (g' c' : Int) : GapW T w g' c' ((wr.setCell ⟨w.heap.size, 0, none⟩ (.int .i64 g')).setCell ⟨w.heap.size, 1, none⟩ (.int .i64 c')) := by
  have hk : Keep (fun k => k < wr.heap.size ∧ k ≠ w.heap.size) wr ((wr.setCell ⟨w.heap.size, 0, none⟩ (.int .i64 g')).setCell ⟨w.heap.size, 1, none⟩ (.int .i64 c')) :=
    (((Keep.refl _ wr).setCell (fun h => h.2 rfl) _).setCell (fun h => h.2 rfl) _)
  exact ⟨heap_setCell_same _ _ 1 _ T _ (heap_setCell_same wr _ 0 _ T _ h.box), (hk.block _ ⟨h.lt, by omega⟩).trans h.res, (h.bel.setCell (p := ⟨w.heap.size, 0, none⟩) (Nat.le_refl _) _).setCell (p := ⟨w.heap.size, 1, none⟩) (Nat.le_refl _) _⟩
/-- The result's cells are written. -/
theorem GapW.out (h : GapW T w g c wr) (g' c' : Int) : ((wr.setCell ⟨w.heap.size + 1, 0, none⟩ (.int .i64 g')).setCell ⟨w.heap.size + 1, 1, none⟩ (.int .i64 c')).heap[w.heap.size + 1]? = some (.cells #[.int .i64 g', .int .i64 c'] T) ∧
    Below w.heap.size w ((wr.setCell ⟨w.heap.size + 1, 0, none⟩ (.int .i64 g')).setCell ⟨w.heap.size + 1, 1, none⟩ (.int .i64 c')) :=
  ⟨heap_setCell_same _ _ 1 _ T _ (heap_setCell_same wr _ 0 _ T _ h.res), (h.bel.setCell (p := ⟨w.heap.size + 1, 0, none⟩) (by simp) _).setCell (p := ⟨w.heap.size + 1, 1, none⟩) (by simp) _⟩
end
theorem GapPost.bad {w w' : World} {s : StockD} {l : List ShiftD} {seen : List StockD} {e : Int} (h : gapErr s l seen = e) (h0 : e ≠ 0) (hb : Below w.heap.size w w') : GapPost w s l seen (.returned (.tuple #[.int .i64 0, .agg #[.int .i64 0, .int .i64 0], .int .i64 e])) w' := by
  have h1 : gapI s l seen = 0 := by unfold gapI; rw [h, if_neg h0]
  have h2 : gapD s l seen = ⟨0, 0⟩ := by unfold gapD; rw [h, if_neg h0]
  exact ⟨by rw [h, h1, h2], hb⟩
theorem GapPost.hit {w w' : World} {s : StockD} {l : List ShiftD} {seen : List StockD} {k : Nat} {x : StockD} {g c : Int} (h : gapErr s l seen = 0) (hi : gapIdx s l seen = some k) (hx : seen[k]? = some x) (hs : stAt s l (k + 1) = ⟨g, c⟩) (hb : Below w.heap.size w w') :
    GapPost w s l seen (.returned (.tuple #[.int .i64 k, .agg #[.int .i64 (x.green - g), .int .i64 (x.cured - c)], .int .i64 0])) w' := by
  have h1 : gapI s l seen = k := by unfold gapI; rw [h, if_pos rfl, hi]
  have h2 : gapD s l seen = ⟨x.green - g, x.cured - c⟩ := by unfold gapD; rw [h, if_pos rfl, hi]; simp only [hs, List.getD_eq_getElem?_getD, hx, Option.getD_some]
  exact ⟨by rw [h, h1, h2], hb⟩
theorem GapPost.none {w w' : World} {s : StockD} {l : List ShiftD} {seen : List StockD} (h : gapErr s l seen = 0) (hi : gapIdx s l seen = .none) (hb : Below w.heap.size w w') :
    GapPost w s l seen (.returned (.tuple #[.int .i64 (-1), .agg #[.int .i64 0, .int .i64 0], .int .i64 0])) w' := by
  have h1 : gapI s l seen = -1 := by unfold gapI; rw [h, if_pos rfl, hi]
  have h2 : gapD s l seen = ⟨0, 0⟩ := by unfold gapD; rw [h, if_pos rfl, hi]
  exact ⟨by rw [h, h1, h2], hb⟩
theorem all_take {α : Type} {f : α → Bool} {xs : List α} {k : Nat} {x : α} (h : xs[k]? = some x) : (xs.take (k + 1)).all f = ((xs.take k).all f && f x) := by
  rw [take_snoc? h, List.all_append]; simp
theorem big_cases (n m : Nat) : (64 < n ∧ (64 < n ∨ m ≠ n)) ∨ (n ≤ 64 ∧ ((m : Int) != (n : Int)) = true ∧ (64 < n ∨ m ≠ n)) ∨ (n ≤ 64 ∧ m = n) := by
  rcases Nat.lt_or_ge 64 n with h | h
  · exact .inl ⟨h, .inl h⟩
  · by_cases h2 : m = n
    · exact .inr (.inr ⟨h, h2⟩)
    · exact .inr (.inl ⟨h, by simp; omega, .inr h2⟩)
set_option maxRecDepth 100000 in
set_option maxHeartbeats 4000000 in
theorem pGap_any (v u : Value) (s : StockD) (l : List ShiftD) (seen : List StockD) (S S' : Nat → Prop) (w : World) (hv : RdK 5 shC w S v l) (hu : RdK 2 stC w S' u seen) :
    Calls Try.prog 43 #[.agg #[.int .i64 s.green, .int .i64 s.cured], v, u] w (GapPost w s l seen) := by
  obtain ⟨A, n, cap, rfl, hn, hcap, hmax, hc⟩ := (hv.lt shC_0).open_
  obtain ⟨A', m, cap', rfl, hm, hcap', hmax', hc'⟩ := (hu.lt stC_0).open_
  have HC := Lib.hid hc
  have HC' := Lib.hid hc'
  have HN := Lib.hid hn
  have HM := Lib.hid hm
  obtain ⟨g0, c0⟩ := s
  simp only
  have HG := Lib.hid (gapW_new 84 w g0 c0)
  obtain ⟨W1, hW1⟩ : ∃ W1, W1 = ((w.alloc (.cells #[.int .i64 g0, .int .i64 c0] 84)).alloc (.cells #[.int .i64 0, .int .i64 0] 84)) := ⟨_, rfl⟩
  rw [← hW1] at HG
  have HW1 := Lib.hid hW1
  clear hc hc' hn hm hW1 hv hu
  have D := big_cases n m
  rcases D with ⟨hbig, hd⟩ | ⟨hsm, hne, hd⟩ | ⟨hsm, rfl⟩
  · go_enter Try.func43, Try.ntmps43
    go_wp2_with fail
    rw [← HW1.out]
    have q0 := cell_of_row W1 _ 0 _ _ _ HG.out.res
    have q1 := cell_of_row W1 _ 1 _ _ _ HG.out.res
    exact bodyPost_ret (v := .tuple #[.int .i64 0, .agg #[.int .i64 0, .int .i64 0], .int .i64 4]) (by simp [results, Try.results43, go_sem, q0, q1]) rfl (GapPost.bad (by unfold gapErr; rw [if_pos (by rw [HN.out, HM.out]; exact hd)]) (by decide) HG.out.bel)
  · go_enter Try.func43, Try.ntmps43
    go_wp2_with fail
    rw [← HW1.out]
    have q0 := cell_of_row W1 _ 0 _ _ _ HG.out.res
    have q1 := cell_of_row W1 _ 1 _ _ _ HG.out.res
    exact bodyPost_ret (v := .tuple #[.int .i64 0, .agg #[.int .i64 0, .int .i64 0], .int .i64 4]) (by simp [results, Try.results43, go_sem, q0, q1]) rfl (GapPost.bad (by unfold gapErr; rw [if_pos (by rw [HN.out, HM.out]; exact hd)]) (by decide) HG.out.bel)
  · have hsz : W1.heap.size = w.heap.size + 1 + 1 := by have := HW1.out; rw [this]; simp
    have HAL : Hid (Calls Try.prog 75 #[.slice (some ⟨w.heap.size + 1 + 1, 0, none⟩) 2 2] (W1.alloc (.cells #[.int .i64 g0, .int .i64 c0] 3)) fun e w' => e = .returned (.bool (stOk ⟨g0, c0⟩)) ∧ W1.alloc (.cells #[.int .i64 g0, .int .i64 c0] 3) = w') := by
      have h := allowed_any (.slice (some ⟨W1.heap.size, 0, none⟩) 2 2) [g0, c0] (W1.heap.size ≤ ·) (W1.alloc (.cells #[.int .i64 g0, .int .i64 c0] 3)) (rd_built W1 [g0, c0] 3 (by simp [maxLen]))
      rw [show ([g0, c0] : List Int).all allow = stOk ⟨g0, c0⟩ from by simp [stOk]] at h
      rw [hsz] at h
      exact h
    have x0 := cell_of_row W1 _ 0 _ _ _ HG.out.box
    have x1 := cell_of_row W1 _ 1 _ _ _ HG.out.box
    have HG2 := Lib.hid (HG.out.below ((Below.refl _ W1).alloc (Nat.le_refl _) (.cells #[.int .i64 g0, .int .i64 c0] 3)))
    obtain ⟨W2, hW2⟩ : ∃ W2, W2 = W1.alloc (.cells #[.int .i64 g0, .int .i64 c0] 3) := ⟨_, rfl⟩
    rw [← hW2] at HG2 HAL
    have HW2 := Lib.hid hW2
    clear hsz hW2
    have hm64 : (((m : Nat) : Int) == (m : Int)) = true := by simp
    go_enter Try.func43, Try.ntmps43
    go_wp2_with fail
    rw [← HW1.out]
    go_wp2_with fail
    rw [← HW2.out]
    refine HAL.out.mono ?_
    rintro e w3 ⟨rfl, rfl⟩
    clear x0 x1 hm64
    go_wp2_with fail
    go_loopw [9, 35] (fun ok iv wr => ∃ k : Nat, k ≤ m ∧ iv = .int .i64 k ∧ ok = .bool (stOk ⟨g0, c0⟩ && (l.take k).all shOk) ∧ GapW 84 w g0 c0 wr) (fun _ iv _ => m - (intOf iv).toNat)
    case atStart => exact ⟨0, Nat.zero_le _, rfl, by simp, HG2.out⟩
    case round =>
      clear HG2 HG
      obtain ⟨k, hk, rfl, rfl, hT⟩ := hrel
      by_cases hlt : k < m
      · obtain ⟨b, off, x, rfl, ⟨_, hb⟩, hx, hcell⟩ := HC.out k hlt
        have d0 : wr.cell? ⟨b, off + k * 5, none⟩ = some (.int .i64 x.built) := (hT.bel.cell (p := ⟨b, _, none⟩) hb).trans (hcell 0 _ rfl)
        have d1 : wr.cell? ⟨b, off + k * 5 + 1, none⟩ = some (.int .i64 x.lost) := (hT.bel.cell (p := ⟨b, _, none⟩) hb).trans (hcell 1 _ rfl)
        have d2 : wr.cell? ⟨b, off + k * 5 + 2, none⟩ = some (.int .i64 x.cured) := (hT.bel.cell (p := ⟨b, _, none⟩) hb).trans (hcell 2 _ rfl)
        have d3 : wr.cell? ⟨b, off + k * 5 + 3, none⟩ = some (.int .i64 x.scrapped) := (hT.bel.cell (p := ⟨b, _, none⟩) hb).trans (hcell 3 _ rfl)
        have d4 : wr.cell? ⟨b, off + k * 5 + 4, none⟩ = some (.int .i64 x.shipped) := (hT.bel.cell (p := ⟨b, _, none⟩) hb).trans (hcell 4 _ rfl)
        have HALL := Lib.hid (all_take (f := shOk) hx)
        obtain ⟨a0, a1, a2, a3, a4⟩ := x
        simp only at d0 d1 d2 d3 d4
        obtain ⟨W4, hW4⟩ : ∃ W4, W4 = wr.alloc (.cells #[.int .i64 a0, .int .i64 a1, .int .i64 a2, .int .i64 a3, .int .i64 a4] 96) := ⟨_, rfl⟩
        have hbW4 : Below wr.heap.size wr W4 := by rw [hW4]; exact (Below.refl _ wr).alloc (Nat.le_refl _) _
        have hm := heap_alloc_new wr (.cells #[.int .i64 a0, .int .i64 a1, .int .i64 a2, .int .i64 a3, .int .i64 a4] 96)
        rw [← hW4] at hm
        have HW4 := Lib.hid hW4
        have y0 := cell_of_row W4 _ 0 _ _ _ hm
        have y1 := cell_of_row W4 _ 1 _ _ _ hm
        have y2 := cell_of_row W4 _ 2 _ _ _ hm
        have y3 := cell_of_row W4 _ 3 _ _ _ hm
        have y4 := cell_of_row W4 _ 4 _ _ _ hm
        have HSH := Lib.hid (shAllowed_any ⟨a0, a1, a2, a3, a4⟩ W4)
        obtain ⟨p, hp⟩ : ∃ p, p = shOk ⟨a0, a1, a2, a3, a4⟩ := ⟨_, rfl⟩
        rw [← hp] at HSH HALL
        obtain ⟨t, ht⟩ : ∃ t, t = (stOk ⟨g0, c0⟩ && (l.take k).all shOk) := ⟨_, rfl⟩
        have HNX : Hid ((stOk ⟨g0, c0⟩ && (l.take (k + 1)).all shOk) = (t && p)) := by unfold Hid; rw [HALL.out, ht, Bool.and_assoc]
        rw [← ht]
        have HT := Lib.hid (hT.below hbW4)
        clear hT hm hW4 hp ht HALL hx hcell
        cases t with
        | false =>
          go_wp2_with fail
          rw [← HW4.out]
          go_wp2_with fail
          go_roundw
          case rel => exact ⟨k + 1, by omega, by go_num, by rw [HNX.out]; rfl, HT.out⟩
          case measure => simp [intOf]; omega
        | true =>
          go_wp2_with fail
          rw [← HW4.out]
          go_wp2_with (go_at_call 76; refine HSH.out.mono ?_; rintro e w5 ⟨rfl, hb5⟩)
          go_roundw
          case rel => exact ⟨k + 1, by omega, by go_num, by rw [HNX.out]; rfl, HT.out.below hb5⟩
          case measure => simp [intOf]; omega
      · have hkl : l.take k = l := List.take_of_length_le (by have := HN.out; omega)
        rw [hkl]
        obtain ⟨t, ht⟩ : ∃ t, t = (stOk ⟨g0, c0⟩ && l.all shOk) := ⟨_, rfl⟩
        rw [← ht]
        have HT1 := Lib.hid ht
        have HTW := Lib.hid hT
        clear hkl ht hT
        go_wp2_with fail
        go_loopw [9, 47] (fun ok iv wr => ∃ k : Nat, k ≤ m ∧ iv = .int .i64 k ∧ ok = .bool (t && (seen.take k).all stOk) ∧ GapW 84 w g0 c0 wr) (fun _ iv _ => m - (intOf iv).toNat)
        case atStart => exact ⟨0, Nat.zero_le _, rfl, by simp, HTW.out⟩
        case round =>
          clear HTW
          obtain ⟨k2, hk2, rfl, rfl, hT⟩ := hrel
          by_cases hlt2 : k2 < m
          · obtain ⟨b, off, x, rfl, ⟨_, hb⟩, hx, hcell⟩ := HC'.out k2 hlt2
            have d0 : wr.cell? ⟨b, off + k2 * 2, none⟩ = some (.int .i64 x.green) := (hT.bel.cell (p := ⟨b, _, none⟩) hb).trans (hcell 0 _ rfl)
            have d1 : wr.cell? ⟨b, off + k2 * 2 + 1, none⟩ = some (.int .i64 x.cured) := (hT.bel.cell (p := ⟨b, _, none⟩) hb).trans (hcell 1 _ rfl)
            have HALL := Lib.hid (all_take (f := stOk) hx)
            obtain ⟨a0, a1⟩ := x
            simp only at d0 d1
            obtain ⟨W4, hW4⟩ : ∃ W4, W4 = wr.alloc (.cells #[.int .i64 a0, .int .i64 a1] 84) := ⟨_, rfl⟩
            have hbW4 : Below wr.heap.size wr W4 := by rw [hW4]; exact (Below.refl _ wr).alloc (Nat.le_refl _) _
            have hm := heap_alloc_new wr (.cells #[.int .i64 a0, .int .i64 a1] 84)
            rw [← hW4] at hm
            have y0 := cell_of_row W4 _ 0 _ _ _ hm
            have y1 := cell_of_row W4 _ 1 _ _ _ hm
            have HSH : Hid (Calls Try.prog 75 #[.slice (some ⟨wr.heap.size + 1, 0, none⟩) 2 2] (W4.alloc (.cells #[.int .i64 a0, .int .i64 a1] 3)) fun e w' => e = .returned (.bool (stOk ⟨a0, a1⟩)) ∧ W4.alloc (.cells #[.int .i64 a0, .int .i64 a1] 3) = w') := by
              have h := allowed_any (.slice (some ⟨W4.heap.size, 0, none⟩) 2 2) [a0, a1] (W4.heap.size ≤ ·) (W4.alloc (.cells #[.int .i64 a0, .int .i64 a1] 3)) (rd_built W4 [a0, a1] 3 (by simp [maxLen]))
              rw [show ([a0, a1] : List Int).all allow = stOk ⟨a0, a1⟩ from by simp [stOk]] at h
              rw [show W4.heap.size = wr.heap.size + 1 from by rw [hW4]; simp] at h
              exact h
            have HW4 := Lib.hid hW4
            obtain ⟨p, hp⟩ : ∃ p, p = stOk ⟨a0, a1⟩ := ⟨_, rfl⟩
            rw [← hp] at HSH HALL
            obtain ⟨r, hr⟩ : ∃ r, r = (t && (seen.take k2).all stOk) := ⟨_, rfl⟩
            have HNX : Hid ((t && (seen.take (k2 + 1)).all stOk) = (r && p)) := by unfold Hid; rw [HALL.out, hr, Bool.and_assoc]
            rw [← hr]
            have HT := Lib.hid (hT.below hbW4)
            have HTB := Lib.hid (HT.out.below ((Below.refl _ W4).alloc (Nat.le_refl _) (.cells #[.int .i64 a0, .int .i64 a1] 3)))
            clear hT hm hW4 hp hr HALL hx hcell
            cases r with
            | false =>
              go_wp2_with fail
              rw [← HW4.out]
              go_wp2_with fail
              go_roundw
              case rel => exact ⟨k2 + 1, by omega, by go_num, by rw [HNX.out]; rfl, HT.out⟩
              case measure => simp [intOf]; omega
            | true =>
              go_wp2_with fail
              rw [← HW4.out]
              go_wp2_with (go_at_call 75; refine HSH.out.mono ?_; rintro e w5 ⟨rfl, rfl⟩)
              go_roundw
              case rel => exact ⟨k2 + 1, by omega, by go_num, by rw [HNX.out]; rfl, HTB.out⟩
              case measure => simp [intOf]; omega
          · have hkl : seen.take k2 = seen := List.take_of_length_le (by have := HM.out; omega)
            rw [hkl]
            obtain ⟨r, hr⟩ : ∃ r, r = (t && seen.all stOk) := ⟨_, rfl⟩
            rw [← hr]
            have HOK : Hid (r = gapOk ⟨g0, c0⟩ l seen) := by unfold Hid gapOk; rw [hr, HT1.out]
            have HTW := Lib.hid hT
            clear hkl hr hT
            cases r with
            | false =>
              have q0 := cell_of_row wr _ 0 _ _ _ HTW.out.res
              have q1 := cell_of_row wr _ 1 _ _ _ HTW.out.res
              have f0 := frozen_of_row wr (w.heap.size + 1) 0 _ _ HTW.out.res
              have f1 := frozen_of_row wr (w.heap.size + 1) 1 _ _ HTW.out.res
              go_wp2_with fail
              obtain ⟨o1, o2⟩ := HTW.out.out 0 0
              obtain ⟨w7, hw7⟩ : ∃ w7, w7 = ((wr.setCell ⟨w.heap.size + 1, 0, none⟩ (.int .i64 0)).setCell ⟨w.heap.size + 1, 1, none⟩ (.int .i64 0)) := ⟨_, rfl⟩
              rw [← hw7] at o1 o2 ⊢
              have r0 := cell_of_row w7 _ 0 _ _ _ o1
              have r1 := cell_of_row w7 _ 1 _ _ _ o1
              exact bodyPost_ret (v := .tuple #[.int .i64 0, .agg #[.int .i64 0, .int .i64 0], .int .i64 1]) (by simp [results, Try.results43, go_sem, r0, r1]) rfl (GapPost.bad (by unfold gapErr; rw [if_neg (by have := HN.out; have := HM.out; omega), if_pos HOK.out.symm]) (by decide) o2)
            | true =>
              have HZ : Hid (gapErr ⟨g0, c0⟩ l seen = 0) := by unfold Hid gapErr; rw [if_neg (by have := HN.out; have := HM.out; omega), if_neg (by rw [← HOK.out]; simp)]
              have hst : stOk ⟨g0, c0⟩ = true ∧ (∀ x ∈ l, shOk x = true) ∧ ∀ x ∈ seen, stOk x = true := by
                have := HOK.out
                unfold gapOk at this
                have := this.symm
                simp only [Bool.and_eq_true, List.all_eq_true] at this
                exact ⟨this.1.1, this.1.2, this.2⟩
              have HST := Lib.hid hst
              clear hst
              go_wp2_with fail
              go_loopw [66] (fun iv wr => ∃ k : Nat, k ≤ m ∧ iv = .int .i64 k ∧ GapTo ⟨g0, c0⟩ l seen k ∧ ∃ g c, stAt ⟨g0, c0⟩ l k = ⟨g, c⟩ ∧ GapW 84 w g c wr) (fun iv _ => m - (intOf iv).toNat)
              case atStart => exact ⟨0, Nat.zero_le _, rfl, GapTo.zero _ _ _, g0, c0, rfl, HTW.out⟩
              case round =>
                clear HTW
                obtain ⟨k3, hk3, rfl, hto, g, c, hgc, hT⟩ := hrel
                by_cases hlt3 : k3 < m
                · obtain ⟨b, off, x, rfl, ⟨_, hb⟩, hx, hcell⟩ := HC.out k3 hlt3
                  obtain ⟨b', off', y, rfl, ⟨_, hb'⟩, hy, hcell'⟩ := HC'.out k3 hlt3
                  have d0 : wr.cell? ⟨b, off + k3 * 5, none⟩ = some (.int .i64 x.built) := (hT.bel.cell (p := ⟨b, _, none⟩) hb).trans (hcell 0 _ rfl)
                  have d1 : wr.cell? ⟨b, off + k3 * 5 + 1, none⟩ = some (.int .i64 x.lost) := (hT.bel.cell (p := ⟨b, _, none⟩) hb).trans (hcell 1 _ rfl)
                  have d2 : wr.cell? ⟨b, off + k3 * 5 + 2, none⟩ = some (.int .i64 x.cured) := (hT.bel.cell (p := ⟨b, _, none⟩) hb).trans (hcell 2 _ rfl)
                  have d3 : wr.cell? ⟨b, off + k3 * 5 + 3, none⟩ = some (.int .i64 x.scrapped) := (hT.bel.cell (p := ⟨b, _, none⟩) hb).trans (hcell 3 _ rfl)
                  have d4 : wr.cell? ⟨b, off + k3 * 5 + 4, none⟩ = some (.int .i64 x.shipped) := (hT.bel.cell (p := ⟨b, _, none⟩) hb).trans (hcell 4 _ rfl)
                  have hsh := HST.out.2.1 x (mem_of_get? hx)
                  obtain ⟨⟨e0, e0'⟩, e1, e1'⟩ := stOk_bounds (HST.out.2.2 y (mem_of_get? hy))
                  have hbd := stAt_bounds HST.out.1 (k := k3) (fun j _ z hz => HST.out.2.1 z (mem_of_get? hz)) (by have := HN.out; omega)
                  rw [hgc] at hbd
                  simp only at hbd
                  have hg1 : -1000000000 ≤ g ∧ g ≤ 1000000000 := by omega
                  have hc1 : -1000000000 ≤ c ∧ c ≤ 1000000000 := by omega
                  have hbd' := stAt_bounds HST.out.1 (k := k3 + 1) (fun j _ z hz => HST.out.2.1 z (mem_of_get? hz)) (by have := HN.out; omega)
                  have HSUC := Lib.hid (stAt_succ (s := ⟨g0, c0⟩) hx)
                  rw [hgc] at HSUC
                  obtain ⟨a0, a1, a2, a3, a4⟩ := x
                  obtain ⟨yg, yc⟩ := y
                  simp only at d0 d1 d2 d3 d4 e0 e0' e1 e1'
                  have HAF : Hid (∀ W, Calls Try.prog 77 #[.agg #[.int .i64 g, .int .i64 c], .agg #[.int .i64 a0, .int .i64 a1, .int .i64 a2, .int .i64 a3, .int .i64 a4]] W fun e w' => e = .returned (.agg #[.int .i64 (stAfter ⟨g, c⟩ ⟨a0, a1, a2, a3, a4⟩).green, .int .i64 (stAfter ⟨g, c⟩ ⟨a0, a1, a2, a3, a4⟩).cured]) ∧ Below W.heap.size W w') :=
                    fun W => stAfter_any ⟨g, c⟩ ⟨a0, a1, a2, a3, a4⟩ W hg1 hc1 hsh
                  obtain ⟨g', hg'⟩ : ∃ g', g' = (stAfter ⟨g, c⟩ ⟨a0, a1, a2, a3, a4⟩).green := ⟨_, rfl⟩
                  obtain ⟨c', hc'⟩ : ∃ c', c' = (stAfter ⟨g, c⟩ ⟨a0, a1, a2, a3, a4⟩).cured := ⟨_, rfl⟩
                  rw [← hg', ← hc'] at HAF
                  have hs1 : stAt ⟨g0, c0⟩ l (k3 + 1) = ⟨g', c'⟩ := by rw [HSUC.out, hg', hc']
                  rw [hs1] at hbd'
                  simp only at hbd'
                  obtain ⟨k0, k1, k2, k4⟩ : -1000000000 ≤ g' ∧ g' ≤ 1000000000 ∧ -1000000000 ≤ c' ∧ c' ≤ 1000000000 := by omega
                  have HS1 := Lib.hid hs1
                  have HTO := Lib.hid hto
                  have HY := Lib.hid hy
                  obtain ⟨W4, hW4⟩ : ∃ W4, W4 = wr.alloc (.cells #[.int .i64 a0, .int .i64 a1, .int .i64 a2, .int .i64 a3, .int .i64 a4] 96) := ⟨_, rfl⟩
                  have hbW4 : Below wr.heap.size wr W4 := by rw [hW4]; exact (Below.refl _ wr).alloc (Nat.le_refl _) _
                  have hm := heap_alloc_new wr (.cells #[.int .i64 a0, .int .i64 a1, .int .i64 a2, .int .i64 a3, .int .i64 a4] 96)
                  rw [← hW4] at hm
                  have HW4 := Lib.hid hW4
                  have y0 := cell_of_row W4 _ 0 _ _ _ hm
                  have y1 := cell_of_row W4 _ 1 _ _ _ hm
                  have y2 := cell_of_row W4 _ 2 _ _ _ hm
                  have y3 := cell_of_row W4 _ 3 _ _ _ hm
                  have y4 := cell_of_row W4 _ 4 _ _ _ hm
                  have hT4 := hT.below hbW4
                  have y5 := cell_of_row wr _ 0 _ _ _ hT.box
                  have y6 := cell_of_row wr _ 1 _ _ _ hT.box
                  have y7 : w.heap.size < wr.heap.size := by have := hT.lt; omega
                  have HT := Lib.hid hT4
                  have HCC' := Lib.hid hcell'
                  clear hg' hc' hg1 hc1 hbd hbd' hs1 hto hy hx hcell hcell' hgc hT hT4 hW4 hm hsh
                  go_wp2_with fail
                  rw [← HW4.out]
                  refine (HAF.out _).mono ?_
                  rintro e w5 ⟨rfl, hb5⟩
                  clear y0 y1 y2 y3 y4 y5 y6 y7 d0 d1 d2 d3 d4
                  have hT5 := HT.out.below hb5
                  have q0 := cell_of_row w5 _ 0 _ _ _ hT5.box
                  have q1 := cell_of_row w5 _ 1 _ _ _ hT5.box
                  have f0 := frozen_of_row w5 w.heap.size 0 _ _ hT5.box
                  have f1 := frozen_of_row w5 w.heap.size 1 _ _ hT5.box
                  have hT6 := hT5.store g' c'
                  obtain ⟨w6, hw6⟩ : ∃ w6, w6 = ((w5.setCell ⟨w.heap.size, 0, none⟩ (.int .i64 g')).setCell ⟨w.heap.size, 1, none⟩ (.int .i64 c')) := ⟨_, rfl⟩
                  rw [← hw6] at hT6
                  have r0 := cell_of_row w6 _ 0 _ _ _ hT6.box
                  have r1 := cell_of_row w6 _ 1 _ _ _ hT6.box
                  have r2 : w6.cell? ⟨b', off' + k3 * 2, none⟩ = some (.int .i64 yg) := (hT6.bel.cell (p := ⟨b', _, none⟩) hb').trans (HCC'.out 0 _ rfl)
                  have r3 : w6.cell? ⟨b', off' + k3 * 2 + 1, none⟩ = some (.int .i64 yc) := (hT6.bel.cell (p := ⟨b', _, none⟩) hb').trans (HCC'.out 1 _ rfl)
                  have HW6 := Lib.hid hw6
                  have HT6 := Lib.hid hT6
                  clear hT5 hT6 hw6
                  go_wp2_with fail
                  rw [← HW6.out]
                  have i1 : (k3 : Int) < (m : Int) := by omega
                  have i2 : (0 : Int) ≤ (k3 : Int) := by omega
                  have ED : (yg = g' ∧ yc = c') ∨ ((yg == g') = false) ∨ ((yg == g') = true ∧ (yc == c') = false) := by
                    by_cases h1 : yg = g'
                    · by_cases h2 : yc = c'
                      · exact .inl ⟨h1, h2⟩
                      · exact .inr (.inr ⟨by simp [h1], by simp [h2]⟩)
                    · exact .inr (.inl (by simp [h1]))
                  have hneq : ¬ (yg = g' ∧ yc = c') → gapAt ⟨g0, c0⟩ l seen k3 = true := fun h => by
                    unfold gapAt
                    rw [HS1.out, List.getD_eq_getElem?_getD, HY.out]
                    simp only [Option.getD_some, ne_eq, StockD.mk.injEq, decide_eq_true_eq]
                    exact h
                  have hyes : (yg = g' ∧ yc = c') → gapAt ⟨g0, c0⟩ l seen k3 = false := fun ⟨h1, h2⟩ => by
                    unfold gapAt
                    rw [HS1.out, List.getD_eq_getElem?_getD, HY.out, h1, h2]
                    simp
                  have HED := Lib.hid ED
                  have HNEQ := Lib.hid hneq
                  have HYES := Lib.hid hyes
                  clear ED hneq hyes
                  rcases HED.out with ⟨h1, h2⟩ | h1 | ⟨h1, h2⟩
                  · have HH := Lib.hid (HYES.out ⟨h1, h2⟩)
                    subst h1 h2
                    clear HED HYES HNEQ
                    go_quiet (fail)
                    go_wp2_with fail
                    go_roundw
                    case rel => exact ⟨k3 + 1, by omega, by go_num, HTO.out.succ HH.out, _, _, HS1.out, HT6.out.below (below_drewN (Below.refl _ _) _)⟩
                    case measure => simp [intOf]; omega
                  · have HH := Lib.hid (HNEQ.out fun h => by rw [h.1] at h1; simp at h1)
                    clear HED HYES HNEQ
                    go_quiet (fail)
                    obtain ⟨w8, hw8⟩ : ∃ w8, w8 = w6.drewN nq := ⟨_, rfl⟩
                    rw [← hw8]
                    have hT8 : GapW 84 w g' c' w8 := by rw [hw8]; exact HT6.out.below (below_drewN (Below.refl _ _) _)
                    have s0 := cell_of_row w8 _ 0 _ _ _ hT8.box
                    have s1 := cell_of_row w8 _ 1 _ _ _ hT8.box
                    have s2 : w8.cell? ⟨b', off' + k3 * 2, none⟩ = some (.int .i64 yg) := (hT8.bel.cell (p := ⟨b', _, none⟩) hb').trans (HCC'.out 0 _ rfl)
                    have s3 : w8.cell? ⟨b', off' + k3 * 2 + 1, none⟩ = some (.int .i64 yc) := (hT8.bel.cell (p := ⟨b', _, none⟩) hb').trans (HCC'.out 1 _ rfl)
                    have s4 := frozen_of_row w8 (w.heap.size + 1) 0 _ _ hT8.res
                    have s5 := frozen_of_row w8 (w.heap.size + 1) 1 _ _ hT8.res
                    have s6 := cell_of_row w8 _ 0 _ _ _ hT8.res
                    have s7 := cell_of_row w8 _ 1 _ _ _ hT8.res
                    have HT8 := Lib.hid hT8
                    clear hT8 hw8 r0 r1 r2 r3 q0 q1 f0 f1
                    go_wp2_with fail
                    have hne1 : w.heap.size + 1 ≠ b' := by omega
                    have hne2 : b' ≠ w.heap.size + 1 := by omega
                    have hwr1 : IntKind.i64.wrap (yg - g') = yg - g' := IntWalk.i64_in _ (by omega)
                    have hwr2 : IntKind.i64.wrap (yc - c') = yc - c' := IntWalk.i64_in _ (by omega)
                    go_region_held3 (fun W => W.cell? ⟨w.heap.size, 0, none⟩ = some (.int .i64 g') ∧ W.cell? ⟨w.heap.size, 1, none⟩ = some (.int .i64 c') ∧ W.cell? ⟨b', off' + k3 * 2, none⟩ = some (.int .i64 yg) ∧ W.cell? ⟨b', off' + k3 * 2 + 1, none⟩ = some (.int .i64 yc)) (go_keep) (fail)
                    clear hwr1 hwr2
                    go_wp2_with fail
                    obtain ⟨o1, o2⟩ := HT8.out.out (yg - g') (yc - c')
                    obtain ⟨w7, hw7⟩ : ∃ w7, w7 = ((w8.setCell ⟨w.heap.size + 1, 0, none⟩ (.int .i64 (yg - g'))).setCell ⟨w.heap.size + 1, 1, none⟩ (.int .i64 (yc - c'))) := ⟨_, rfl⟩
                    rw [← hw7] at o1 o2 ⊢
                    have o3 : w7.drew.heap[w.heap.size + 1]? = some (.cells #[.int .i64 (yg - g'), .int .i64 (yc - c')] 84) := o1
                    have p0 := cell_of_row w7.drew _ 0 _ _ _ o3
                    have p1 := cell_of_row w7.drew _ 1 _ _ _ o3
                    exact bodyPost_ret (v := .tuple #[.int .i64 k3, .agg #[.int .i64 (yg - g'), .int .i64 (yc - c')], .int .i64 0]) (by simp [results, Try.results43, go_sem, p0, p1]) rfl (GapPost.hit HZ.out (gapIdx_hit HTO.out (by have := HN.out; omega) HH.out) HY.out HS1.out o2.drew)
                  · have HH := Lib.hid (HNEQ.out fun h => by rw [h.2] at h2; simp at h2)
                    clear HED HYES HNEQ
                    go_quiet (fail)
                    obtain ⟨w8, hw8⟩ : ∃ w8, w8 = w6.drewN nq := ⟨_, rfl⟩
                    rw [← hw8]
                    have hT8 : GapW 84 w g' c' w8 := by rw [hw8]; exact HT6.out.below (below_drewN (Below.refl _ _) _)
                    have s0 := cell_of_row w8 _ 0 _ _ _ hT8.box
                    have s1 := cell_of_row w8 _ 1 _ _ _ hT8.box
                    have s2 : w8.cell? ⟨b', off' + k3 * 2, none⟩ = some (.int .i64 yg) := (hT8.bel.cell (p := ⟨b', _, none⟩) hb').trans (HCC'.out 0 _ rfl)
                    have s3 : w8.cell? ⟨b', off' + k3 * 2 + 1, none⟩ = some (.int .i64 yc) := (hT8.bel.cell (p := ⟨b', _, none⟩) hb').trans (HCC'.out 1 _ rfl)
                    have s4 := frozen_of_row w8 (w.heap.size + 1) 0 _ _ hT8.res
                    have s5 := frozen_of_row w8 (w.heap.size + 1) 1 _ _ hT8.res
                    have s6 := cell_of_row w8 _ 0 _ _ _ hT8.res
                    have s7 := cell_of_row w8 _ 1 _ _ _ hT8.res
                    have HT8 := Lib.hid hT8
                    clear hT8 hw8 r0 r1 r2 r3 q0 q1 f0 f1
                    go_wp2_with fail
                    have hne1 : w.heap.size + 1 ≠ b' := by omega
                    have hne2 : b' ≠ w.heap.size + 1 := by omega
                    have hwr1 : IntKind.i64.wrap (yg - g') = yg - g' := IntWalk.i64_in _ (by omega)
                    have hwr2 : IntKind.i64.wrap (yc - c') = yc - c' := IntWalk.i64_in _ (by omega)
                    go_region_held3 (fun W => W.cell? ⟨w.heap.size, 0, none⟩ = some (.int .i64 g') ∧ W.cell? ⟨w.heap.size, 1, none⟩ = some (.int .i64 c') ∧ W.cell? ⟨b', off' + k3 * 2, none⟩ = some (.int .i64 yg) ∧ W.cell? ⟨b', off' + k3 * 2 + 1, none⟩ = some (.int .i64 yc)) (go_keep) (fail)
                    clear hwr1 hwr2
                    go_wp2_with fail
                    obtain ⟨o1, o2⟩ := HT8.out.out (yg - g') (yc - c')
                    obtain ⟨w7, hw7⟩ : ∃ w7, w7 = ((w8.setCell ⟨w.heap.size + 1, 0, none⟩ (.int .i64 (yg - g'))).setCell ⟨w.heap.size + 1, 1, none⟩ (.int .i64 (yc - c'))) := ⟨_, rfl⟩
                    rw [← hw7] at o1 o2 ⊢
                    have o3 : w7.drew.heap[w.heap.size + 1]? = some (.cells #[.int .i64 (yg - g'), .int .i64 (yc - c')] 84) := o1
                    have p0 := cell_of_row w7.drew _ 0 _ _ _ o3
                    have p1 := cell_of_row w7.drew _ 1 _ _ _ o3
                    exact bodyPost_ret (v := .tuple #[.int .i64 k3, .agg #[.int .i64 (yg - g'), .int .i64 (yc - c')], .int .i64 0]) (by simp [results, Try.results43, go_sem, p0, p1]) rfl (GapPost.hit HZ.out (gapIdx_hit HTO.out (by have := HN.out; omega) HH.out) HY.out HS1.out o2.drew)
                · have HK3 : Hid (k3 = l.length) := by have := HN.out; unfold Hid; omega
                  have HTO := Lib.hid hto
                  have HT := Lib.hid hT
                  have q0 := cell_of_row wr _ 0 _ _ _ HT.out.res
                  have q1 := cell_of_row wr _ 1 _ _ _ HT.out.res
                  have f0 := frozen_of_row wr (w.heap.size + 1) 0 _ _ HT.out.res
                  have f1 := frozen_of_row wr (w.heap.size + 1) 1 _ _ HT.out.res
                  clear hto hT hgc
                  go_wp2_with fail
                  obtain ⟨o1, o2⟩ := HT.out.out 0 0
                  obtain ⟨w7, hw7⟩ : ∃ w7, w7 = ((wr.setCell ⟨w.heap.size + 1, 0, none⟩ (.int .i64 0)).setCell ⟨w.heap.size + 1, 1, none⟩ (.int .i64 0)) := ⟨_, rfl⟩
                  rw [← hw7] at o1 o2 ⊢
                  have r0 := cell_of_row w7 _ 0 _ _ _ o1
                  have r1 := cell_of_row w7 _ 1 _ _ _ o1
                  exact bodyPost_ret (v := .tuple #[.int .i64 (-1), .agg #[.int .i64 0, .int .i64 0], .int .i64 0]) (by simp [results, Try.results43, go_sem, r0, r1]) rfl (GapPost.none HZ.out (gapIdx_none (by have := HTO.out; rw [HK3.out] at this; exact this)) o2)
end Go.Proofs.Ytlanephpmoajiaa
