/- The walk of build.next. -/
import Derived.Test.YtodckaioeomccaaGreatPart14
import Derived.Test.YtodckaioeomccaaGreatPart02
import Derived.Test.YtodckaioeomccaaGreatPart04
import Derived.Sort.OwnSortedInts
namespace Go.Proofs.YtodckaioeomccaaGreat
open Go.RowKit Go.Shelf Go.Sort
set_option linter.unusedVariables false
set_option linter.unusedSimpArgs false
theorem gr_trans {a w w' : World} {row : Option Nat} (h : a.grownBy w row) (k : w.grownBy w' row) : a.grownBy w' row :=
 ⟨k.os.trans h.os, k.tape.trans h.tape, k.output.trans h.output, Nat.le_trans h.size k.size, fun i hi hne => (k.block i (Nat.lt_of_lt_of_le hi h.size) hne).trans (h.block i hi hne)⟩
structure NRow (B g cap : Nat) (W0 w : World) (l : List Int) : Prop where
 own : OwnL w B (.slice (some ⟨g, 0, none⟩) l.length cap) l
 gr : W0.grownBy w (some g)
theorem NRow.start {B g cap : Nat} {w : World} {l : List Int} (h : OwnL w B (.slice (some ⟨g, 0, none⟩) l.length cap) l) : NRow B g cap w w l := ⟨h, World.grownBy.refl _ _⟩
theorem NRow.drew {B g cap : Nat} {W0 w : World} {l : List Int} (h : NRow B g cap W0 w l) : NRow B g cap W0 w.drew l := ⟨h.own, ⟨h.gr.os, h.gr.tape, h.gr.output, h.gr.size, h.gr.block⟩⟩
theorem NRow.drewN {B g cap : Nat} {W0 w : World} {l : List Int} (h : NRow B g cap W0 w l) (n : Nat) : NRow B g cap W0 (w.drewN n) l := ⟨h.own, ⟨h.gr.os, h.gr.tape, h.gr.output, h.gr.size, h.gr.block⟩⟩
theorem NRow.parts {B g cap : Nat} {W0 w : World} {l : List Int} (h : NRow B g cap W0 w l) : ∃ cur, B ≤ g ∧ w.heap[g]? = some (.cells cur 3 (0, 0)) ∧ l.length ≤ cap ∧ cap ≤ maxLen ∧ cur.size = cap * 1 ∧ cur.toList.take (l.length * 1) = l.map intV := by
 rcases h.own.2 with ⟨e0, _⟩ | ⟨g', cap', cur, e0, a, b, c, d, e, f⟩
 ·cases e0
 ·injection e0 with e1 _ e3
  injection e1 with e1
  injection e1 with e1
  subst e1; subst e3
  exact ⟨cur, a, b, c, d, e, f⟩
theorem NRow.cell {B g cap : Nat} {W0 w : World} {l : List Int} (h : NRow B g cap W0 w l) (k : Nat) (hk : k < l.length) : w.cell? ⟨g, k, none⟩ = some (.int .i64 (l.getD k 0)) := by
 obtain ⟨cur, _, hg, _, _, _, ht⟩ := h.parts
 rw [cell_of_row w g k cur 3 (0, 0) hg]
 have h1 : cur.toList[k]? = ((cur.toList.take (l.length * 1)))[k]? := by rw [List.getElem?_take, if_pos (by omega)]
 rw [← Array.getElem?_toList, h1, ht, List.getElem?_map, List.getElem?_eq_getElem hk, List.getD_eq_getElem?_getD, List.getElem?_eq_getElem hk]
 rfl
theorem NRow.frozen {B g cap : Nat} {W0 w : World} {l : List Int} (h : NRow B g cap W0 w l) (j : Nat) : w.frozen? ⟨g, j, none⟩ = false := World.ownsRow.frozenAt h.own j
theorem NRow.put {B g cap : Nat} {W0 w : World} {l : List Int} (h : NRow B g cap W0 w l) (j : Nat) (u : Int) : NRow B g cap W0 (w.setCell ⟨g, j, none⟩ (.int .i64 u)) (l.set j u) := by
 obtain ⟨a, b⟩ := World.ownsRow.stored h.own j (.int .i64 u)
 refine ⟨?_, gr_trans h.gr b⟩
 unfold OwnL
 rw [List.length_set, List.map_set]
 exact a
theorem NRow.holds {B g cap : Nat} {W0 w : World} {l : List Int} (h : NRow B g cap W0 w l) (off : Nat) : Holds (Value.int .i64) w g off (l.drop off).toArray := fun j hj => by
 have hj' : off + j < l.length := by simp at hj; omega
 refine ⟨?_, h.frozen _⟩
 rw [h.cell _ hj', getElem!_pos _ j hj]
 simp [List.getD_eq_getElem?_getD, List.getElem?_eq_getElem hj']
theorem NRow.row {B g cap off q : Nat} {W0 w : World} {l ys : List Int} (h : NRow B g cap W0 w l) (hy : off + ys.length = l.length) :
  NRow B g cap W0 (putRow (Value.int .i64) (Sort.ahead w q) g off ys.toArray) (l.take off ++ ys) := by
 obtain ⟨cur, hb, hg, hn, hm, hs, ht⟩ := h.parts
 refine ⟨?_, ?_⟩
 ·have hl : (l.take off ++ ys).length = l.length := by simp; omega
  unfold OwnL
  rw [hl]
  refine ⟨by simp; omega, .inr ⟨g, cap, putCells (Value.int .i64) off ys.toArray cur, rfl, hb, ?_, by omega, hm, by simpa [putCells] using hs, ?_⟩⟩
  ·simp [putRow, mapBlock, Sort.ahead, Array.getElem?_modify, hg, onCells]
  ·apply List.ext_getElem?
   intro j
   rw [List.getElem?_take, List.getElem?_map, Array.getElem?_toList]
   by_cases hj : j < l.length
   ·have hjc : j < cur.size := by omega
    have h1 : cur.toList[j]? = ((cur.toList.take (l.length * 1)))[j]? := by rw [List.getElem?_take, if_pos (by omega)]
    rw [ht, Array.getElem?_toList, Array.getElem?_eq_getElem hjc, List.getElem?_map, List.getElem?_eq_getElem hj] at h1
    simp only [Nat.mul_one, if_pos hj, putCells, Array.getElem?_mapIdx, Array.getElem?_eq_getElem hjc, Option.map_some]
    rw [List.getElem?_append]
    rcases Nat.lt_or_ge j off with h2 | h2
    ·rw [if_neg (by omega), if_pos (by simp; omega), List.getElem?_take, if_pos h2, List.getElem?_eq_getElem hj]
     exact h1
    ·rw [if_pos (by simp; omega), if_neg (by simp; omega), List.length_take, Nat.min_eq_left (by omega), List.getElem?_eq_getElem (by omega)]
     simp [getElem!_pos, show j - off < ys.length by omega, intV]
   ·rw [if_neg (by omega), List.getElem?_eq_none (by simp; omega)]
    rfl
 ·exact ⟨h.gr.os, h.gr.tape, h.gr.output, by simpa [putRow, mapBlock, Sort.ahead] using h.gr.size, fun k hk hne => by
   rw [← h.gr.block k hk hne]
   have : g ≠ k := fun e => hne (by rw [e])
   simp [putRow, mapBlock, Sort.ahead, Array.getElem?_modify, this]⟩
def nextR (l : List Int) : Bool × List Int := match Arr.nextP l with
 | none => (false, l)
 | some r => (true, r)
theorem nextR_none {l : List Int} (h : Arr.nextP l = none) : nextR l = (false, l) := by unfold nextR; rw [h]
theorem nextR_some {l r : List Int} (h : Arr.nextP l = some r) : nextR l = (true, r) := by unfold nextR; rw [h]
set_option maxRecDepth 100000 in
set_option maxHeartbeats 2000000 in
theorem next_any (B g cap : Nat) (W0 w : World) (l : List Int) (h : NRow B g cap W0 w l) (hl : l.length ≤ 1000) (hl0 : l ≠ []) :
  Calls Tryz.prog 113 #[.slice (some ⟨g, 0, none⟩) l.length cap] w fun e w' => e = .returned (.bool (nextR l).1) ∧ NRow B g cap W0 w' (nextR l).2 := by
 obtain ⟨n, hn⟩ : ∃ n, n = l.length := ⟨_, rfl⟩
 obtain ⟨f, hf⟩ : ∃ f : Nat → Int, f = fun k => l.getD k 0 := ⟨_, rfl⟩
 have HN := h0d hn
 have HF : Hid (∀ k, l.getD k 0 = f k) := fun k => by rw [hf]
 have H0 := h0d h
 have HCP := h0d h.parts
 have hn2 : n ≤ 1000 := by omega
 have hn0 : 0 < n := by have := List.length_pos_iff.2 hl0; omega
 rw [← hn]
 clear h hf hn hl hl0
 have hw1 : IntKind.i64.wrap ((n : Int) - 2) = (n : Int) - 2 := IntWalk.i64_in _ (by omega)
 go_enter Tryz.func113, Tryz.ntmps113
 go_wp2_with fail
 clear hw1
 go_loopw [3, 8, 9, 10, 11, 12, 13, 14, 15, 16, 17, 18, 19, 20, 21, 22, 23] (fun iv _ _ _ _ _ _ _ _ _ _ _ _ _ _ _ _ wr => ∃ (m : Nat) (z : Int), m < n ∧ z = (m : Int) - 1 ∧ iv = .int .i64 z ∧ Hid (∀ j, m ≤ j → j + 1 < n → f (j + 1) ≤ f j) ∧ NRow B g cap W0 wr l) (fun iv _ _ _ _ _ _ _ _ _ _ _ _ _ _ _ _ _ => (intOf iv + 1).toNat)
 case atStart => exact ⟨n - 1, (n : Int) - 2, by omega, by omega, rfl, fun j h1 h2 => by omega, H0.out⟩
 case round =>
  obtain ⟨m, z, hm, hz, rfl, HD, hrow⟩ := hrel
  have HR := h0d hrow
  clear hrow H0 HCP
  cases m with
  | zero =>
   obtain rfl : z = -1 := by omega
   clear hz
   go_wp2_with fail
   go_quiet (fail)
   have HT : Hid (nextR l = (false, l)) := nextR_none (Arr.nextP_desc fun j hj => by rw [HF.out, HF.out]; exact HD.out j (by omega) (by have := HN.out; omega))
   have HR2 := h0d (HR.out.drewN nq)
   go_wp2_with fail
   go_ret
   rw [HT.out]
   exact ⟨rfl, HR2.out⟩
  | succ k =>
   obtain rfl : z = (k : Int) := by omega
   clear hz
   obtain ⟨k1, hk1⟩ : ∃ q : Nat, q = k + 1 := ⟨_, rfl⟩
   rw [← hk1] at hm HD
   have hkn : k < n := by omega
   have c0 : wr.cell? ⟨g, k, none⟩ = some (.int .i64 (f k)) := by rw [← HF.out]; exact HR.out.cell k (by have := HN.out; omega)
   have c1 : wr.cell? ⟨g, k1, none⟩ = some (.int .i64 (f k1)) := by rw [← HF.out]; exact HR.out.cell k1 (by have := HN.out; omega)
   have hw1 : IntKind.i64.wrap ((k : Int) + 1) = (k1 : Int) := by rw [IntWalk.i64_in _ (by omega), hk1]; omega
   obtain ⟨x, hx⟩ : ∃ x, x = f k := ⟨_, rfl⟩
   obtain ⟨y, hy⟩ : ∃ y, y = f k1 := ⟨_, rfl⟩
   rw [← hx] at c0
   rw [← hy] at c1
   by_cases hxy : y ≤ x
   ·have hw2 : IntKind.i64.wrap ((k : Int) - 1) = (k : Int) - 1 := IntWalk.i64_in _ (by omega)
    have HD2 : Hid (∀ j, k ≤ j → j + 1 < n → f (j + 1) ≤ f j) := fun j h1 h2 => by
     rcases Nat.lt_or_ge k j with h3 | h3
     ·exact HD.out j (by omega) h2
     ·obtain rfl : j = k := by omega
      rw [← hk1, ← hx, ← hy]; exact hxy
    have HK1 := h0d hk1
    clear hx hy hk1
    go_wp2_with fail
    go_quiet (fail)
    have HR2 := h0d (HR.out.drewN nq)
    clear c0 c1
    go_wp2_with fail
    go_roundw
    case rel => exact ⟨k, _, hkn, rfl, rfl, HD2, HR2.out⟩
    case measure => simp [intOf]
   ·have HK1 := h0d hk1
    have HX := h0d hx
    have HY := h0d hy
    have HXY := h0d hxy
    have hw3 : IntKind.i64.wrap ((n : Int) - 1) = (n : Int) - 1 := IntWalk.i64_in _ (by omega)
    clear hx hy hk1
    go_wp2_with fail
    go_quiet (fail)
    have HR2 := h0d (HR.out.drewN nq)
    obtain ⟨W2, hW2⟩ : ∃ W, W = wr.drewN nq := ⟨_, rfl⟩
    rw [← hW2] at HR2
    have HW2 := h0d hW2
    clear c0 c1 hW2
    go_wp2_with fail
    rw [← HW2.out]
    clear HW2 hw1 hw3 hxy HR
    go_loopw [4, 29, 30, 31, 32, 33, 34, 35, 36, 37, 38, 39] (fun iv _ _ _ _ _ _ _ _ _ _ _ wr => ∃ (q : Nat) (z : Int), k < q ∧ q < n ∧ z = (q : Int) ∧ iv = .int .i64 z ∧ Hid (∀ j, q < j → j < n → f j ≤ f k) ∧ NRow B g cap W0 wr l) (fun iv _ _ _ _ _ _ _ _ _ _ _ _ => (intOf iv).toNat)
    case atStart => exact ⟨n - 1, (n : Int) - 1, by have := HK1.out; omega, by omega, by omega, rfl, fun j h1 h2 => by omega, HR2.out⟩
    case round =>
     obtain ⟨q, z, hkq, hqn, rfl, rfl, HQ, hrow⟩ := hrel
     have HR := h0d hrow
     clear hrow HR2
     have c0 : wr.cell? ⟨g, k, none⟩ = some (.int .i64 x) := by rw [HX.out, ← HF.out]; exact HR.out.cell k (by have := HN.out; omega)
     have c1 : wr.cell? ⟨g, q, none⟩ = some (.int .i64 (f q)) := by rw [← HF.out]; exact HR.out.cell q (by have := HN.out; omega)
     obtain ⟨u, hu⟩ : ∃ u, u = f q := ⟨_, rfl⟩
     rw [← hu] at c1
     by_cases hux : u ≤ x
     ·have hw2 : IntKind.i64.wrap ((q : Int) - 1) = (q : Int) - 1 := IntWalk.i64_in _ (by omega)
      have hkq1 : k < q - 1 := by
       rcases Nat.lt_or_ge k (q - 1) with h | h
       ·exact h
       ·exfalso
        have e : q = k1 := by have := HK1.out; omega
        have := HXY.out
        rw [HY.out, ← e, ← hu] at this
        omega
      have HQ2 : Hid (∀ j, q - 1 < j → j < n → f j ≤ f k) := fun j h1 h2 => by
       rcases Nat.lt_or_ge q j with h3 | h3
       ·exact HQ.out j h3 h2
       ·obtain rfl : j = q := by omega
        rw [← hu, ← HX.out]; exact hux
      clear hu
      go_wp2_with fail
      go_quiet (fail)
      have HR2 := h0d (HR.out.drewN nq)
      clear c0 c1
      go_wp2_with fail
      go_roundw
      case rel => exact ⟨q - 1, _, hkq1, by omega, by omega, rfl, HQ2, HR2.out⟩
      case measure => simp [intOf]; omega
     ·have HU := h0d hu
      have HT : Hid (nextR l = (true, ((l.set k u).set q x).take k1 ++ (((l.set k u).set q x).drop k1).reverse)) := by
       show _ = _
       have := HN.out
       have := HK1.out
       refine nextR_some ?_
       rw [Arr.nextP_of (i := k) (k := q) (fun j h1 h2 => by rw [HF.out, HF.out]; exact HD.out j (by omega) (by omega)) hkq (by omega) (by rw [HF.out, HF.out, ← hu, ← HX.out]; omega) (fun j h1 h2 => by rw [HF.out, HF.out]; exact HQ.out j h1 (by omega)),
        ← Arr.swap_tail hkq (by omega), HF.out, HF.out, ← hu, ← HX.out, HK1.out]
      have hne : k ≠ q := by omega
      have hne' : q ≠ k := by omega
      clear hu
      go_wp2_with fail
      go_quiet (fail)
      have hT := (HR.out.drewN nq)
      obtain ⟨W3, hW3⟩ : ∃ W, W = wr.drewN nq := ⟨_, rfl⟩
      rw [← hW3] at hT
      have d0 : W3.cell? ⟨g, k, none⟩ = some (.int .i64 x) := by rw [hW3]; exact c0
      have d1 : W3.cell? ⟨g, q, none⟩ = some (.int .i64 u) := by rw [hW3]; exact c1
      have hfr : ∀ j, W3.frozen? ⟨g, j, none⟩ = false := hT.frozen
      have HR3 := h0d hT
      have HW3 := h0d hW3
      clear c0 c1 hT hW3
      go_wp2_with fail
      rw [← HW3.out]
      clear HW3 HXY HR
      go_region
      all_goals
       have hT := ((HR3.out.put k u).put q x).drew
       obtain ⟨L, hL⟩ : ∃ L, L = (l.set k u).set q x := ⟨_, rfl⟩
       obtain ⟨W4, hW4⟩ : ∃ W, W = ((W3.setCell ⟨g, k, none⟩ (.int .i64 u)).setCell ⟨g, q, none⟩ (.int .i64 x)).drew := ⟨_, rfl⟩
       rw [← hL] at HT hT
       rw [← hW4] at hT ⊢
       have hLn : L.length = n := by rw [hL, List.length_set, List.length_set]; exact HN.out.symm
       have HCP2 : Hid (n ≤ cap ∧ cap ≤ 9223372036854775807) := by
        obtain ⟨_, _, _, h1, h2, _⟩ := HR3.out.parts
        have := HN.out
        simp [maxLen] at h2
        exact ⟨by omega, by omega⟩
       have HREV := h0d (Tryz.slices_Reverse_int g k1 (cap - k1) (L.drop k1) W4 (hT.holds k1) (by rw [List.length_drop]; omega))
       rw [List.length_drop, hLn] at HREV
       have HT4 := h0d hT
       have HLN := h0d hLn
       clear d0 d1 hfr hT hL hLn hW4 HR3
       have hcp := HCP2.out
       have hw1 : IntKind.i64.wrap ((k : Int) + 1) = (k1 : Int) := by rw [IntWalk.i64_in _ (by omega)]; have := HK1.out; omega
       go_wp2_with fail
       refine HREV.out.mono ?_
       rintro e w5 ⟨rfl, q5, hw5⟩
       have hE : NRow B g cap W0 w5 (L.take k1 ++ (L.drop k1).reverse) := by
        rw [hw5]
        exact HT4.out.row (by have := HLN.out; rw [List.length_reverse, List.length_drop]; omega)
       have HE := h0d hE
       clear hE hw5
       go_wp2_with fail
       go_ret
       rw [HT.out]
       exact ⟨rfl, HE.out⟩
end Go.Proofs.YtodckaioeomccaaGreat
