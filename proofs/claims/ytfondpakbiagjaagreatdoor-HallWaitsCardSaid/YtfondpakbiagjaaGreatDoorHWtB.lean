/- DeleteFunc of a row of lines. -/
import Derived.Test.YtfondpakbiagjaaGreatDoorHWtA
import Derived.Lib.SliceRun
import Derived.Laws.EntriesVeiled
namespace Go.Proofs.YtfondpakbiagjaaGreatDoor
open Go.RowKit
set_option linter.unusedVariables false
set_option linter.unusedSimpArgs false
set_option maxRecDepth 100000
set_option maxHeartbeats 4000000
theorem drop_consC {α : Type} {xs : List α} {k : Nat} {x : α} (h : xs[k]? = some x) : xs.drop k = x :: xs.drop (k + 1) := by
  obtain ⟨h1, h2⟩ := List.getElem?_eq_some_iff.1 h
  rw [List.drop_eq_getElem_cons h1, h2]
def kpC (c : Nat) (cs : List Nat) : List Nat := cs.filter fun x => !(x == c)
theorem kp_snoc (c : Nat) {cs : List Nat} {j x : Nat} (h : cs[j]? = some x) : kpC c (cs.take (j + 1)) = kpC c (cs.take j) ++ (if x == c then [] else [x]) := by
  unfold kpC
  rw [take_snoc? h, List.filter_append]
  congr 1
  by_cases hx : x = c <;> simp [hx]
theorem kp_all {c : Nat} {cs : List Nat} (h : ∀ j : Nat, cs[j]? ≠ some c) : kpC c cs = cs := by
  unfold kpC
  rw [List.filter_eq_self]
  intro x hx
  obtain ⟨j, hj⟩ := List.getElem?_of_mem hx
  have : x ≠ c := fun e => h j (by rw [hj, e])
  simp [this]
/-- What the row's block holds, j of the lines looked at. -/
structure DelW (w wr : World) (g c : Nat) (cs : List Nat) (sp : List Value) (i j : Nat) : Prop where
  mid : ∃ mid, mid ≠ [] ∧ wr.heap[g]? = some (.cells ((kpC c (cs.take j) ++ mid ++ cs.drop j).map chV ++ sp).toArray 102 (0, 0)) ∧ (kpC c (cs.take j) ++ mid).length = j
  i : i = (kpC c (cs.take j)).length
  gr : w.grownBy wr (some g)
theorem DelW.cell {w wr : World} {g c : Nat} {cs : List Nat} {sp : List Value} {i j x : Nat} (h : DelW w wr g c cs sp i j) (hx : cs[j]? = some x) : wr.cell? ⟨g, j, none⟩ = some (.chan (some x)) := by
  obtain ⟨mid, hm, hb, hl⟩ := h.mid
  rw [blk_cell hb, List.getElem?_toArray, List.map_append, List.append_assoc, List.getElem?_append_right (by rw [List.length_map, hl]; exact Nat.le_refl _), List.length_map, hl, Nat.sub_self, drop_consC hx]
  rfl
theorem DelW.free {w wr : World} {g c : Nat} {cs : List Nat} {sp : List Value} {i j : Nat} (h : DelW w wr g c cs sp i j) (q : Nat) : wr.frozen? ⟨g, q, none⟩ = false := by
  obtain ⟨mid, hm, hb, hl⟩ := h.mid
  exact blk_free hb q
theorem DelW.lt {w wr : World} {g c : Nat} {cs : List Nat} {sp : List Value} {i j : Nat} (h : DelW w wr g c cs sp i j) : i < j := by
  obtain ⟨mid, hm, hb, hl⟩ := h.mid
  have := List.length_pos_iff.2 hm
  rw [List.length_append] at hl
  rw [h.i]; omega
theorem DelW.old {w wr : World} {g c : Nat} {cs : List Nat} {sp : List Value} {i j x : Nat} (h : DelW w wr g c cs sp i j) : ∃ y, wr.cell? ⟨g, i, none⟩ = some y := by
  obtain ⟨mid, hm, hb, hl⟩ := h.mid
  obtain ⟨y, ms, rfl⟩ := List.exists_cons_of_ne_nil hm
  refine ⟨chV y, ?_⟩
  rw [blk_cell hb, List.getElem?_toArray, List.map_append, List.map_append, List.append_assoc, List.append_assoc, h.i, List.getElem?_append_right (by rw [List.length_map]; exact Nat.le_refl _), List.length_map, Nat.sub_self]
  rfl
theorem DelW.skip {w wr : World} {g c : Nat} {cs : List Nat} {sp : List Value} {i j : Nat} (h : DelW w wr g c cs sp i j) (hx : cs[j]? = some c) : DelW w wr g c cs sp i (j + 1) := by
  obtain ⟨mid, hm, hb, hl⟩ := h.mid
  have hs := kp_snoc c hx
  simp only [beq_self_eq_true, if_true, List.append_nil] at hs
  refine ⟨⟨mid ++ [c], by simp, ?_, ?_⟩, by rw [hs]; exact h.i, h.gr⟩
  · rw [hs, hb, drop_consC hx]; simp
  · rw [hs, ← List.append_assoc, List.length_append, hl]; rfl
theorem DelW.keep {w wr : World} {g c : Nat} {cs : List Nat} {sp : List Value} {i j x : Nat} (h : DelW w wr g c cs sp i j) (hx : cs[j]? = some x) (hne : x ≠ c) : DelW w (wr.setCell ⟨g, i, none⟩ (.chan (some x))) g c cs sp (i + 1) (j + 1) := by
  obtain ⟨mid, hm, hb, hl⟩ := h.mid
  obtain ⟨y, ms, rfl⟩ := List.exists_cons_of_ne_nil hm
  have hs := kp_snoc c hx
  rw [if_neg (by simpa using hne)] at hs
  refine ⟨⟨ms ++ [x], by simp, ?_, ?_⟩, by rw [hs, List.length_append, ← h.i]; rfl, ?_⟩
  · rw [hs]
    have h1 := blk_set (i := i) (.chan (some x)) hb
    rw [h1]
    have h2 : ((kpC c (cs.take j) ++ y :: ms ++ cs.drop j).map chV ++ sp).set i (.chan (some x)) = (kpC c (cs.take j) ++ [x] ++ (ms ++ [x]) ++ cs.drop (j + 1)).map chV ++ sp := by
      rw [drop_consC hx, h.i]
      simp [List.set_append, chV]
    simp only [List.setIfInBounds_toArray, h2]
  · rw [hs]
    rw [List.length_append, List.length_cons] at hl
    simp only [List.length_append, List.length_cons, List.length_nil]
    omega
  · have hbel : Below g wr (wr.setCell ⟨g, i, none⟩ (.chan (some x))) := (Below.refl g wr).setCell (Nat.le_refl _) _
    exact ⟨h.gr.os, h.gr.tape, h.gr.output, by have := h.gr.size; simp [World.setCell]; omega, fun k hk hn => (Below.heap_setCell wr ⟨g, i, none⟩ _ k (fun e => hn (by rw [e]))).trans (h.gr.block k hk hn)⟩
theorem delC_any (v : Value) (cs : List Nat) (c bx B : Nat) (w : World) (h : OwnC w B v cs) (hl : cs.length ≤ 1000) (hc : w.cell? ⟨bx, 0, none⟩ = some (.chan (some c))) (hbx : v.ownBlock ≠ some bx) :
    Calls Tryz.prog 74 #[v, .func (.func 75) #[] #[.pointer (some ⟨bx, 0, none⟩)]] w
      fun e w' => ∃ v', e = .returned v' ∧ OwnC w' B v' (kpC c cs) ∧ w.grownBy w' v.ownBlock ∧ (∀ b, v'.ownBlock = some b → v.ownBlock = some b) := by
  have HIX := Lib.hid (idxC_any v cs c bx _ w h.rd hl hc)
  by_cases hin : ∀ j : Nat, cs[j]? ≠ some c
  · obtain ⟨A, cap, rfl⟩ := h.slice
    have HO := Lib.hid h
    have HK := Lib.hid (kp_all hin)
    have HIN := Lib.hid hin
    clear h hc hin hbx
    go_enter Tryz.func74, Tryz.ntmps74
    go_wp2_with fail
    refine HIX.out.mono ?_
    rintro e w1 ⟨⟨i, rfl, hi, -⟩ | ⟨rfl, -⟩, hw⟩
    · exact absurd hi (HIN.out i)
    obtain rfl := hw.symm
    clear hw HIX
    go_wp2_with fail
    go_ret
    exact ⟨_, rfl, by rw [HK.out]; exact HO.out, ⟨rfl, rfl, rfl, Nat.le_refl _, fun _ _ _ => rfl⟩, fun b hb => hb⟩
  · obtain ⟨i0, hi0⟩ : ∃ j : Nat, cs[j]? = some c := by
      by_cases h' : ∃ j : Nat, cs[j]? = some c
      · exact h'
      · exact absurd (fun j e => h' ⟨j, e⟩) hin
    obtain ⟨g, cap, cur, rfl, hB, hb, hcn, hcm, hcs, hct⟩ := h.form (fun e => by rw [e] at hi0; simp at hi0)
    have HB := Lib.hid hb
    obtain ⟨n, hn⟩ : ∃ n, n = cs.length := ⟨_, rfl⟩
    have HN := Lib.hid hn
    rw [← hn] at HIX hcn hct hl ⊢
    obtain ⟨sp, hsp⟩ : ∃ s, s = cur.toList.drop n := ⟨_, rfl⟩
    have hcur : cur.toList = cs.map chV ++ sp := by rw [hsp, ← hct, List.take_append_drop]
    have HCUR := Lib.hid hcur
    have HCS := Lib.hid hcs
    have HCM := Lib.hid hcm
    have HGB := Lib.hid hB
    have hgb : g ≠ bx := fun e => hbx (by rw [e]; rfl)
    have HGBX := Lib.hid hgb
    have HBXL : Hid (bx < w.heap.size) := cell_lt hc
    have HCC := Lib.hid hc
    clear h hb hn hsp hcs hct hcur hB hbx hc hin hgb
    go_enter Tryz.func74, Tryz.ntmps74
    go_wp2_with fail
    refine HIX.out.mono ?_
    rintro e w1 ⟨⟨i, rfl, hi, hmin⟩ | ⟨rfl, hno⟩, hw⟩
    rotate_left
    · exact absurd hi0 (hno i0)
    obtain rfl := hw.symm
    have hil : i < n := by rw [HN.out]; exact (List.getElem?_eq_some_iff.1 hi).1
    have HD0 : Hid (DelW w w g c cs sp i (i + 1)) := by
      have hk : kpC c (cs.take i) = cs.take i := kp_all fun j e => by
        rw [List.getElem?_take] at e
        split at e
        · exact hmin j (by omega) e
        · cases e
      have hs := kp_snoc c hi
      simp only [beq_self_eq_true, if_true, List.append_nil] at hs
      rw [hk] at hs
      refine ⟨⟨[c], by simp, ?_, ?_⟩, ?_, ⟨rfl, rfl, rfl, Nat.le_refl _, fun _ _ _ => rfl⟩⟩
      · rw [hs, HB.out]
        congr 2
        have h3 : cs.take i ++ [c] ++ cs.drop (i + 1) = cs := by rw [List.append_assoc, List.singleton_append, ← drop_consC hi, List.take_append_drop]
        rw [h3, ← HCUR.out, Array.toArray_toList]
      · rw [hs, List.length_append, List.length_take]; have := HN.out; simp; omega
      · rw [hs, List.length_take]; have := HN.out; omega
    have hi00 : (0 : Int) ≤ (i : Int) := by omega
    have him : ¬ (i : Int) = -1 := by omega
    have himb : ((i : Int) == -1) = false := beq_false_of_ne him
    have hwi : IntKind.i64.wrap ((i : Int) + 1) = (i : Int) + 1 := IntWalk.i64_in _ (by omega)
    clear hw HIX hi hmin hi0
    go_wp2_with fail
    go_loopw [5, 6, 7] (fun iv jv _ wr => ∃ (i j : Nat), j ≤ n ∧ iv = .int .i64 (i : Int) ∧ jv = .int .i64 (j : Int) ∧ Hid (DelW w wr g c cs sp i j)) (fun _ jv _ _ => n - (RowKit.intOf jv).toNat)
    case atStart => exact ⟨i, i + 1, by omega, rfl, by first | rfl | (go_num), HD0.out⟩
    case round =>
      clear HD0 hi00 him himb hwi
      obtain ⟨i, j, hj, rfl, rfl, HD⟩ := hrel
      by_cases hlt : j < n
      · obtain ⟨x, hx⟩ : ∃ x, cs[j]? = some x := ⟨_, List.getElem?_eq_getElem (by have := HN.out; omega)⟩
        have HX := Lib.hid hx
        have hcell := HD.out.cell hx
        have hcb : wr.cell? ⟨bx, 0, none⟩ = some (.chan (some c)) := (World.cell?_of_block (w := w) (HD.out.gr.block bx HBXL.out (fun e => HGBX.out (by injection e with e; exact e.symm)))).trans HCC.out
        have HRP := Lib.hid (rep1_any x c bx wr hcb)
        have hij := HD.out.lt
        obtain ⟨y, hy⟩ := HD.out.old (x := x)
        have hfr := HD.out.free i
        have hi0 : (0 : Int) ≤ (i : Int) := by omega
        have hin : (i : Int) < (n : Int) := by omega
        have hjj : (j : Int) < (n : Int) := by omega
        have hj0 : (0 : Int) ≤ (j : Int) := by omega
        have hwj : IntKind.i64.wrap ((j : Int) + 1) = (j : Int) + 1 := IntWalk.i64_in _ (by omega)
        have hwi : IntKind.i64.wrap ((i : Int) + 1) = (i : Int) + 1 := IntWalk.i64_in _ (by omega)
        clear hx hcb
        go_wp2_with fail
        refine HRP.out.mono ?_
        rintro e w1 ⟨rfl, hw⟩
        obtain rfl := hw.symm
        clear hw HRP
        by_cases hxc : x = c
        · have hb : (x == c) = true := by simp [hxc]
          have HD1 : Hid (DelW w wr g c cs sp i (j + 1)) := HD.out.skip (hxc ▸ HX.out)
          rw [hb]
          clear hb hcell hy hfr
          go_wp2_with fail
          go_roundw
          case rel => exact ⟨i, j + 1, by omega, rfl, by go_num, HD1.out⟩
          case measure => simp [RowKit.intOf]; omega
        · have hb : (x == c) = false := by simp [hxc]
          have HD1 : Hid (DelW w (wr.setCell ⟨g, i, none⟩ (.chan (some x))) g c cs sp (i + 1) (j + 1)) := HD.out.keep HX.out hxc
          rw [hb]
          clear hb hcell
          go_wp2_with fail
          go_roundw
          case rel => exact ⟨i + 1, j + 1, by omega, by go_num, by go_num, HD1.out⟩
          case measure => simp [RowKit.intOf]; omega
      · obtain rfl : j = n := by omega
        have hij := HD.out.lt
        obtain ⟨mid, hm, hb, hlm⟩ := HD.out.mid
        have hig := HD.out.i
        rw [List.drop_eq_nil_of_le (by rw [HN.out]; exact Nat.le_refl _), List.append_nil] at hb
        have hkt : kpC c (cs.take j) = kpC c cs := by rw [List.take_of_length_le (by rw [HN.out]; exact Nat.le_refl _)]
        rw [hkt] at hb hlm hig
        have hml : mid.length = j - i := by rw [List.length_append, ← hig] at hlm; omega
        have hspl : sp.length = cap - j := by
          have h1 := congrArg List.length HCUR.out
          rw [Array.length_toList, HCS.out, List.length_append, List.length_map, ← HN.out] at h1
          omega
        have hsize : ((kpC c cs ++ mid).map chV ++ sp).length = cap := by rw [List.length_append, List.length_map, hlm, hspl]; omega
        have hclr := Lib.run_clear_slice (P := Tryz.prog) wr 106 102 0 (.chan none) Tryz.underlying106 (fun w => by kernel_rfl) rfl rfl g i (j - i) (cap - i) (by omega) (fun q hq => by rw [blk_cell hb, List.getElem?_toArray, List.getElem?_eq_getElem (by rw [hsize]; omega)]; rfl) (fun q hq => blk_free hb _)
        have hneq : ¬ cap = i := by omega
        have hii : ¬ (j : Int) < (j : Int) := by omega
        obtain ⟨W9, HW9⟩ : ∃ W, Hid (W = wr.setCells g i (List.replicate (j - i) (Value.chan none))) := ⟨_, rfl⟩
        have hS9 : W9 = setsW wr g i (List.replicate (j - i) (Value.chan none)) := kM HW9
        have HB9 : Hid (W9.heap[g]? = some (.cells ((kpC c cs).map chV ++ List.replicate (j - i) (Value.chan none) ++ sp).toArray 102 (0, 0))) := by
          show _ = _
          rw [hS9]
          have h2 : i = ((kpC c cs).map chV).length := by rw [List.length_map]; exact hig
          rw [h2]
          refine sets_blk (q := mid.map chV) ?_ (by simp; omega)
          rw [hb, List.map_append]
        have HG9 : Hid (w.grownBy W9 (some g)) := by
          have hb3 := sets_below (b := g) (B := g) (w := wr) (Nat.le_refl _) (vs := List.replicate (j - i) (Value.chan none)) (o := i) (Below.refl _ wr)
          show World.grownBy _ _ _
          rw [hS9]
          exact ⟨hb3.os.trans HD.out.gr.os, hb3.tape.trans HD.out.gr.tape, hb3.output.trans HD.out.gr.output, Nat.le_trans HD.out.gr.size hb3.size, fun q hq hne => (sets_keep (w := wr) (fun e => hne (by rw [e]))).trans (HD.out.gr.block q hq hne)⟩
        rw [← HW9.out] at hclr
        have HIG := Lib.hid hig
        have HSP := Lib.hid hspl
        have hic : i ≤ cap := by omega
        have hin : i ≤ j := by omega
        have hi0 : (0 : Int) ≤ (i : Int) := by omega
        have hijI : ¬ (j : Int) < (i : Int) := by omega
        clear hig hml hspl hsize hlm hb hkt hm hS9 HD
        go_wp2_with fail
        go_ret
        refine ⟨_, rfl, ⟨by simp, .inr ⟨g, cap, _, by rw [← HIG.out]; rfl, HGB.out, HB9.out, by rw [← HIG.out]; exact hic, HCM.out, ?_, ?_⟩⟩, HG9.out, fun b hb => hb⟩
        · have h1 := HIG.out
          have h2 := HSP.out
          simp only [List.size_toArray, List.length_append, List.length_map, List.length_replicate]
          omega
        · rw [Nat.mul_one, List.toList_toArray, List.append_assoc, List.take_append_of_le_length (by simp)]
          exact List.take_of_length_le (by simp)
end Go.Proofs.YtfondpakbiagjaaGreatDoor
