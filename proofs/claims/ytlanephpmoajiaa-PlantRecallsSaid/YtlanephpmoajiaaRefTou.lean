/- The walk of the reference's touched. -/
import Derived.Test.YtlanephpmoajiaaRefUse
import Derived.Test.YtlanephpmoajiaaFromLw
import Derived.Deep.RegionHeld3
namespace Go.Proofs.Ytlanephpmoajiaa
open Go.RowKit
set_option linter.unusedVariables false
set_option linter.unusedSimpArgs false
/-- The items that are touched at once. -/
def atOnce (xs : List ItemD) (f : FaultD) : List Bool := xs.map (fun x => during f x.at_ && chosenB x f.item)
theorem atOnce_len (xs : List ItemD) (f : FaultD) : (atOnce xs f).length = xs.length := by simp [atOnce]
/-- While the first k have been looked at. -/
def tUp (xs : List ItemD) (f : FaultD) (k : Nat) : List Bool := (atOnce xs f).mapIdx (fun t b => decide (t < k) && b)
theorem tUp_len (xs : List ItemD) (f : FaultD) (k : Nat) : (tUp xs f k).length = xs.length := by unfold tUp; rw [List.length_mapIdx, atOnce_len]
theorem tUp_zero (xs : List ItemD) (f : FaultD) : tUp xs f 0 = List.replicate xs.length false := by
  refine List.ext_getElem (by rw [tUp_len]; simp) fun t h1 h2 => ?_
  simp only [tUp, List.getElem_mapIdx, List.getElem_replicate]
  simp
theorem tUp_all (xs : List ItemD) (f : FaultD) : tUp xs f xs.length = atOnce xs f := by
  refine List.ext_getElem (by rw [tUp_len, atOnce_len]) fun t h1 h2 => ?_
  have h3 := h1
  rw [tUp_len] at h3
  simp only [tUp, List.getElem_mapIdx]
  simp [h3]
theorem tUp_succ {xs : List ItemD} {f : FaultD} {k : Nat} {x : ItemD} (hx : xs[k]? = some x) : (tUp xs f k).set k (during f x.at_ && chosenB x f.item) = tUp xs f (k + 1) := by
  have hk := (List.getElem?_eq_some_iff.1 hx).1
  refine List.ext_getElem? fun t => ?_
  rw [List.getElem?_set, tUp_len]
  unfold tUp atOnce
  rw [List.getElem?_mapIdx, List.getElem?_mapIdx, List.getElem?_map]
  by_cases h : k = t
  · subst h
    rw [if_pos rfl, if_pos hk, hx]
    simp
  · rw [if_neg h]
    cases xs[t]? with
    | none => rfl
    | some y =>
      simp only [Option.map_some]
      by_cases h2 : t < k
      · rw [decide_eq_true h2, decide_eq_true (show t < k + 1 by omega)]
      · rw [decide_eq_false h2, decide_eq_false (show ¬ t < k + 1 by omega)]
theorem op_at' {l : List Oper} {i : Nat} {o : Oper} (h : l[i]? = some o) : l.toArray[i]? = some o := by simpa using h
structure TouW (w : World) (it : ByteArray) (si un : Int) (n : Nat) (m : List Bool) (wr : World) : Prop where
  box : wr.heap[w.heap.size]? = some (.cells #[.string it, .int .i64 si, .int .i64 un] 106)
  own : wr.ownsRow (w.heap.size + 1) 4 1 (.slice (some ⟨w.heap.size + 1, 0, none⟩) n n) n (m.map Value.bool)
  bel : Below w.heap.size w wr
section
variable {w wr w2 : World} {it : ByteArray} {si un : Int} {n : Nat} {m : List Bool}
theorem TouW.lt (h : TouW w it si un n m wr) : w.heap.size < wr.heap.size := (Array.getElem?_eq_some_iff.1 h.box).1
theorem TouW.gt (h : TouW w it si un n m wr) : w.heap.size + 1 < wr.heap.size := (h.own.lt (w.heap.size + 1) (by simp [Value.ownBlock])).2
theorem TouW.below (h : TouW w it si un n m wr) (hb : Below wr.heap.size wr w2) : TouW w it si un n m w2 :=
  ⟨(hb.block _ h.lt).trans h.box, h.own.kept (row := none) ⟨hb.os, hb.tape, hb.output, hb.size, fun k hk _ => hb.block k hk⟩ (Classical.em _), h.bel.trans (hb.mono h.bel.size)⟩
theorem TouW.put (h : TouW w it si un n m wr) (k : Nat) (v : Bool) : TouW w it si un n (m.set k v) (wr.setCell ⟨w.heap.size + 1, k, none⟩ (.bool v)) := by
  have hk : Keep (fun b => b ≠ w.heap.size + 1) wr (wr.setCell ⟨w.heap.size + 1, k, none⟩ (.bool v)) := (Keep.refl _ wr).setCell (fun h => h rfl) _
  exact ⟨(hk.block _ (by omega)).trans h.box, by have := (h.own.stored k (.bool v)).1; rw [List.map_set]; exact this, h.bel.setCell (p := ⟨w.heap.size + 1, k, none⟩) (by simp) _⟩
theorem TouW.cells (h : TouW w it si un n m wr) {k : Nat} (hk : k < n) : (∃ b, wr.cell? ⟨w.heap.size + 1, k, none⟩ = some (.bool b)) ∧ wr.frozen? ⟨w.heap.size + 1, k, none⟩ = false := by
  have hl := h.own.1
  simp at hl
  have hc := h.own.cellAt k (by simpa using hk)
  rw [List.getElem?_map, List.getElem?_eq_getElem (by omega)] at hc
  exact ⟨⟨_, hc⟩, h.own.frozenAt k⟩
end
theorem during_cases (f : FaultD) (a : Int) : (a < f.since ∧ during f a = false) ∨ (f.since ≤ a ∧ f.until_ < a ∧ during f a = false) ∨ (f.since ≤ a ∧ a ≤ f.until_ ∧ during f a = true) := by
  unfold during
  by_cases h1 : f.since ≤ a
  · by_cases h2 : a ≤ f.until_
    · exact .inr (.inr ⟨h1, h2, by simp [h1, h2]⟩)
    · exact .inr (.inl ⟨h1, by omega, by simp [h2]⟩)
  · exact .inl ⟨by omega, by simp [h1]⟩
set_option maxRecDepth 100000 in
set_option maxHeartbeats 2000000 in
theorem refTouchedMs_any (v : Value) (xs : List ItemD) (f : FaultD) (S : Nat → Prop) (w : World) (hv : RdI w S v xs) (hxl : xs.length ≤ 1024) :
    Calls Try.prog 82 #[v, .agg #[.string f.item, .int .i64 f.since, .int .i64 f.until_]] w fun e w' => (∃ v', e = .returned v' ∧ w'.ownsRow w.heap.size 4 1 v' xs.length ((fromGo xs (atOnce xs f) xs.length).map Value.bool)) ∧ Below w.heap.size w w' := by
  obtain ⟨it, si, un⟩ := f
  simp only
  obtain ⟨i0, hi0, hz0, hz1, hz2⟩ := info_parts info4
  have HV := Lib.hid hv
  obtain ⟨A, n, cap, rfl, hn, hcap, hmax, hc⟩ := hv.lt.open_
  have hn1024 : n ≤ 1024 := by omega
  have HN := Lib.hid hn
  have HC := Lib.hid hc
  have HXL := Lib.hid hxl
  have hm := heap_alloc_new w (.cells #[.string it, .int .i64 si, .int .i64 un] 106)
  have hb0 : Below w.heap.size w (w.alloc (.cells #[.string it, .int .i64 si, .int .i64 un] 106)) := (Below.refl _ w).alloc (Nat.le_refl _) _
  obtain ⟨W1, hW1⟩ : ∃ W1, W1 = w.alloc (.cells #[.string it, .int .i64 si, .int .i64 un] 106) := ⟨_, rfl⟩
  have hsz : W1.heap.size = w.heap.size + 1 := by rw [hW1]; simp
  rw [← hW1] at hm hb0
  have HW1 := Lib.hid hW1
  have HSZ := Lib.hid hsz
  clear hn hc hv hxl hW1 hsz
  go_enter Try.func82, Try.ntmps82
  go_wp2_with (at_make; rw [← HW1.out]; refine wpList_make_full _ rfl _ _ 122 rfl W1.heap.size 4 i0 (.bool false) 1 Try.underlying122 hi0 hz0 hz1 .i64 .i64 (n : Int) (n : Int) n rfl rfl rfl rfl (by rw [hz2]; omega) (by unfold maxLen; omega) (Nat.le_refl _) ?_; rw [HSZ.out]; intro w1 hown hgrow)
  have HT0 : Hid (TouW w it si un n (tUp xs ⟨it, si, un⟩ 0) w1) := by
    have hbg : Below W1.heap.size W1 w1 := (Below.refl _ W1).grown hgrow (Nat.le_refl _) (fun k hk => by simp at hk)
    refine ⟨(hbg.block _ (by rw [HSZ.out]; omega)).trans hm, ?_, hb0.trans (hbg.mono (by rw [HSZ.out]; omega))⟩
    rw [tUp_zero, HN.out]
    rw [made_false] at hown
    exact hown
  clear hown hgrow hm hb0
  go_wp2_with fail
  go_loopw [6] (fun iv wr => ∃ k : Nat, k ≤ n ∧ iv = .int .i64 k ∧ TouW w it si un n (tUp xs ⟨it, si, un⟩ k) wr) (fun iv _ => n - (intOf iv).toNat)
  case atStart => exact ⟨0, Nat.zero_le _, rfl, HT0.out⟩
  case round =>
    clear HT0
    obtain ⟨k, hk, rfl, hT⟩ := hrel
    by_cases hlt : k < n
    · obtain ⟨b, off, x, fx, rfl, ⟨_, hbw⟩, hx, c0, c1, c2, c3, hfr⟩ := HC.out k hlt
      have hfr' := hfr.keep (Keep.refl _ _)
      obtain ⟨Af, nf, cf, rfl⟩ := hfr.isSlice
      have d0 : wr.cell? ⟨b, off + k * 4, none⟩ = _ := (hT.bel.cell (p := ⟨b, _, none⟩) hbw).trans c0
      have d1 : wr.cell? ⟨b, off + k * 4 + 1, none⟩ = _ := (hT.bel.cell (p := ⟨b, _, none⟩) hbw).trans c1
      have d2 : wr.cell? ⟨b, off + k * 4 + 2, none⟩ = _ := (hT.bel.cell (p := ⟨b, _, none⟩) hbw).trans c2
      have d3 : wr.cell? ⟨b, off + k * 4 + 3, none⟩ = _ := (hT.bel.cell (p := ⟨b, _, none⟩) hbw).trans c3
      have y0 := cell_of_row wr _ 0 _ _ _ hT.box
      have y1 := cell_of_row wr _ 1 _ _ _ hT.box
      have y2 := cell_of_row wr _ 2 _ _ _ hT.box
      obtain ⟨⟨ob, hob⟩, hof⟩ := hT.cells hlt
      have hgl := hT.gt
      have hSUC := tUp_succ (f := ⟨it, si, un⟩) hx
      simp only at hSUC
      have HCH := Lib.hid (fun u (h : Below wr.heap.size wr u) => chosen_any x (.slice Af nf cf) it _ u ((hfr.below hT.bel).below h))
      have hD := during_cases ⟨it, si, un⟩ x.at_
      simp only at hD
      obtain ⟨q, hq⟩ : ∃ q, q = chosenB x it := ⟨_, rfl⟩
      rw [← hq] at hSUC HCH
      obtain ⟨dq, hdq⟩ : ∃ dq, dq = during ⟨it, si, un⟩ x.at_ := ⟨_, rfl⟩
      rw [← hdq] at hSUC hD
      obtain ⟨xn, xk, xa, xf⟩ := x
      simp only at d0 d1 d2 d3 hD HCH
      have HS := Lib.hid hSUC
      have HT := Lib.hid hT
      have i1 : (0 : Int) ≤ (k : Int) := by omega
      have i2 : (k : Int) < (n : Int) := by omega
      have hbl : b < wr.heap.size := by have := hT.bel.size; omega
      have hwl : w.heap.size < wr.heap.size := hT.lt
      have hne1 : b ≠ w.heap.size + 1 := by omega
      have hne2 : w.heap.size + 1 ≠ b := by omega
      have hne3 : w.heap.size ≠ w.heap.size + 1 := by omega
      have hne4 : w.heap.size + 1 ≠ w.heap.size := by omega
      clear hx c0 c1 c2 c3 hfr hfr' hSUC hq hdq hT
      rcases hD with ⟨h1, rfl⟩ | ⟨h1, h2, rfl⟩ | ⟨h1, h2, rfl⟩
      · have h3 : decide (si ≤ xa) = false := by simp; omega
        go_wp2_with fail
        refine wp_region_held_drew (S := (fun w' => w'.cell? ⟨b, off + k * 4, none⟩ = some (.string xn) ∧ w'.cell? ⟨b, off + k * 4 + 1, none⟩ = some (.int .i64 xk) ∧ w'.cell? ⟨b, off + k * 4 + 2, none⟩ = some (.int .i64 xa) ∧ w'.cell? ⟨b, off + k * 4 + 3, none⟩ = some (.slice Af nf cf) ∧ w'.cell? ⟨w.heap.size, 0, none⟩ = some (.string it) ∧ w'.cell? ⟨w.heap.size, 1, none⟩ = some (.int .i64 si) ∧ w'.cell? ⟨w.heap.size, 2, none⟩ = some (.int .i64 un))) (by kernel_rfl) (by exact ⟨d0, d1, d2, d3, y0, y1, y2⟩) (fun hHeld => ?_)
        refine wpAnyH_take (i := 0) (v := ?_) (op_at' rfl) (by kernel_rfl) (by kernel_rfl) (by kernel_rfl) (fun _ _ _ h => h) (Or.inl ⟨by rfl, ?_⟩) (by assumption) ?_
        rotate_left
        · intro w' hSw; (try dsimp only at hSw); go_simp; try with_reducible rfl
        try simp only [Act.put, List.setIfInBounds_toArray, List.set_cons_zero, List.set_cons_succ]
        refine wpAnyH_take (i := 1) (v := ?_) (op_at' rfl) (by kernel_rfl) (by kernel_rfl) (by kernel_rfl) (fun _ _ _ h => h) (Or.inl ⟨by rfl, ?_⟩) (by assumption) ?_
        rotate_left
        · intro w' hSw; (try dsimp only at hSw); go_simp; try with_reducible rfl
        try simp only [Act.put, List.setIfInBounds_toArray, List.set_cons_zero, List.set_cons_succ]
        refine wpAnyH_take (i := 2) (v := ?_) (op_at' rfl) (by kernel_rfl) (by kernel_rfl) (by kernel_rfl) (fun _ _ _ h => h) (Or.inl ⟨by rfl, ?_⟩) (by assumption) ?_
        rotate_left
        · intro w' hSw; (try dsimp only at hSw); go_simp; try with_reducible rfl
        try simp only [Act.put, List.setIfInBounds_toArray, List.set_cons_zero, List.set_cons_succ]
        refine wpAnyH_take (i := 3) (v := ?_) (op_at' rfl) (by kernel_rfl) (by kernel_rfl) (by kernel_rfl) (fun _ _ _ h => h) (Or.inl ⟨by rfl, ?_⟩) (by assumption) ?_
        rotate_left
        · intro w' hSw; (try dsimp only at hSw); go_simp; try with_reducible rfl
        try simp only [Act.put, List.setIfInBounds_toArray, List.set_cons_zero, List.set_cons_succ]
        refine wpAnyH_take (i := 4) (v := ?_) (op_at' rfl) (by kernel_rfl) (by kernel_rfl) (by kernel_rfl) (fun _ _ _ h => h) (Or.inl ⟨by rfl, ?_⟩) (by assumption) ?_
        rotate_left
        · intro w' hSw; (try dsimp only at hSw); go_simp; try with_reducible rfl
        try simp only [Act.put, List.setIfInBounds_toArray, List.set_cons_zero, List.set_cons_succ]
        refine wpAnyH_take (i := 5) (v := ?_) (op_at' rfl) (by kernel_rfl) (by kernel_rfl) (by kernel_rfl) (fun _ _ _ h => h) (Or.inl ⟨by rfl, ?_⟩) (by assumption) ?_
        rotate_left
        · intro w' hSw; (try dsimp only at hSw); go_simp; try with_reducible rfl
        try simp only [Act.put, List.setIfInBounds_toArray, List.set_cons_zero, List.set_cons_succ]
        refine wpAnyH_take (i := 6) (v := ?_) (op_at' rfl) (by kernel_rfl) (by kernel_rfl) (by kernel_rfl) (fun _ _ _ h => h) (Or.inl ⟨by rfl, ?_⟩) (by assumption) ?_
        rotate_left
        · intro w' hSw; (try dsimp only at hSw); go_simp; try with_reducible rfl
        try simp only [Act.put, List.setIfInBounds_toArray, List.set_cons_zero, List.set_cons_succ]
        refine wpAnyH_take (i := 7) (v := ?_) (op_at' rfl) (by kernel_rfl) (by kernel_rfl) (by kernel_rfl) (fun _ _ _ h => h) (Or.inl ⟨by rfl, ?_⟩) (by assumption) ?_
        rotate_left
        · intro w' hSw; (try dsimp only at hSw); go_simp; try with_reducible rfl
        try simp only [Act.put, List.setIfInBounds_toArray, List.set_cons_zero, List.set_cons_succ]
        refine wpAnyH_take (i := 8) (v := ?_) (op_at' rfl) (by kernel_rfl) (by kernel_rfl) (by kernel_rfl) (fun _ _ _ h => h) (Or.inl ⟨by rfl, ?_⟩) (by assumption) ?_
        rotate_left
        · intro w' hSw; (try dsimp only at hSw); go_simp; try with_reducible rfl
        try simp only [Act.put, List.setIfInBounds_toArray, List.set_cons_zero, List.set_cons_succ]
        refine wpAnyH_take (i := 9) (v := ?_) (op_at' rfl) (by kernel_rfl) (by kernel_rfl) (by kernel_rfl) (fun _ _ _ h => h) (Or.inl ⟨by rfl, ?_⟩) (by assumption) ?_
        rotate_left
        · intro w' hSw; (try dsimp only at hSw); go_simp; try with_reducible rfl
        try simp only [Act.put, List.setIfInBounds_toArray, List.set_cons_zero, List.set_cons_succ]
        refine wpAnyH_take (i := 10) (v := ?_) (op_at' rfl) (by kernel_rfl) (by kernel_rfl) (by kernel_rfl) (fun _ _ _ h => h) (Or.inl ⟨by rfl, ?_⟩) (by assumption) ?_
        rotate_left
        · intro w' hSw; (try dsimp only at hSw); go_simp; try with_reducible rfl
        try simp only [Act.put, List.setIfInBounds_toArray, List.set_cons_zero, List.set_cons_succ]
        refine wpAnyH_take (i := 11) (v := undef) (op_at' rfl) (by kernel_rfl) (by kernel_rfl) (by kernel_rfl) (fun _ _ _ h => h) (Or.inr ⟨by rfl, rfl⟩) (by assumption) ?_
        try simp only [Act.put, List.setIfInBounds_toArray, List.set_cons_zero, List.set_cons_succ]
        refine wpAnyH_take (i := 12) (v := undef) (op_at' rfl) (by kernel_rfl) (by kernel_rfl) (by kernel_rfl) (fun _ _ _ h => h) (Or.inr ⟨by rfl, rfl⟩) (by assumption) ?_
        try simp only [Act.put, List.setIfInBounds_toArray, List.set_cons_zero, List.set_cons_succ]
        refine wpAnyH_take (i := 13) (v := undef) (op_at' rfl) (by kernel_rfl) (by kernel_rfl) (by kernel_rfl) (fun _ _ _ h => h) (Or.inr ⟨by rfl, rfl⟩) (by assumption) ?_
        try simp only [Act.put, List.setIfInBounds_toArray, List.set_cons_zero, List.set_cons_succ]
        refine wpAnyH_take (i := 14) (v := undef) (op_at' rfl) (by kernel_rfl) (by kernel_rfl) (by kernel_rfl) (fun _ _ _ h => h) (Or.inr ⟨by rfl, rfl⟩) (by assumption) ?_
        try simp only [Act.put, List.setIfInBounds_toArray, List.set_cons_zero, List.set_cons_succ]
        refine wpAnyH_take (i := 15) (v := undef) (op_at' rfl) (by kernel_rfl) (by kernel_rfl) (by kernel_rfl) (fun _ _ _ h => h) (Or.inr ⟨by rfl, rfl⟩) (by assumption) ?_
        try simp only [Act.put, List.setIfInBounds_toArray, List.set_cons_zero, List.set_cons_succ]
        refine wpAnyH_take (i := 16) (v := undef) (op_at' rfl) (by kernel_rfl) (by kernel_rfl) (by kernel_rfl) (fun _ _ _ h => h) (Or.inr ⟨by rfl, rfl⟩) (by assumption) ?_
        try simp only [Act.put, List.setIfInBounds_toArray, List.set_cons_zero, List.set_cons_succ]
        refine wpAnyH_take (i := 17) (v := undef) (op_at' rfl) (by kernel_rfl) (by kernel_rfl) (by kernel_rfl) (fun _ _ _ h => h) (Or.inr ⟨by rfl, rfl⟩) (by assumption) ?_
        try simp only [Act.put, List.setIfInBounds_toArray, List.set_cons_zero, List.set_cons_succ]
        refine wpAnyH_take (i := 18) (v := undef) (op_at' rfl) (by kernel_rfl) (by kernel_rfl) (by kernel_rfl) (fun _ _ _ h => h) (Or.inr ⟨by rfl, rfl⟩) (by assumption) ?_
        try simp only [Act.put, List.setIfInBounds_toArray, List.set_cons_zero, List.set_cons_succ]
        refine wpAnyH_take (i := 19) (v := ?_) (op_at' rfl) (by kernel_rfl) (by kernel_rfl) (by kernel_rfl) (fun _ _ _ h => h) (Or.inl ⟨by rfl, ?_⟩) (by assumption) ?_
        rotate_left
        · intro w' hSw; (try dsimp only at hSw); go_simp; try with_reducible rfl
        try simp only [Act.put, List.setIfInBounds_toArray, List.set_cons_zero, List.set_cons_succ]
        refine wpAnyH_take (i := 20) (v := ?_) (op_at' rfl) (by kernel_rfl) (by kernel_rfl) (by kernel_rfl) (fun _ _ _ h => h) (Or.inl ⟨by rfl, ?_⟩) (by assumption) ?_
        rotate_left
        · intro w' hSw; (try dsimp only at hSw); go_simp; try with_reducible rfl
        try simp only [Act.put, List.setIfInBounds_toArray, List.set_cons_zero, List.set_cons_succ]
        refine wpAnyH_take (i := 21) (v := undef) (op_at' rfl) (by kernel_rfl) (by kernel_rfl) (by kernel_rfl) (fun _ _ _ h => h) (Or.inr ⟨by rfl, rfl⟩) (by assumption) ?_
        try simp only [Act.put, List.setIfInBounds_toArray, List.set_cons_zero, List.set_cons_succ]
        refine wpAnyH_take (i := 22) (v := undef) (op_at' rfl) (by kernel_rfl) (by kernel_rfl) (by kernel_rfl) (fun _ _ _ h => h) (Or.inr ⟨by rfl, rfl⟩) (by assumption) ?_
        try simp only [Act.put, List.setIfInBounds_toArray, List.set_cons_zero, List.set_cons_succ]
        refine wpAnyH_take (i := 23) (v := undef) (op_at' rfl) (by kernel_rfl) (by kernel_rfl) (by kernel_rfl) (fun _ _ _ h => h) (Or.inr ⟨by rfl, rfl⟩) (by assumption) ?_
        try simp only [Act.put, List.setIfInBounds_toArray, List.set_cons_zero, List.set_cons_succ]
        refine wpAnyH_take (i := 24) (v := undef) (op_at' rfl) (by kernel_rfl) (by kernel_rfl) (by kernel_rfl) (fun _ _ _ h => h) (Or.inr ⟨by rfl, rfl⟩) (by assumption) ?_
        try simp only [Act.put, List.setIfInBounds_toArray, List.set_cons_zero, List.set_cons_succ]
        refine wpAnyH_take (i := 25) (v := undef) (op_at' rfl) (by kernel_rfl) (by kernel_rfl) (by kernel_rfl) (fun _ _ _ h => h) (Or.inr ⟨by rfl, rfl⟩) (by assumption) ?_
        try simp only [Act.put, List.setIfInBounds_toArray, List.set_cons_zero, List.set_cons_succ]
        refine wpAnyH_take (i := 26) (v := undef) (op_at' rfl) (by kernel_rfl) (by kernel_rfl) (by kernel_rfl) (fun _ _ _ h => h) (Or.inr ⟨by rfl, rfl⟩) (by assumption) ?_
        try simp only [Act.put, List.setIfInBounds_toArray, List.set_cons_zero, List.set_cons_succ]
        refine wpAnyH_take (i := 27) (v := undef) (op_at' rfl) (by kernel_rfl) (by kernel_rfl) (by kernel_rfl) (fun _ _ _ h => h) (Or.inr ⟨by rfl, rfl⟩) (by assumption) ?_
        try simp only [Act.put, List.setIfInBounds_toArray, List.set_cons_zero, List.set_cons_succ]
        refine wpAnyH_take (i := 28) (v := ?_) (op_at' rfl) (by kernel_rfl) (by kernel_rfl) (by kernel_rfl) (fun _ _ _ h => h) (Or.inl ⟨by rfl, ?_⟩) (by assumption) ?_
        rotate_left
        · intro w' hSw; (try dsimp only at hSw); go_simp; try with_reducible rfl
        try simp only [Act.put, List.setIfInBounds_toArray, List.set_cons_zero, List.set_cons_succ]
        refine wpAnyH_take (i := 29) (v := ?_) (op_at' rfl) (by kernel_rfl) (by kernel_rfl) (by kernel_rfl) (fun _ _ _ h => h) (Or.inl ⟨by rfl, ?_⟩) (by assumption) ?_
        rotate_left
        · intro w' hSw; (try dsimp only at hSw); go_simp; try with_reducible rfl
        try simp only [Act.put, List.setIfInBounds_toArray, List.set_cons_zero, List.set_cons_succ]
        refine wpAnyH_ready (rs := [30]) (by kernel_rfl) (by simp) (AllReadyH.cons (op_at' rfl) (fun K hK => ?_) AllReadyH.nil)
        go_simp
        refine hK.out _ _ (by exact ⟨(World.cell?_setCell_far _ _ _ _ (by show w.heap.size + 1 ≠ b; omega)).trans d0, (World.cell?_setCell_far _ _ _ _ (by show w.heap.size + 1 ≠ b; omega)).trans d1, (World.cell?_setCell_far _ _ _ _ (by show w.heap.size + 1 ≠ b; omega)).trans d2, (World.cell?_setCell_far _ _ _ _ (by show w.heap.size + 1 ≠ b; omega)).trans d3, (World.cell?_setCell_far _ _ _ _ (by show w.heap.size + 1 ≠ w.heap.size; omega)).trans y0, (World.cell?_setCell_far _ _ _ _ (by show w.heap.size + 1 ≠ w.heap.size; omega)).trans y1, (World.cell?_setCell_far _ _ _ _ (by show w.heap.size + 1 ≠ w.heap.size; omega)).trans y2⟩) (fun hHeld3 => ?_)
        clear hK K
        try simp only [Act.put, List.setIfInBounds_toArray, List.set_cons_zero, List.set_cons_succ]
        refine wpAnyH_done (by kernel_rfl) ?_ _
        clear hHeld3
        go_wp2_with fail
        go_roundw
        case rel => exact ⟨k + 1, by omega, by go_num, by have h9 := (HT.out.put k false).below ((Below.refl _ _).drew); rw [show (tUp xs ⟨it, si, un⟩ k).set k false = _ from HS.out] at h9; exact h9⟩
        case measure => simp [intOf]; omega
      · have h3 : decide (si ≤ xa) = true := by simp; omega
        have h4 : decide (xa ≤ un) = false := by simp; omega
        go_wp2_with fail
        refine wp_region_held_drew (S := (fun w' => w'.cell? ⟨b, off + k * 4, none⟩ = some (.string xn) ∧ w'.cell? ⟨b, off + k * 4 + 1, none⟩ = some (.int .i64 xk) ∧ w'.cell? ⟨b, off + k * 4 + 2, none⟩ = some (.int .i64 xa) ∧ w'.cell? ⟨b, off + k * 4 + 3, none⟩ = some (.slice Af nf cf) ∧ w'.cell? ⟨w.heap.size, 0, none⟩ = some (.string it) ∧ w'.cell? ⟨w.heap.size, 1, none⟩ = some (.int .i64 si) ∧ w'.cell? ⟨w.heap.size, 2, none⟩ = some (.int .i64 un))) (by kernel_rfl) (by exact ⟨d0, d1, d2, d3, y0, y1, y2⟩) (fun hHeld => ?_)
        refine wpAnyH_take (i := 0) (v := ?_) (op_at' rfl) (by kernel_rfl) (by kernel_rfl) (by kernel_rfl) (fun _ _ _ h => h) (Or.inl ⟨by rfl, ?_⟩) (by assumption) ?_
        rotate_left
        · intro w' hSw; (try dsimp only at hSw); go_simp; try with_reducible rfl
        try simp only [Act.put, List.setIfInBounds_toArray, List.set_cons_zero, List.set_cons_succ]
        refine wpAnyH_take (i := 1) (v := ?_) (op_at' rfl) (by kernel_rfl) (by kernel_rfl) (by kernel_rfl) (fun _ _ _ h => h) (Or.inl ⟨by rfl, ?_⟩) (by assumption) ?_
        rotate_left
        · intro w' hSw; (try dsimp only at hSw); go_simp; try with_reducible rfl
        try simp only [Act.put, List.setIfInBounds_toArray, List.set_cons_zero, List.set_cons_succ]
        refine wpAnyH_take (i := 2) (v := ?_) (op_at' rfl) (by kernel_rfl) (by kernel_rfl) (by kernel_rfl) (fun _ _ _ h => h) (Or.inl ⟨by rfl, ?_⟩) (by assumption) ?_
        rotate_left
        · intro w' hSw; (try dsimp only at hSw); go_simp; try with_reducible rfl
        try simp only [Act.put, List.setIfInBounds_toArray, List.set_cons_zero, List.set_cons_succ]
        refine wpAnyH_take (i := 3) (v := ?_) (op_at' rfl) (by kernel_rfl) (by kernel_rfl) (by kernel_rfl) (fun _ _ _ h => h) (Or.inl ⟨by rfl, ?_⟩) (by assumption) ?_
        rotate_left
        · intro w' hSw; (try dsimp only at hSw); go_simp; try with_reducible rfl
        try simp only [Act.put, List.setIfInBounds_toArray, List.set_cons_zero, List.set_cons_succ]
        refine wpAnyH_take (i := 4) (v := ?_) (op_at' rfl) (by kernel_rfl) (by kernel_rfl) (by kernel_rfl) (fun _ _ _ h => h) (Or.inl ⟨by rfl, ?_⟩) (by assumption) ?_
        rotate_left
        · intro w' hSw; (try dsimp only at hSw); go_simp; try with_reducible rfl
        try simp only [Act.put, List.setIfInBounds_toArray, List.set_cons_zero, List.set_cons_succ]
        refine wpAnyH_take (i := 5) (v := ?_) (op_at' rfl) (by kernel_rfl) (by kernel_rfl) (by kernel_rfl) (fun _ _ _ h => h) (Or.inl ⟨by rfl, ?_⟩) (by assumption) ?_
        rotate_left
        · intro w' hSw; (try dsimp only at hSw); go_simp; try with_reducible rfl
        try simp only [Act.put, List.setIfInBounds_toArray, List.set_cons_zero, List.set_cons_succ]
        refine wpAnyH_take (i := 6) (v := ?_) (op_at' rfl) (by kernel_rfl) (by kernel_rfl) (by kernel_rfl) (fun _ _ _ h => h) (Or.inl ⟨by rfl, ?_⟩) (by assumption) ?_
        rotate_left
        · intro w' hSw; (try dsimp only at hSw); go_simp; try with_reducible rfl
        try simp only [Act.put, List.setIfInBounds_toArray, List.set_cons_zero, List.set_cons_succ]
        refine wpAnyH_take (i := 7) (v := ?_) (op_at' rfl) (by kernel_rfl) (by kernel_rfl) (by kernel_rfl) (fun _ _ _ h => h) (Or.inl ⟨by rfl, ?_⟩) (by assumption) ?_
        rotate_left
        · intro w' hSw; (try dsimp only at hSw); go_simp; try with_reducible rfl
        try simp only [Act.put, List.setIfInBounds_toArray, List.set_cons_zero, List.set_cons_succ]
        refine wpAnyH_take (i := 8) (v := ?_) (op_at' rfl) (by kernel_rfl) (by kernel_rfl) (by kernel_rfl) (fun _ _ _ h => h) (Or.inl ⟨by rfl, ?_⟩) (by assumption) ?_
        rotate_left
        · intro w' hSw; (try dsimp only at hSw); go_simp; try with_reducible rfl
        try simp only [Act.put, List.setIfInBounds_toArray, List.set_cons_zero, List.set_cons_succ]
        refine wpAnyH_take (i := 9) (v := ?_) (op_at' rfl) (by kernel_rfl) (by kernel_rfl) (by kernel_rfl) (fun _ _ _ h => h) (Or.inl ⟨by rfl, ?_⟩) (by assumption) ?_
        rotate_left
        · intro w' hSw; (try dsimp only at hSw); go_simp; try with_reducible rfl
        try simp only [Act.put, List.setIfInBounds_toArray, List.set_cons_zero, List.set_cons_succ]
        refine wpAnyH_take (i := 10) (v := ?_) (op_at' rfl) (by kernel_rfl) (by kernel_rfl) (by kernel_rfl) (fun _ _ _ h => h) (Or.inl ⟨by rfl, ?_⟩) (by assumption) ?_
        rotate_left
        · intro w' hSw; (try dsimp only at hSw); go_simp; try with_reducible rfl
        try simp only [Act.put, List.setIfInBounds_toArray, List.set_cons_zero, List.set_cons_succ]
        refine wpAnyH_take (i := 11) (v := ?_) (op_at' rfl) (by kernel_rfl) (by kernel_rfl) (by kernel_rfl) (fun _ _ _ h => h) (Or.inl ⟨by rfl, ?_⟩) (by assumption) ?_
        rotate_left
        · intro w' hSw; (try dsimp only at hSw); go_simp; try with_reducible rfl
        try simp only [Act.put, List.setIfInBounds_toArray, List.set_cons_zero, List.set_cons_succ]
        refine wpAnyH_take (i := 12) (v := ?_) (op_at' rfl) (by kernel_rfl) (by kernel_rfl) (by kernel_rfl) (fun _ _ _ h => h) (Or.inl ⟨by rfl, ?_⟩) (by assumption) ?_
        rotate_left
        · intro w' hSw; (try dsimp only at hSw); go_simp; try with_reducible rfl
        try simp only [Act.put, List.setIfInBounds_toArray, List.set_cons_zero, List.set_cons_succ]
        refine wpAnyH_take (i := 13) (v := ?_) (op_at' rfl) (by kernel_rfl) (by kernel_rfl) (by kernel_rfl) (fun _ _ _ h => h) (Or.inl ⟨by rfl, ?_⟩) (by assumption) ?_
        rotate_left
        · intro w' hSw; (try dsimp only at hSw); go_simp; try with_reducible rfl
        try simp only [Act.put, List.setIfInBounds_toArray, List.set_cons_zero, List.set_cons_succ]
        refine wpAnyH_take (i := 14) (v := ?_) (op_at' rfl) (by kernel_rfl) (by kernel_rfl) (by kernel_rfl) (fun _ _ _ h => h) (Or.inl ⟨by rfl, ?_⟩) (by assumption) ?_
        rotate_left
        · intro w' hSw; (try dsimp only at hSw); go_simp; try with_reducible rfl
        try simp only [Act.put, List.setIfInBounds_toArray, List.set_cons_zero, List.set_cons_succ]
        refine wpAnyH_take (i := 15) (v := ?_) (op_at' rfl) (by kernel_rfl) (by kernel_rfl) (by kernel_rfl) (fun _ _ _ h => h) (Or.inl ⟨by rfl, ?_⟩) (by assumption) ?_
        rotate_left
        · intro w' hSw; (try dsimp only at hSw); go_simp; try with_reducible rfl
        try simp only [Act.put, List.setIfInBounds_toArray, List.set_cons_zero, List.set_cons_succ]
        refine wpAnyH_take (i := 16) (v := ?_) (op_at' rfl) (by kernel_rfl) (by kernel_rfl) (by kernel_rfl) (fun _ _ _ h => h) (Or.inl ⟨by rfl, ?_⟩) (by assumption) ?_
        rotate_left
        · intro w' hSw; (try dsimp only at hSw); go_simp; try with_reducible rfl
        try simp only [Act.put, List.setIfInBounds_toArray, List.set_cons_zero, List.set_cons_succ]
        refine wpAnyH_take (i := 17) (v := ?_) (op_at' rfl) (by kernel_rfl) (by kernel_rfl) (by kernel_rfl) (fun _ _ _ h => h) (Or.inl ⟨by rfl, ?_⟩) (by assumption) ?_
        rotate_left
        · intro w' hSw; (try dsimp only at hSw); go_simp; try with_reducible rfl
        try simp only [Act.put, List.setIfInBounds_toArray, List.set_cons_zero, List.set_cons_succ]
        refine wpAnyH_take (i := 18) (v := ?_) (op_at' rfl) (by kernel_rfl) (by kernel_rfl) (by kernel_rfl) (fun _ _ _ h => h) (Or.inl ⟨by rfl, ?_⟩) (by assumption) ?_
        rotate_left
        · intro w' hSw; (try dsimp only at hSw); go_simp; try with_reducible rfl
        try simp only [Act.put, List.setIfInBounds_toArray, List.set_cons_zero, List.set_cons_succ]
        refine wpAnyH_take (i := 19) (v := ?_) (op_at' rfl) (by kernel_rfl) (by kernel_rfl) (by kernel_rfl) (fun _ _ _ h => h) (Or.inl ⟨by rfl, ?_⟩) (by assumption) ?_
        rotate_left
        · intro w' hSw; (try dsimp only at hSw); go_simp; try with_reducible rfl
        try simp only [Act.put, List.setIfInBounds_toArray, List.set_cons_zero, List.set_cons_succ]
        refine wpAnyH_take (i := 20) (v := ?_) (op_at' rfl) (by kernel_rfl) (by kernel_rfl) (by kernel_rfl) (fun _ _ _ h => h) (Or.inl ⟨by rfl, ?_⟩) (by assumption) ?_
        rotate_left
        · intro w' hSw; (try dsimp only at hSw); go_simp; try with_reducible rfl
        try simp only [Act.put, List.setIfInBounds_toArray, List.set_cons_zero, List.set_cons_succ]
        refine wpAnyH_take (i := 21) (v := undef) (op_at' rfl) (by kernel_rfl) (by kernel_rfl) (by kernel_rfl) (fun _ _ _ h => h) (Or.inr ⟨by rfl, rfl⟩) (by assumption) ?_
        try simp only [Act.put, List.setIfInBounds_toArray, List.set_cons_zero, List.set_cons_succ]
        refine wpAnyH_take (i := 22) (v := undef) (op_at' rfl) (by kernel_rfl) (by kernel_rfl) (by kernel_rfl) (fun _ _ _ h => h) (Or.inr ⟨by rfl, rfl⟩) (by assumption) ?_
        try simp only [Act.put, List.setIfInBounds_toArray, List.set_cons_zero, List.set_cons_succ]
        refine wpAnyH_take (i := 23) (v := undef) (op_at' rfl) (by kernel_rfl) (by kernel_rfl) (by kernel_rfl) (fun _ _ _ h => h) (Or.inr ⟨by rfl, rfl⟩) (by assumption) ?_
        try simp only [Act.put, List.setIfInBounds_toArray, List.set_cons_zero, List.set_cons_succ]
        refine wpAnyH_take (i := 24) (v := undef) (op_at' rfl) (by kernel_rfl) (by kernel_rfl) (by kernel_rfl) (fun _ _ _ h => h) (Or.inr ⟨by rfl, rfl⟩) (by assumption) ?_
        try simp only [Act.put, List.setIfInBounds_toArray, List.set_cons_zero, List.set_cons_succ]
        refine wpAnyH_take (i := 25) (v := undef) (op_at' rfl) (by kernel_rfl) (by kernel_rfl) (by kernel_rfl) (fun _ _ _ h => h) (Or.inr ⟨by rfl, rfl⟩) (by assumption) ?_
        try simp only [Act.put, List.setIfInBounds_toArray, List.set_cons_zero, List.set_cons_succ]
        refine wpAnyH_take (i := 26) (v := undef) (op_at' rfl) (by kernel_rfl) (by kernel_rfl) (by kernel_rfl) (fun _ _ _ h => h) (Or.inr ⟨by rfl, rfl⟩) (by assumption) ?_
        try simp only [Act.put, List.setIfInBounds_toArray, List.set_cons_zero, List.set_cons_succ]
        refine wpAnyH_take (i := 27) (v := undef) (op_at' rfl) (by kernel_rfl) (by kernel_rfl) (by kernel_rfl) (fun _ _ _ h => h) (Or.inr ⟨by rfl, rfl⟩) (by assumption) ?_
        try simp only [Act.put, List.setIfInBounds_toArray, List.set_cons_zero, List.set_cons_succ]
        refine wpAnyH_take (i := 28) (v := ?_) (op_at' rfl) (by kernel_rfl) (by kernel_rfl) (by kernel_rfl) (fun _ _ _ h => h) (Or.inl ⟨by rfl, ?_⟩) (by assumption) ?_
        rotate_left
        · intro w' hSw; (try dsimp only at hSw); go_simp; try with_reducible rfl
        try simp only [Act.put, List.setIfInBounds_toArray, List.set_cons_zero, List.set_cons_succ]
        refine wpAnyH_take (i := 29) (v := ?_) (op_at' rfl) (by kernel_rfl) (by kernel_rfl) (by kernel_rfl) (fun _ _ _ h => h) (Or.inl ⟨by rfl, ?_⟩) (by assumption) ?_
        rotate_left
        · intro w' hSw; (try dsimp only at hSw); go_simp; try with_reducible rfl
        try simp only [Act.put, List.setIfInBounds_toArray, List.set_cons_zero, List.set_cons_succ]
        refine wpAnyH_ready (rs := [30]) (by kernel_rfl) (by simp) (AllReadyH.cons (op_at' rfl) (fun K hK => ?_) AllReadyH.nil)
        go_simp
        refine hK.out _ _ (by exact ⟨(World.cell?_setCell_far _ _ _ _ (by show w.heap.size + 1 ≠ b; omega)).trans d0, (World.cell?_setCell_far _ _ _ _ (by show w.heap.size + 1 ≠ b; omega)).trans d1, (World.cell?_setCell_far _ _ _ _ (by show w.heap.size + 1 ≠ b; omega)).trans d2, (World.cell?_setCell_far _ _ _ _ (by show w.heap.size + 1 ≠ b; omega)).trans d3, (World.cell?_setCell_far _ _ _ _ (by show w.heap.size + 1 ≠ w.heap.size; omega)).trans y0, (World.cell?_setCell_far _ _ _ _ (by show w.heap.size + 1 ≠ w.heap.size; omega)).trans y1, (World.cell?_setCell_far _ _ _ _ (by show w.heap.size + 1 ≠ w.heap.size; omega)).trans y2⟩) (fun hHeld3 => ?_)
        clear hK K
        try simp only [Act.put, List.setIfInBounds_toArray, List.set_cons_zero, List.set_cons_succ]
        refine wpAnyH_done (by kernel_rfl) ?_ _
        clear hHeld3
        go_wp2_with fail
        go_roundw
        case rel => exact ⟨k + 1, by omega, by go_num, by have h9 := (HT.out.put k false).below ((Below.refl _ _).drew); rw [show (tUp xs ⟨it, si, un⟩ k).set k false = _ from HS.out] at h9; exact h9⟩
        case measure => simp [intOf]; omega
      · have h3 : decide (si ≤ xa) = true := by simp; omega
        have h4 : decide (xa ≤ un) = true := by simp; omega
        go_wp2_with fail
        refine wp_region_held_drew (S := (fun w' => w'.cell? ⟨b, off + k * 4, none⟩ = some (.string xn) ∧ w'.cell? ⟨b, off + k * 4 + 1, none⟩ = some (.int .i64 xk) ∧ w'.cell? ⟨b, off + k * 4 + 2, none⟩ = some (.int .i64 xa) ∧ w'.cell? ⟨b, off + k * 4 + 3, none⟩ = some (.slice Af nf cf) ∧ w'.cell? ⟨w.heap.size, 0, none⟩ = some (.string it) ∧ w'.cell? ⟨w.heap.size, 1, none⟩ = some (.int .i64 si) ∧ w'.cell? ⟨w.heap.size, 2, none⟩ = some (.int .i64 un))) (by kernel_rfl) (by exact ⟨d0, d1, d2, d3, y0, y1, y2⟩) (fun hHeld => ?_)
        refine wpAnyH_take (i := 0) (v := ?_) (op_at' rfl) (by kernel_rfl) (by kernel_rfl) (by kernel_rfl) (fun _ _ _ h => h) (Or.inl ⟨by rfl, ?_⟩) (by assumption) ?_
        rotate_left
        · intro w' hSw; (try dsimp only at hSw); go_simp; try with_reducible rfl
        try simp only [Act.put, List.setIfInBounds_toArray, List.set_cons_zero, List.set_cons_succ]
        refine wpAnyH_take (i := 1) (v := ?_) (op_at' rfl) (by kernel_rfl) (by kernel_rfl) (by kernel_rfl) (fun _ _ _ h => h) (Or.inl ⟨by rfl, ?_⟩) (by assumption) ?_
        rotate_left
        · intro w' hSw; (try dsimp only at hSw); go_simp; try with_reducible rfl
        try simp only [Act.put, List.setIfInBounds_toArray, List.set_cons_zero, List.set_cons_succ]
        refine wpAnyH_take (i := 2) (v := ?_) (op_at' rfl) (by kernel_rfl) (by kernel_rfl) (by kernel_rfl) (fun _ _ _ h => h) (Or.inl ⟨by rfl, ?_⟩) (by assumption) ?_
        rotate_left
        · intro w' hSw; (try dsimp only at hSw); go_simp; try with_reducible rfl
        try simp only [Act.put, List.setIfInBounds_toArray, List.set_cons_zero, List.set_cons_succ]
        refine wpAnyH_take (i := 3) (v := ?_) (op_at' rfl) (by kernel_rfl) (by kernel_rfl) (by kernel_rfl) (fun _ _ _ h => h) (Or.inl ⟨by rfl, ?_⟩) (by assumption) ?_
        rotate_left
        · intro w' hSw; (try dsimp only at hSw); go_simp; try with_reducible rfl
        try simp only [Act.put, List.setIfInBounds_toArray, List.set_cons_zero, List.set_cons_succ]
        refine wpAnyH_take (i := 4) (v := ?_) (op_at' rfl) (by kernel_rfl) (by kernel_rfl) (by kernel_rfl) (fun _ _ _ h => h) (Or.inl ⟨by rfl, ?_⟩) (by assumption) ?_
        rotate_left
        · intro w' hSw; (try dsimp only at hSw); go_simp; try with_reducible rfl
        try simp only [Act.put, List.setIfInBounds_toArray, List.set_cons_zero, List.set_cons_succ]
        refine wpAnyH_take (i := 5) (v := ?_) (op_at' rfl) (by kernel_rfl) (by kernel_rfl) (by kernel_rfl) (fun _ _ _ h => h) (Or.inl ⟨by rfl, ?_⟩) (by assumption) ?_
        rotate_left
        · intro w' hSw; (try dsimp only at hSw); go_simp; try with_reducible rfl
        try simp only [Act.put, List.setIfInBounds_toArray, List.set_cons_zero, List.set_cons_succ]
        refine wpAnyH_take (i := 6) (v := ?_) (op_at' rfl) (by kernel_rfl) (by kernel_rfl) (by kernel_rfl) (fun _ _ _ h => h) (Or.inl ⟨by rfl, ?_⟩) (by assumption) ?_
        rotate_left
        · intro w' hSw; (try dsimp only at hSw); go_simp; try with_reducible rfl
        try simp only [Act.put, List.setIfInBounds_toArray, List.set_cons_zero, List.set_cons_succ]
        refine wpAnyH_take (i := 7) (v := ?_) (op_at' rfl) (by kernel_rfl) (by kernel_rfl) (by kernel_rfl) (fun _ _ _ h => h) (Or.inl ⟨by rfl, ?_⟩) (by assumption) ?_
        rotate_left
        · intro w' hSw; (try dsimp only at hSw); go_simp; try with_reducible rfl
        try simp only [Act.put, List.setIfInBounds_toArray, List.set_cons_zero, List.set_cons_succ]
        refine wpAnyH_take (i := 8) (v := ?_) (op_at' rfl) (by kernel_rfl) (by kernel_rfl) (by kernel_rfl) (fun _ _ _ h => h) (Or.inl ⟨by rfl, ?_⟩) (by assumption) ?_
        rotate_left
        · intro w' hSw; (try dsimp only at hSw); go_simp; try with_reducible rfl
        try simp only [Act.put, List.setIfInBounds_toArray, List.set_cons_zero, List.set_cons_succ]
        refine wpAnyH_take (i := 9) (v := ?_) (op_at' rfl) (by kernel_rfl) (by kernel_rfl) (by kernel_rfl) (fun _ _ _ h => h) (Or.inl ⟨by rfl, ?_⟩) (by assumption) ?_
        rotate_left
        · intro w' hSw; (try dsimp only at hSw); go_simp; try with_reducible rfl
        try simp only [Act.put, List.setIfInBounds_toArray, List.set_cons_zero, List.set_cons_succ]
        refine wpAnyH_take (i := 10) (v := ?_) (op_at' rfl) (by kernel_rfl) (by kernel_rfl) (by kernel_rfl) (fun _ _ _ h => h) (Or.inl ⟨by rfl, ?_⟩) (by assumption) ?_
        rotate_left
        · intro w' hSw; (try dsimp only at hSw); go_simp; try with_reducible rfl
        try simp only [Act.put, List.setIfInBounds_toArray, List.set_cons_zero, List.set_cons_succ]
        refine wpAnyH_take (i := 11) (v := ?_) (op_at' rfl) (by kernel_rfl) (by kernel_rfl) (by kernel_rfl) (fun _ _ _ h => h) (Or.inl ⟨by rfl, ?_⟩) (by assumption) ?_
        rotate_left
        · intro w' hSw; (try dsimp only at hSw); go_simp; try with_reducible rfl
        try simp only [Act.put, List.setIfInBounds_toArray, List.set_cons_zero, List.set_cons_succ]
        refine wpAnyH_take (i := 12) (v := ?_) (op_at' rfl) (by kernel_rfl) (by kernel_rfl) (by kernel_rfl) (fun _ _ _ h => h) (Or.inl ⟨by rfl, ?_⟩) (by assumption) ?_
        rotate_left
        · intro w' hSw; (try dsimp only at hSw); go_simp; try with_reducible rfl
        try simp only [Act.put, List.setIfInBounds_toArray, List.set_cons_zero, List.set_cons_succ]
        refine wpAnyH_take (i := 13) (v := ?_) (op_at' rfl) (by kernel_rfl) (by kernel_rfl) (by kernel_rfl) (fun _ _ _ h => h) (Or.inl ⟨by rfl, ?_⟩) (by assumption) ?_
        rotate_left
        · intro w' hSw; (try dsimp only at hSw); go_simp; try with_reducible rfl
        try simp only [Act.put, List.setIfInBounds_toArray, List.set_cons_zero, List.set_cons_succ]
        refine wpAnyH_take (i := 14) (v := ?_) (op_at' rfl) (by kernel_rfl) (by kernel_rfl) (by kernel_rfl) (fun _ _ _ h => h) (Or.inl ⟨by rfl, ?_⟩) (by assumption) ?_
        rotate_left
        · intro w' hSw; (try dsimp only at hSw); go_simp; try with_reducible rfl
        try simp only [Act.put, List.setIfInBounds_toArray, List.set_cons_zero, List.set_cons_succ]
        refine wpAnyH_take (i := 15) (v := ?_) (op_at' rfl) (by kernel_rfl) (by kernel_rfl) (by kernel_rfl) (fun _ _ _ h => h) (Or.inl ⟨by rfl, ?_⟩) (by assumption) ?_
        rotate_left
        · intro w' hSw; (try dsimp only at hSw); go_simp; try with_reducible rfl
        try simp only [Act.put, List.setIfInBounds_toArray, List.set_cons_zero, List.set_cons_succ]
        refine wpAnyH_take (i := 16) (v := ?_) (op_at' rfl) (by kernel_rfl) (by kernel_rfl) (by kernel_rfl) (fun _ _ _ h => h) (Or.inl ⟨by rfl, ?_⟩) (by assumption) ?_
        rotate_left
        · intro w' hSw; (try dsimp only at hSw); go_simp; try with_reducible rfl
        try simp only [Act.put, List.setIfInBounds_toArray, List.set_cons_zero, List.set_cons_succ]
        refine wpAnyH_take (i := 17) (v := ?_) (op_at' rfl) (by kernel_rfl) (by kernel_rfl) (by kernel_rfl) (fun _ _ _ h => h) (Or.inl ⟨by rfl, ?_⟩) (by assumption) ?_
        rotate_left
        · intro w' hSw; (try dsimp only at hSw); go_simp; try with_reducible rfl
        try simp only [Act.put, List.setIfInBounds_toArray, List.set_cons_zero, List.set_cons_succ]
        refine wpAnyH_take (i := 18) (v := ?_) (op_at' rfl) (by kernel_rfl) (by kernel_rfl) (by kernel_rfl) (fun _ _ _ h => h) (Or.inl ⟨by rfl, ?_⟩) (by assumption) ?_
        rotate_left
        · intro w' hSw; (try dsimp only at hSw); go_simp; try with_reducible rfl
        try simp only [Act.put, List.setIfInBounds_toArray, List.set_cons_zero, List.set_cons_succ]
        refine wpAnyH_take (i := 19) (v := ?_) (op_at' rfl) (by kernel_rfl) (by kernel_rfl) (by kernel_rfl) (fun _ _ _ h => h) (Or.inl ⟨by rfl, ?_⟩) (by assumption) ?_
        rotate_left
        · intro w' hSw; (try dsimp only at hSw); go_simp; try with_reducible rfl
        try simp only [Act.put, List.setIfInBounds_toArray, List.set_cons_zero, List.set_cons_succ]
        refine wpAnyH_take (i := 20) (v := ?_) (op_at' rfl) (by kernel_rfl) (by kernel_rfl) (by kernel_rfl) (fun _ _ _ h => h) (Or.inl ⟨by rfl, ?_⟩) (by assumption) ?_
        rotate_left
        · intro w' hSw; (try dsimp only at hSw); go_simp; try with_reducible rfl
        try simp only [Act.put, List.setIfInBounds_toArray, List.set_cons_zero, List.set_cons_succ]
        refine wpAnyH_take (i := 21) (v := ?_) (op_at' rfl) (by kernel_rfl) (by kernel_rfl) (by kernel_rfl) (fun _ _ _ h => h) (Or.inl ⟨by rfl, ?_⟩) (by assumption) ?_
        rotate_left
        · intro w' hSw; (try dsimp only at hSw); go_simp; try with_reducible rfl
        try simp only [Act.put, List.setIfInBounds_toArray, List.set_cons_zero, List.set_cons_succ]
        refine wpAnyH_take (i := 22) (v := ?_) (op_at' rfl) (by kernel_rfl) (by kernel_rfl) (by kernel_rfl) (fun _ _ _ h => h) (Or.inl ⟨by rfl, ?_⟩) (by assumption) ?_
        rotate_left
        · intro w' hSw; (try dsimp only at hSw); go_simp; try with_reducible rfl
        try simp only [Act.put, List.setIfInBounds_toArray, List.set_cons_zero, List.set_cons_succ]
        refine wpAnyH_take (i := 23) (v := ?_) (op_at' rfl) (by kernel_rfl) (by kernel_rfl) (by kernel_rfl) (fun _ _ _ h => h) (Or.inl ⟨by rfl, ?_⟩) (by assumption) ?_
        rotate_left
        · intro w' hSw; (try dsimp only at hSw); go_simp; try with_reducible rfl
        try simp only [Act.put, List.setIfInBounds_toArray, List.set_cons_zero, List.set_cons_succ]
        refine wpAnyH_take (i := 24) (v := ?_) (op_at' rfl) (by kernel_rfl) (by kernel_rfl) (by kernel_rfl) (fun _ _ _ h => h) (Or.inl ⟨by rfl, ?_⟩) (by assumption) ?_
        rotate_left
        · intro w' hSw; (try dsimp only at hSw); go_simp; try with_reducible rfl
        try simp only [Act.put, List.setIfInBounds_toArray, List.set_cons_zero, List.set_cons_succ]
        refine wpAnyH_take (i := 25) (v := ?_) (op_at' rfl) (by kernel_rfl) (by kernel_rfl) (by kernel_rfl) (fun _ _ _ h => h) (Or.inl ⟨by rfl, ?_⟩) (by assumption) ?_
        rotate_left
        · intro w' hSw; (try dsimp only at hSw); go_simp; try with_reducible rfl
        try simp only [Act.put, List.setIfInBounds_toArray, List.set_cons_zero, List.set_cons_succ]
        refine wpAnyH_take (i := 26) (v := ?_) (op_at' rfl) (by kernel_rfl) (by kernel_rfl) (by kernel_rfl) (fun _ _ _ h => h) (Or.inl ⟨by rfl, ?_⟩) (by assumption) ?_
        rotate_left
        · intro w' hSw; (try dsimp only at hSw); go_simp; try with_reducible rfl
        try simp only [Act.put, List.setIfInBounds_toArray, List.set_cons_zero, List.set_cons_succ]
        refine wpAnyH_ready (rs := [27]) (by kernel_rfl) (by simp) (AllReadyH.cons (op_at' rfl) (fun K hK => ?_) AllReadyH.nil)
        go_simp
        refine (HCH.out _ ((Below.refl _ wr).drew)).mono ?_
        rintro e w6 ⟨rfl, hb6⟩
        have z0 := (hb6.cell (p := ⟨b, off + k * 4, none⟩) hbl).trans d0
        have z1 := (hb6.cell (p := ⟨b, off + k * 4 + 1, none⟩) hbl).trans d1
        have z2 := (hb6.cell (p := ⟨b, off + k * 4 + 2, none⟩) hbl).trans d2
        have z3 := (hb6.cell (p := ⟨b, off + k * 4 + 3, none⟩) hbl).trans d3
        have z4 := (hb6.cell (p := ⟨w.heap.size, 0, none⟩) hwl).trans y0
        have z5 := (hb6.cell (p := ⟨w.heap.size, 1, none⟩) hwl).trans y1
        have z6 := (hb6.cell (p := ⟨w.heap.size, 2, none⟩) hwl).trans y2
        have hob6 := (hb6.cell (p := ⟨w.heap.size + 1, k, none⟩) hgl).trans hob
        have hof6 := (hb6.frozen (p := ⟨w.heap.size + 1, k, none⟩) hgl).trans hof
        go_wp2_with fail
        refine hK.out _ _ ⟨z0, z1, z2, z3, z4, z5, z6⟩ (fun hHeld2 => ?_)
        clear hK K
        try simp only [Act.put, List.setIfInBounds_toArray, List.set_cons_zero, List.set_cons_succ]
        refine wpAnyH_take (i := 28) (v := ?_) (op_at' rfl) (by kernel_rfl) (by kernel_rfl) (by kernel_rfl) (fun _ _ _ h => h) (Or.inl ⟨by rfl, ?_⟩) (by assumption) ?_
        rotate_left
        · intro w' hSw; (try dsimp only at hSw); go_simp; try with_reducible rfl
        try simp only [Act.put, List.setIfInBounds_toArray, List.set_cons_zero, List.set_cons_succ]
        refine wpAnyH_take (i := 29) (v := ?_) (op_at' rfl) (by kernel_rfl) (by kernel_rfl) (by kernel_rfl) (fun _ _ _ h => h) (Or.inl ⟨by rfl, ?_⟩) (by assumption) ?_
        rotate_left
        · intro w' hSw; (try dsimp only at hSw); go_simp; try with_reducible rfl
        try simp only [Act.put, List.setIfInBounds_toArray, List.set_cons_zero, List.set_cons_succ]
        refine wpAnyH_ready (rs := [30]) (by kernel_rfl) (by simp) (AllReadyH.cons (op_at' rfl) (fun K hK => ?_) AllReadyH.nil)
        go_simp
        refine hK.out _ _ (by exact ⟨(World.cell?_setCell_far _ _ _ _ (by show w.heap.size + 1 ≠ b; omega)).trans z0, (World.cell?_setCell_far _ _ _ _ (by show w.heap.size + 1 ≠ b; omega)).trans z1, (World.cell?_setCell_far _ _ _ _ (by show w.heap.size + 1 ≠ b; omega)).trans z2, (World.cell?_setCell_far _ _ _ _ (by show w.heap.size + 1 ≠ b; omega)).trans z3, (World.cell?_setCell_far _ _ _ _ (by show w.heap.size + 1 ≠ w.heap.size; omega)).trans z4, (World.cell?_setCell_far _ _ _ _ (by show w.heap.size + 1 ≠ w.heap.size; omega)).trans z5, (World.cell?_setCell_far _ _ _ _ (by show w.heap.size + 1 ≠ w.heap.size; omega)).trans z6⟩) (fun hHeld3 => ?_)
        clear hK K
        try simp only [Act.put, List.setIfInBounds_toArray, List.set_cons_zero, List.set_cons_succ]
        refine wpAnyH_done (by kernel_rfl) ?_ _
        clear hHeld3
        go_wp2_with fail
        go_roundw
        case rel => exact ⟨k + 1, by omega, by go_num, by have h9 := (HT.out.below (((Below.refl _ wr).drew).trans hb6)).put k q; rw [show (tUp xs ⟨it, si, un⟩ k).set k q = _ from HS.out] at h9; exact h9⟩
        case measure => simp [intOf]; omega
    · have hkn : k = n := by omega
      have HT := Lib.hid hT
      have HK := Lib.hid hkn
      have hrow : wr.ownsRow (w.heap.size + 1) 4 1 (.slice (some ⟨w.heap.size + 1, 0, none⟩) n n) n ((atOnce xs ⟨it, si, un⟩).map Value.bool) := by
        have := hT.own
        rw [HK.out, show tUp xs ⟨it, si, un⟩ n = atOnce xs ⟨it, si, un⟩ from by rw [← HN.out]; exact tUp_all _ _] at this
        exact this
      have HR := Lib.hid (Rd.of_own hrow)
      clear hT hkn hrow
      go_wp2_with fail
      refine (from_any (.slice A n cap) _ xs (atOnce xs ⟨it, si, un⟩) _ _ wr (HV.out.below HT.out.bel) HR.out (atOnce_len _ _) HXL.out).mono ?_
      rintro e w' ⟨⟨v', rfl, ho⟩, hb⟩
      go_wp2_with fail
      go_ret
      exact ⟨⟨_, rfl, ho.1, ho.2.imp id fun ⟨g, cap, cur, h1, h2, h3⟩ => ⟨g, cap, cur, h1, Nat.le_trans HT.out.bel.size h2, h3⟩⟩, HT.out.bel.trans (hb.mono HT.out.bel.size)⟩
end Go.Proofs.Ytlanephpmoajiaa
