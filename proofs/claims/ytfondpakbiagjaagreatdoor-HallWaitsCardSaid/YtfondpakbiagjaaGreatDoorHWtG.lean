/- What the memory holds while Waiting lays its lines and strikes them off. The walk of Waiting (4). -/
import Derived.Test.YtfondpakbiagjaaGreatDoorHWtE
namespace Go.Proofs.YtfondpakbiagjaaGreatDoor
open Go.RowKit
set_option linter.unusedVariables false
set_option linter.unusedSimpArgs false
set_option maxRecDepth 100000
set_option maxHeartbeats 4000000
theorem op_pushC {ops : Array Oper} {Q : Exit → Act → World → Prop} {S : World → Prop} {rest : List (Nat × Oper)} {a : Act} {W : World} {K : Act → World → Prop} {o : Oper} {v : Value} {xs : List Nat} {z : Nat} {B n bx k : Nat}
    (hK : Shut (∀ a w, S w → Seq Tryz.prog ops Q S rest a w → K a w)) (hown : OwnC W B v xs) (hn : xs.length = n) (hl : n ≤ 1000) (hB : B ≤ W.heap.size) (hb : W.heap[bx]? = some (.cells #[.chan (some z)] 102 (0, 0)))
    (hS : ∀ v' w', OwnC w' B v' (xs ++ [z]) → W.grownBy w' v.ownBlock → S w')
    (s x : Operand) (hg : o.guard = none := by rfl) (ho : o.op = .call { callee := .builtin .append, args := #[s, x], argTypes := #[106, 106] } := by rfl) (hs : a.eval s = v := by rfl) (hx : a.eval x = .slice (some ⟨bx, 0, none⟩) 1 k := by rfl)
    (h : ∀ A c w', OwnC w' B (.slice A (n + 1) c) (xs ++ [z]) → W.grownBy w' v.ownBlock → (∀ b, (Value.slice A (n + 1) c).ownBlock = some b → v.ownBlock = some b ∨ W.heap.size ≤ b) → Seq Tryz.prog ops Q S rest (a.put o.dst (.slice A (n + 1) c)) w') : Oper.wp Tryz.prog o a W K Q := by
  subst hn
  obtain ⟨i0, hi0, hz0, hz1, hz2⟩ := info_parts infoC
  refine op_append_own hg s x 106 ho B 102 i0 (.chan none) 1 8 Tryz.underlying106 hi0 hz0 hz1 hz2 rfl (by decide) v xs.length (xs.map chV) hs hown ⟨bx, 0, none⟩ 1 k [.chan (some z)] hx rfl (fun j u hu => ?_) (fun u hu => by rw [List.mem_singleton.1 hu]; rfl) (by unfold maxLen; omega) (by omega) hB fun v' w' h2 h3 h4 => ?_
  · rcases j with _ | j
    · simp at hu
      subst hu
      show W.cell? ⟨bx, 0, none⟩ = _
      rw [blk_cell hb]; rfl
    · simp at hu
  · obtain ⟨A, c', rfl⟩ := ownsRow_slice h2
    have h5 : OwnC w' B (.slice A (xs.length + 1) c') (xs ++ [z]) := by unfold OwnC; rw [List.length_append, List.map_append]; exact h2
    exact hK.out _ _ (hS _ _ h5 h3) (h A c' w' h5 h3 h4)
theorem al_new (w : World) (o : Obj) : ∃ W, Hid (W = w.alloc o) ∧ Hid (W.heap[w.heap.size]? = some o) ∧ Hid (W.heap.size = w.heap.size + 1) ∧ Below w.heap.size w W :=
  ⟨_, rfl, heap_alloc_new w _, by show _ = _; simp, (Below.refl _ _).alloc (Nat.le_refl _) _⟩
/-- What the memory holds while the lines are laid and struck off: the lines at lb, their numbers at lb + 1, the cell at lb + 2. -/
structure WtS (w wr : World) (lb : Nat) (cs wl : List Nat) : Prop where
  keep : Below w.heap.size w wr
  base : w.heap.size ≤ lb
  lines : wr.heap[lb]? = some (.cells (cs.map chV ++ List.replicate (32 - cs.length) (Value.chan none)).toArray 103 (0, 0))
  map : wr.heap[lb + 1]? = some (.map ((numL cs).map entF).toArray cs.length)
  cell : ∃ wv, wr.heap[lb + 1 + 1]? = some (.cells #[wv, .map (some (lb + 1))] 108 (0, 0)) ∧ OwnC wr (lb + 3) wv wl
  nd : cs.Nodup
  lt : ∀ c ∈ cs, c < wr.heap.size
/-- The same, a line more laid and not yet numbered. -/
structure WtM (w wr : World) (lb : Nat) (cs wl : List Nat) (c : Nat) : Prop where
  keep : Below w.heap.size w wr
  base : w.heap.size ≤ lb
  lines : wr.heap[lb]? = some (.cells ((cs ++ [c]).map chV ++ List.replicate (32 - (cs ++ [c]).length) (Value.chan none)).toArray 103 (0, 0))
  map : wr.heap[lb + 1]? = some (.map ((numL cs).map entF).toArray cs.length)
  cell : ∃ wv, wr.heap[lb + 1 + 1]? = some (.cells #[wv, .map (some (lb + 1))] 108 (0, 0)) ∧ OwnC wr (lb + 3) wv wl
  nd : cs.Nodup
  lt : ∀ x ∈ cs, x < c
  new : c < wr.heap.size
theorem WtS.size {w wr : World} {lb : Nat} {cs wl : List Nat} (h : WtS w wr lb cs wl) : lb + 3 ≤ wr.heap.size := by
  obtain ⟨wv, hc, -⟩ := h.cell
  have := blk_lt hc; omega
theorem WtM.size {w wr : World} {lb c : Nat} {cs wl : List Nat} (h : WtM w wr lb cs wl c) : lb + 3 ≤ wr.heap.size := by
  obtain ⟨wv, hc, -⟩ := h.cell
  have := blk_lt hc; omega
theorem WtS.below {w wr W : World} {lb : Nat} {cs wl : List Nat} (h : WtS w wr lb cs wl) (j : Below wr.heap.size wr W) : WtS w W lb cs wl := by
  obtain ⟨wv, hc, ho⟩ := h.cell
  exact ⟨h.keep.trans (j.mono h.keep.size), h.base, blk_below h.lines j, blk_below h.map j, ⟨wv, blk_below hc j, ho.stay j⟩, h.nd, fun c hc => Nat.lt_of_lt_of_le (h.lt c hc) j.size⟩
theorem WtM.below {w wr W : World} {lb c : Nat} {cs wl : List Nat} (h : WtM w wr lb cs wl c) (j : Below wr.heap.size wr W) : WtM w W lb cs wl c := by
  obtain ⟨wv, hc, ho⟩ := h.cell
  exact ⟨h.keep.trans (j.mono h.keep.size), h.base, blk_below h.lines j, blk_below h.map j, ⟨wv, blk_below hc j, ho.stay j⟩, h.nd, h.lt, Nat.lt_of_lt_of_le h.new j.size⟩
theorem WtS.start {w W : World} (hb : Below w.heap.size w W) : WtS w (((W.alloc (Obj.cells (List.replicate 32 (Value.chan none)).toArray 103)).alloc (Obj.map #[] 0)).alloc (Obj.cells #[.slice none 0 0, .map (some (W.heap.size + 1))] 108)) W.heap.size [] [] := by
  obtain ⟨W1, HW1, HB1, HS1, j1⟩ := al_new W (Obj.cells (List.replicate 32 (Value.chan none)).toArray 103)
  obtain ⟨W2, HW2, HB2, HS2, j2⟩ := al_new W1 (Obj.map #[] 0)
  obtain ⟨W3, HW3, HB3, HS3, j3⟩ := al_new W2 (Obj.cells #[.slice none 0 0, .map (some (W.heap.size + 1))] 108)
  rw [← HW1.out, ← HW2.out, ← HW3.out]
  have HB1' := kB (kB HB1 j2) j3
  have HB2' := kB HB2 j3
  rw [HS1.out] at HB2'
  rw [HS2.out, HS1.out] at HB3
  have s1 := HS1.out
  have s2 := HS2.out
  refine ⟨((hb.trans (j1.mono hb.size)).trans (j2.mono (by have := hb.size; omega))).trans (j3.mono (by have := hb.size; omega)), hb.size, HB1'.out, HB2'.out, ⟨_, HB3.out, OwnC.nil _ _⟩, List.nodup_nil, fun c h => by cases h⟩
/-- A line is made and laid. -/
theorem WtS.made {w wr : World} {lb k : Nat} {cs wl : List Nat} (h : WtS w wr lb cs wl) (hk : cs.length = k) (hk32 : k < 32) :
    ∃ W, Hid (W = (wr.alloc (Obj.chan 0 #[] false 0 0 false)).setCell ⟨lb, k, none⟩ (Value.chan (some wr.heap.size))) ∧ (wr.alloc (Obj.chan 0 #[] false 0 0 false)).cell? ⟨lb, k, none⟩ = some (Value.chan none) ∧ (wr.alloc (Obj.chan 0 #[] false 0 0 false)).frozen? ⟨lb, k, none⟩ = false ∧
      Hid (WtM w W lb cs wl wr.heap.size) := by
  obtain ⟨W1, HW1, HB1, HS1, j1⟩ := al_new wr (Obj.chan 0 #[] false 0 0 false)
  rw [← HW1.out]
  have h1 := h.below j1
  have hl := h1.lines
  obtain ⟨wv, hc1, ho1⟩ := h1.cell
  refine ⟨_, rfl, ?_, blk_free hl _, ⟨h1.keep.setCell h.base _, h.base, ?_, ?_, ⟨wv, ?_, ownsRow_setCell_below ho1 (by show lb < lb + 3; omega) _⟩, h.nd, h.lt, by have := HS1.out; simp [World.setCell]; omega⟩⟩
  · rw [blk_cell hl]
    rw [List.getElem?_toArray, List.getElem?_append_right (by rw [List.length_map]; omega), List.length_map, hk, Nat.sub_self]
    rw [List.getElem?_replicate, if_pos (by omega)]
  · rw [blk_set _ hl]
    simp only [List.setIfInBounds_toArray]
    have h2 : (cs.map chV ++ List.replicate (32 - cs.length) (Value.chan none)).set k (Value.chan (some wr.heap.size)) = (cs ++ [wr.heap.size]).map chV ++ List.replicate (32 - (cs ++ [wr.heap.size]).length) (Value.chan none) := by
      rw [List.set_append, if_neg (by rw [List.length_map]; omega), List.length_map, hk, Nat.sub_self]
      obtain ⟨m, hm⟩ : ∃ m, 32 - k = m + 1 := ⟨31 - k, by omega⟩
      rw [hm, List.replicate_succ, List.set_cons_zero, List.map_append, List.length_append, hk]
      have : 32 - (k + 1) = m := by omega
      simp [this, chV]
    rw [h2]
  · exact (Below.heap_setCell W1 ⟨lb, k, none⟩ _ _ (by simp)).trans h1.map
  · exact (Below.heap_setCell W1 ⟨lb, k, none⟩ _ _ (by show lb + 1 + 1 ≠ lb; omega)).trans hc1
theorem WtM.at_ {w wr : World} {lb k c : Nat} {cs wl : List Nat} (h : WtM w wr lb cs wl c) (hk : cs.length = k) : wr.cell? ⟨lb, k, none⟩ = some (.chan (some c)) := by
  rw [blk_cell h.lines]
  rw [List.getElem?_toArray, List.getElem?_append_left (by simp [hk]), List.getElem?_map, List.getElem?_append_right (by omega), hk, Nat.sub_self]
  rfl
theorem WtM.mapAt {w wr : World} {lb c : Nat} {cs wl : List Nat} (h : WtM w wr lb cs wl c) : wr.cell? ⟨lb + 1 + 1, 1, none⟩ = some (.map (some (lb + 1))) := by
  obtain ⟨wv, hc, -⟩ := h.cell
  rw [blk_cell hc]; rfl
/-- Its number is entered. -/
theorem WtM.enter {w wr : World} {lb k c : Nat} {cs l : List Nat} (h : WtM w wr lb cs (chs cs l) c) (hk : cs.length = k) (hl : ∀ s ∈ l, s < k) :
    ∃ W, (Instr.mapUpdate 105 (.map (some (lb + 1))) (.chan (some c)) (.int .i64 (k : Int))).run Tryz.prog wr = .ok () W ∧ Hid (WtS w W lb (cs ++ [c]) (chs (cs ++ [c]) l)) := by
  obtain ⟨W, h1, h2, h3, h4, h5, h6, h7⟩ := run_enter (lb + 1) c k wr (numL cs) cs.length h.map (fun p hp e => by have := h.lt _ (numL_mem hp); omega) hk
  obtain ⟨wv, hc, ho⟩ := h.cell
  have hsz := h.size
  have hlt : lb + 1 < wr.heap.size := by omega
  refine ⟨W, h1, ⟨⟨h5.trans h.keep.os, h6.trans h.keep.tape, h7.trans h.keep.output, by rw [h4]; exact h.keep.size, fun q hq => (h3 q (by have := h.base; omega)).trans (h.keep.block q hq)⟩, h.base, (h3 lb (by omega)).trans h.lines, ?_, ⟨wv, (h3 _ (by omega)).trans hc, ?_⟩, ?_, ?_⟩⟩
  · rw [h2, numL_snoc, hk, List.length_append, hk]; rfl
  · rw [chs_snoc fun s hs => by rw [hk]; exact hl s hs]
    refine World.ownsRow.kept (row := some (lb + 1)) ho ⟨h5, h6, h7, by rw [h4]; exact Nat.le_refl _, fun q _ hq => h3 q (fun e => hq (by rw [e]))⟩ ?_
    rcases hwb : wv.ownBlock with _ | b
    · exact .inl rfl
    · refine .inr fun e => ?_
      injection e with e
      have := (World.ownsRow.lt ho b hwb).1
      omega
  · rw [List.nodup_append]
    refine ⟨h.nd, by simp, fun a ha b hb e => ?_⟩
    rw [List.mem_singleton.1 hb] at e
    have := h.lt a ha; omega
  · intro x hx
    rw [h4]
    rcases List.mem_append.1 hx with hx | hx
    · have := h.lt x hx; have := h.new; omega
    · rw [List.mem_singleton.1 hx]; exact h.new
/-- The row in the cell is another. -/
theorem WtS.told {w wr W : World} {lb : Nat} {cs wl wl' : List Nat} {v' : Value} (h : WtS w wr lb cs wl) (hk : Keep (fun k => k < lb + 3 ∧ k ≠ lb + 1 + 1) wr W) (hc : W.heap[lb + 1 + 1]? = some (.cells #[v', .map (some (lb + 1))] 108 (0, 0))) (ho : OwnC W (lb + 3) v' wl') : WtS w W lb cs wl' :=
  ⟨⟨hk.os.trans h.keep.os, hk.tape.trans h.keep.tape, hk.output.trans h.keep.output, Nat.le_trans h.keep.size hk.size, fun q hq => (hk.block q (by have := h.base; exact ⟨by omega, by omega⟩)).trans (h.keep.block q hq)⟩, h.base, (hk.block lb ⟨by omega, by omega⟩).trans h.lines, (hk.block _ ⟨by omega, by omega⟩).trans h.map, ⟨v', hc, ho⟩, h.nd, fun c hcc => Nat.lt_of_lt_of_le (h.lt c hcc) hk.size⟩
/-- The row has grown and is stored. -/
theorem WtS.pushed {w wr W : World} {lb : Nat} {cs wl wl' : List Nat} {wv v' : Value} (h : WtS w wr lb cs wl) (hc : wr.heap[lb + 1 + 1]? = some (.cells #[wv, .map (some (lb + 1))] 108 (0, 0))) (ho : OwnC wr (lb + 3) wv wl) (hg : wr.grownBy W wv.ownBlock) (h5 : OwnC W (lb + 3) v' wl') : WtS w (W.setCell ⟨lb + 1 + 1, 0, none⟩ v') lb cs wl' := by
  have hn : ∀ q, q < lb + 3 → some q ≠ wv.ownBlock := fun q hq e => by
    have := (World.ownsRow.lt ho q e.symm).1
    omega
  have hsz := h.size
  have hc' := (hg.block (lb + 1 + 1) (by omega) (hn _ (by omega))).trans hc
  refine h.told ⟨hg.os, hg.tape, hg.output, by have := hg.size; simp [World.setCell]; omega, fun q ⟨hq1, hq2⟩ => (Below.heap_setCell W ⟨lb + 1 + 1, 0, none⟩ _ q hq2).trans (hg.block q (by omega) (hn _ hq1))⟩ ?_ (ownsRow_setCell_below h5 (by show lb + 1 + 1 < lb + 3; omega) _)
  have := blk_set (i := 0) v' hc'
  simpa using this
theorem WtS.at_ {w wr : World} {lb k c : Nat} {cs wl : List Nat} (h : WtS w wr lb cs wl) (hk : cs[k]? = some c) : wr.cell? ⟨lb, k, none⟩ = some (.chan (some c)) := by
  have hl := (List.getElem?_eq_some_iff.1 hk).1
  rw [blk_cell h.lines]
  rw [List.getElem?_toArray, List.getElem?_append_left (by rw [List.length_map]; exact hl), List.getElem?_map, hk]
  rfl
end Go.Proofs.YtfondpakbiagjaaGreatDoor
namespace Go.Proofs.YtfondpakbiagjaaGreatDoor
open Go.RowKit
set_option linter.unusedVariables false
set_option linter.unusedSimpArgs false
set_option maxRecDepth 100000
set_option maxHeartbeats 4000000
theorem waiting_any (v1 v2 : Value) (need reps : List Int) (w : World) (S T : Nat → Prop) (h1 : Rd (Value.int .i64) w S v1 need) (h2 : Rd (Value.int .i64) w T v2 reps) (hl : need.length ≤ 70 ∧ reps.length ≤ 70) :
    Calls Tryz.prog 15 #[v1, v2] w (WaitPost w (waitP need reps)) := by
  have HR1 := Lib.hid h1
  have HR2 := Lib.hid h2
  obtain ⟨A1, n1, c1, rfl, hn1, -⟩ := h1.open_
  obtain ⟨A2, n2, c2, rfl, hn2, hc2, -⟩ := h2.open_
  have HC2 := Lib.hid hc2
  have HN1 := Lib.hid hn1
  have HN2 := Lib.hid hn2
  have hb1 : n1 ≤ 70 := by omega
  have hb2 : n2 ≤ 70 := by omega
  have hbad : ∀ (n : Int) W, Below w.heap.size w W → waitP need reps = ([], 0, n) → WaitPost w (waitP need reps) (.returned (.tuple #[.slice none 0 0, .int .i64 0, .int .i64 n])) W := fun n W hW he => by
    rw [he]; exact ⟨_, rfl, Rd.none_ _ _ _, hW⟩
  have HBAD := Lib.hid hbad
  clear h1 h2 hn1 hn2 hl hbad hc2
  by_cases hs : 64 < n1 ∨ 64 < n2
  · have he : Hid (waitP need reps = ([], 0, 4)) := by show _ = _; unfold waitP; rw [if_pos (by rw [HN1.out, HN2.out]; exact hs)]
    by_cases hs1 : 64 < n1
    · have q1 : (64 : Int) < (n1 : Int) := by omega
      clear hs
      go_enter Tryz.func15, Tryz.ntmps15
      go_wp2_with fail
      go_ret3
      exact HBAD.out _ _ (Below.refl _ _) he.out
    · have q1 : ¬ (64 : Int) < (n1 : Int) := by omega
      have q2 : (64 : Int) < (n2 : Int) := by omega
      clear hs
      go_enter Tryz.func15, Tryz.ntmps15
      go_wp2_with fail
      go_ret3
      exact HBAD.out _ _ (Below.refl _ _) he.out
  have q1 : ¬ (64 : Int) < (n1 : Int) := by omega
  have q2 : ¬ (64 : Int) < (n2 : Int) := by omega
  have HEB : Hid (¬ okSt (need ++ reps) → waitP need reps = ([], 0, 1)) := fun hh => by unfold waitP; rw [if_neg (by rw [HN1.out, HN2.out]; exact hs), if_pos hh]
  have HEK : Hid (okSt (need ++ reps) → waitP need reps = ((missL need reps).map fun (s : Nat) => (s : Int), atP need reps n2, 0)) := fun hh => by unfold waitP; rw [if_neg (by rw [HN1.out, HN2.out]; exact hs), if_neg (fun h => h hh), HN2.out]
  obtain ⟨n3, hn3⟩ : ∃ n, n = n1 + n2 := ⟨_, rfl⟩
  have HN3 := Lib.hid hn3
  have HCL := Lib.hid (clone_own _ need _ w HR1.out (by rw [HN1.out]; omega))
  clear hs hn3
  go_enter Tryz.func15, Tryz.ntmps15
  go_wp2_with fail
  refine HCL.out.mono ?_
  rintro e W3 ⟨⟨A3, c3, rfl, HO3⟩, j3⟩
  rw [HN1.out] at HO3 ⊢
  replace HO3 := Lib.hid HO3
  have HJ3 := Lib.hid j3
  clear j3 HCL
  go_wp2_with (at_builtin; refine wpList_appI (q := n3) rfl _ _ rfl rfl rfl HN1.out HN2.out HN3.out.symm HO3.out (HR2.out.below HJ3.out) (by have := HN3.out; omega) HJ3.out.size ?_; intro A4 c4 W4 HO4 HG4; have HJ4 := Lib.hid (HJ3.out.trans (HG4.below HJ3.out.size (fun q hq => (World.ownsRow.lt HO3.out q hq).1))); replace HO4 := Lib.hid HO4; clear HG4; have HOU := Lib.hid (outside_any _ (need ++ reps) _ W4 HO4.out.rd))
  refine HOU.out.mono ?_
  rintro e W5 ⟨⟨b, rfl, hb⟩, j5⟩
  have HJ5 := kU HJ4 j5
  clear HOU HO4 HO3 HJ3 HJ4 j5
  cases b with
  | true =>
    have he := Lib.hid (HEB.out fun h => by have := hb.2 h; cases this)
    clear hb
    go_wp2_with fail
    go_ret3
    exact HBAD.out _ _ HJ5.out he.out
  | false =>
    have HOK := Lib.hid (HEK.out (hb.1 rfl))
    have HST := Lib.hid (hb.1 rfl)
    have hmm := @run_makeMap Tryz.prog
    clear hb HEB HEK
    go_wp2_with fail
    have HS0 := Lib.hid (WtS.start HJ5.out)
    clear HJ5
    generalize hlb : W5.heap.size = lb at HS0 ⊢
    go_loopw [32] (fun kv wr => ∃ k : Nat, k ≤ 32 ∧ kv = .int .i64 (k : Int) ∧ ∃ cs : List Nat, cs.length = k ∧ Hid (WtS w wr lb cs (chs cs (selK need k)))) (fun kv _ => 32 - (RowKit.intOf kv).toNat)
    case atStart => exact ⟨0, Nat.zero_le _, rfl, [], rfl, by exact HS0.out⟩
    case round =>
      clear HS0
      obtain ⟨k, hk, rfl, cs, hcs, HS⟩ := hrel
      by_cases hk32 : k < 32
      · have hki : (k : Int) < 32 := by omega
        have hk0 : (0 : Int) ≤ (k : Int) := by omega
        have hwk : IntKind.i64.wrap ((k : Int) + 1) = (k : Int) + 1 := IntWalk.i64_in _ (by omega)
        obtain ⟨W6, HW6, c6, f6, HM6⟩ := HS.out.made hcs hk32
        have hmk := run_mk
        have HCK := Lib.hid hcs
        clear HS hcs
        generalize hch : wr.heap.size = ch at HW6 HM6
        go_wp2_with fail
        rw [← HW6.out]
        clear c6 f6 HW6 hmk
        refine seq_start (S := fun w' => w'.cell? ⟨lb + 1 + 1, 1, none⟩ = some (.map (some (lb + 1))) ∧ w'.cell? ⟨lb, k, none⟩ = some (.chan (some ch))) (by kernel_rfl) (by kernel_rfl) (by exact ⟨HM6.out.mapAt, HM6.out.at_ HCK.out⟩) ?_
        obtain ⟨V7, hV7⟩ : ∃ V, V = W6.drew := ⟨_, rfl⟩
        have HM7 : Hid (WtM w V7 lb cs (chs cs (selK need k)) ch) := by rw [hV7]; exact HM6.out.below (Below.refl _ _).drew
        rw [← hV7]
        clear hV7 HM6
        obtain ⟨W8, h8, HS8⟩ := HM7.out.enter HCK.out fun s hs => selK_lt hs
        have hm8 : W8.cell? ⟨lb + 1 + 1, 1, none⟩ = some (.map (some (lb + 1))) := by
          obtain ⟨wv, hc, -⟩ := HS8.out.cell
          rw [blk_cell hc]; rfl
        have hc8 : W8.cell? ⟨lb, k, none⟩ = some (.chan (some ch)) := HS8.out.at_ (by rw [List.getElem?_append_right (by rw [HCK.out]; exact Nat.le_refl _), HCK.out, Nat.sub_self]; rfl)
        clear HM7
        repeat (first | refine tk0 (h := ?_) | refine tkG (h := ?_) | refine skG (h := ?_))
        refine sop (h := fun K9 hK9 => ?_)
        go_simp
        refine ckk hK9 (by exact ⟨hm8, hc8⟩) (h := ?_)
        clear hK9 K9 hm8 hc8 h8
        refine seq_done (by kernel_rfl) ?_
        have HCT := Lib.hid (contains_own _ need (k : Int) _ W8 (HR1.out.below HS8.out.keep) (by have := HN1.out; omega))
        obtain ⟨cb, hcb⟩ : ∃ b, b = need.contains (k : Int) := ⟨_, rfl⟩
        rw [← hcb] at HCT
        have HCB := Lib.hid hcb
        clear hcb
        go_wp2_with fail
        refine HCT.out.mono ?_
        rintro e w9 ⟨rfl, hw⟩
        obtain rfl := hw.symm
        clear hw HCT
        cases cb with
        | false =>
          have HY := Lib.hid (selK_no (need := need) (k := k) HCB.out.symm)
          go_wp2_with fail
          go_roundw
          case rel => exact ⟨k + 1, by omega, by go_num, cs ++ [ch], by rw [List.length_append, HCK.out]; rfl, by show WtS _ _ _ _ _; rw [HY.out]; exact HS8.out⟩
          case measure => simp [RowKit.intOf]; omega
        | true =>
          have HY := Lib.hid (selK_yes (need := need) (k := k) HCB.out.symm)
          have HDK : Hid ((cs ++ [ch])[k]? = some ch) := by show _ = _; rw [List.getElem?_append_right (by rw [HCK.out]; exact Nat.le_refl _), HCK.out, Nat.sub_self]; rfl
          have hc8 : W8.cell? ⟨lb, k, none⟩ = some (.chan (some ch)) := HS8.out.at_ HDK.out
          have HLN : Hid ((chs (cs ++ [ch]) (selK need k)).length ≤ 32) := by
            show _ ≤ _
            unfold chs selK
            rw [List.length_map]
            have := List.length_filter_le (fun (s : Nat) => need.contains (s : Int)) (List.range k)
            rw [List.length_range] at this
            omega
          have HYC : Hid (chs (cs ++ [ch]) (selK need k) ++ [ch] = chs (cs ++ [ch]) (selK need (k + 1))) := by
            show _ = _
            rw [HY.out]
            unfold chs
            rw [List.map_append]
            congr 1
            rw [← HCK.out]
            show [ch] = [(cs ++ [ch]).getD cs.length 0]
            rw [chs_new]
          have HK1 : Hid ((cs ++ [ch]).length = k + 1) := by show _ = _; rw [List.length_append, HCK.out]; rfl
          obtain ⟨wl, hwl⟩ : ∃ l, l = chs (cs ++ [ch]) (selK need k) := ⟨_, rfl⟩
          obtain ⟨ds, hds⟩ : ∃ l, l = cs ++ [ch] := ⟨_, rfl⟩
          rw [← hwl, ← hds] at HS8
          rw [← hwl] at HLN HYC
          rw [← hds] at HYC HK1 HDK
          go_wp2_with fail
          refine seq_start (S := fun w' => w'.cell? ⟨lb, k, none⟩ = some (.chan (some ch))) (by kernel_rfl) (by kernel_rfl) (by exact hc8) ?_
          obtain ⟨V2, hV2⟩ : ∃ V, V = W8.drew := ⟨_, rfl⟩
          have HSV : Hid (WtS w V2 lb ds wl) := by rw [hV2]; exact HS8.out.below (Below.refl _ _).drew
          rw [← hV2]
          clear hV2 HS8 hc8 hwl hds
          obtain ⟨wv, hwc, hwo⟩ := HSV.out.cell
          obtain ⟨Aw, cw, rfl⟩ := hwo.slice
          obtain ⟨nw, hnw⟩ : ∃ n, n = wl.length := ⟨_, rfl⟩
          rw [← hnw] at hwc hwo HLN
          have hnw32 : nw ≤ 32 := HLN.out
          obtain ⟨W4, HW4, HB4, HS4, j4⟩ := st_al0 V2 #[.chan (some ch)] 102
          have HO4 := Lib.hid (hwo.stay j4)
          have HC4 : Hid (W4.heap[lb + 1 + 1]? = some (.cells #[.slice Aw nw cw, .map (some (lb + 1))] 108 (0, 0))) := blk_below hwc j4
          have HST4 := Lib.hid (HSV.out.below j4)
          have m1 : V2.cell? ⟨lb + 1 + 1, 0, none⟩ = some (.slice Aw nw cw) := (blk_cell hwc 0).trans rfl
          have m2 : W4.cell? ⟨lb + 1 + 1, 0, none⟩ = some (.slice Aw nw cw) := (blk_cell HC4.out 0).trans rfl
          have HNW := Lib.hid hnw.symm
          clear hwc hwo hnw j4 HLN
          repeat (first | refine tk0 (h := ?_) | refine tkG (h := ?_) | refine skG (h := ?_))
          refine plq 1 (h := ?_)
          repeat (first | refine tk0 (h := ?_) | refine tkG (h := ?_) | refine skG (h := ?_))
          refine plq 1 (h := ?_)
          repeat (first | refine tk0 (h := ?_) | refine tkG (h := ?_) | refine skG (h := ?_))
          refine plq 1 (h := ?_)
          repeat (first | refine tk0 (h := ?_) | refine tkG (h := ?_) | refine skG (h := ?_))
          refine seq_both (by kernel_rfl) (by rfl) (by rfl) ?_ ?_
          focus
            intro K9 hK9
            go_simp
            refine ckk hK9 (HSV.out.at_ HDK.out) (h := ?_)
            clear hK9 K9
            refine sop (h := fun K9 hK9 => ?_)
            go_simp
            rw [← HW4.out]
            refine ckk hK9 (HST4.out.at_ HDK.out) (h := ?_)
            clear hK9 K9
          rotate_left
          focus
            intro K9 hK9
            go_simp
            rw [← HW4.out]
            refine ckk hK9 (HST4.out.at_ HDK.out) (h := ?_)
            clear hK9 K9
            refine sop (h := fun K9 hK9 => ?_)
            go_simp
            refine ckk hK9 (HST4.out.at_ HDK.out) (h := ?_)
            clear hK9 K9
          all_goals
            clear m1 m2
            refine sop (h := fun K9 hK9 => ?_)
            refine op_pushC (n := nw) hK9 HO4.out HNW.out (by omega) HST4.out.size HB4.out (fun v' w' h5 g5 => ?_) _ _ (h := fun A5 k5 W5 h5 g5 f5 => ?_)
            · rw [World.cell?_of_block (w := W4) (g5.block lb (by have := HST4.out.size; omega) (fun e => by have := (World.ownsRow.lt HO4.out _ e.symm).1; omega))]
              exact HST4.out.at_ HDK.out
            · have HC5 : Hid (W5.heap[lb + 1 + 1]? = some (.cells #[.slice Aw nw cw, .map (some (lb + 1))] 108 (0, 0))) := (g5.block _ (by have := HST4.out.size; omega) (fun e => by have := (World.ownsRow.lt HO4.out _ e.symm).1; omega)).trans HC4.out
              have HS6 := Lib.hid (HST4.out.pushed HC4.out HO4.out g5 h5)
              obtain ⟨W6, HW6⟩ : ∃ W, Hid (W = W5.setCell ⟨lb + 1 + 1, 0, none⟩ (.slice A5 (nw + 1) k5)) := ⟨_, rfl⟩
              rw [← HW6.out, HYC.out] at HS6
              clear hK9 K9 h5 g5 f5
              refine nrm (h := ?_)
              repeat (first | refine tk0 (h := ?_) | refine tkG (h := ?_) | refine skG (h := ?_))
              refine sop (h := fun K9 hK9 => ?_)
              have m5 := (blk_cell HC5.out 0).trans rfl
              have g5 := blk_free HC5.out 0
              go_simp
              rw [← HW6.out]
              refine ckk hK9 (HS6.out.at_ HDK.out) (h := ?_)
              clear hK9 K9 m5 g5
              refine seq_done (by kernel_rfl) ?_
              go_wp2_with fail
              go_roundw
              case rel => exact ⟨k + 1, by omega, by go_num, ds, HK1.out, HS6.out⟩
              case measure => simp [RowKit.intOf]; omega
      · have hk2 : k = 32 := by omega
        rw [hk2, selK_32] at HS
        have hki : ¬ (k : Int) < 32 := by omega
        have HCK := Lib.hid (hcs.trans hk2)
        clear hk2
        have HLM : ∀ l, (chs cs (missL need l)).length = (missL need l).length := fun l => by unfold chs; rw [List.length_map]
        replace HLM := Lib.hid HLM
        obtain ⟨wv, hwc, hwo⟩ := HS.out.cell
        obtain ⟨Aw, cw, rfl⟩ := hwo.slice
        rw [HLM.out] at hwc
        have m0 : wr.cell? ⟨lb + 1 + 1, 0, none⟩ = some (.slice Aw (missL need []).length cw) := (blk_cell hwc 0).trans rfl
        have HAT0 : Hid (atP need reps 0 = if missL need [] = [] then 0 else -1) := rfl
        have HKM : Hid (∀ l, (missL need l).length = 0 ↔ missL need l = []) := fun l => List.length_eq_zero_iff
        have HK0 := HKM.out []
        obtain ⟨m, hm⟩ : ∃ m, m = (missL need []).length := ⟨_, rfl⟩
        rw [← hm] at m0 HK0
        replace HK0 := Lib.hid HK0
        clear hwc hwo hm hcs hmm
        go_upto_if 67 with fail
        go_cut [10] (fun v wx => v = .int .i64 (atP need reps 0) ∧ wx = wr)
        case first =>
          by_cases hm0 : m = 0
          · subst hm0
            have HE0 : Hid (missL need [] = []) := HK0.out.1 rfl
            go_wp2_with fail
            go_meet
            case rel => exact ⟨by rw [HAT0.out, if_pos HE0.out], rfl⟩
          · have HE0 : Hid (¬ missL need [] = []) := fun h => hm0 (HK0.out.2 h)
            have hmb : ((m : Int) == 0) = false := beq_false_of_ne (by omega)
            have hmb2 : ¬ (m : Int) = 0 := by omega
            go_wp2_with fail
            go_meet
            case rel => exact ⟨by rw [HAT0.out, if_neg HE0.out], rfl⟩
        case rest =>
        obtain ⟨hu10, hwc⟩ := hcut
        obtain rfl := hwc.symm
        obtain rfl := hu10
        clear hwc HAT0 HK0 m0 m hk hk32 hki
        have HO2 := Lib.hid HR2.out.open_
        go_wp2_with fail
        go_loopw [10, 70] (fun av nv wx => ∃ n : Nat, n ≤ n2 ∧ nv = .int .i64 (n : Int) ∧ av = .int .i64 (atP need reps n) ∧ Hid (WtS w wx lb cs (chs cs (missL need (reps.take n))))) (fun _ nv _ => n2 - (RowKit.intOf nv).toNat)
        case atStart => exact ⟨0, Nat.zero_le _, rfl, rfl, by rw [List.take_zero]; exact HS.out⟩
        case round =>
          clear HS
          obtain ⟨n, hn, rfl, rfl, HS⟩ := hrel
          by_cases hlt : n < n2
          · have hnn : (n : Int) < (n2 : Int) := by omega
            have hn0 : (0 : Int) ≤ (n : Int) := by omega
            have hwn : IntKind.i64.wrap ((n : Int) + 1) = (n : Int) + 1 := IntWalk.i64_in _ (by omega)
            obtain ⟨A', n', cap', he, -, -, -, hc⟩ := (HR2.out.below HS.out.keep).open_
            injection he with he1 he2 he3
            subst he1 he2 he3
            obtain ⟨b, off, z, rfl, -, hz, hcell⟩ := hc n hlt
            have hz0 := HST.out z (List.mem_append_right _ (List.mem_of_getElem? hz))
            obtain ⟨zn, rfl⟩ : ∃ zn : Nat, z = (zn : Int) := ⟨z.toNat, by omega⟩
            have hz31 : zn < 32 := by omega
            have hzi : (zn : Int) < 32 := by omega
            have hzi0 : (0 : Int) ≤ (zn : Int) := by omega
            obtain ⟨ch, hch⟩ : ∃ ch, cs[zn]? = some ch := ⟨_, List.getElem?_eq_getElem (by rw [HCK.out]; exact hz31)⟩
            have hc8 : wr.cell? ⟨lb, zn, none⟩ = some (.chan (some ch)) := HS.out.at_ hch
            obtain ⟨wv, hwc, hwo⟩ := HS.out.cell
            have HRP := Lib.hid (report_any ch (lb + 1 + 1) (lb + 3) wv (.map (some (lb + 1))) _ wr hwc hwo (by omega) HS.out.size (by rw [HLM.out]; have := List.length_filter_le (fun (s : Nat) => need.contains (s : Int) && !(reps.take n).contains (s : Int)) (List.range 32); rw [List.length_range] at this; unfold missL; omega))
            have HTK : Hid (reps.take (n + 1) = reps.take n ++ [(zn : Int)]) := take_snoc? hz
            have HKP : Hid (kpC ch (chs cs (missL need (reps.take n))) = chs cs (missL need (reps.take (n + 1)))) := by
              show _ = _
              rw [HTK.out, miss_step rfl]
              exact kp_chs HS.out.nd hch fun s hs => by rw [HCK.out]; exact miss_lt hs
            rw [HKP.out] at HRP
            clear hwc hwo hz hc HKP HTK hz0 hch
            go_wp2_with fail
            refine HRP.out.mono ?_
            rintro e w1 ⟨⟨vr, rfl⟩, ⟨v', hc', ho'⟩, hk'⟩
            have HS1 := Lib.hid (HS.out.told hk' hc' ho')
            obtain ⟨A1', c1', rfl⟩ := ho'.slice
            rw [HLM.out] at hc'
            have HK1 := HKM.out (reps.take (n + 1))
            have m0 : w1.cell? ⟨lb + 1 + 1, 0, none⟩ = some (.slice A1' (missL need (reps.take (n + 1))).length c1') := (blk_cell hc' 0).trans rfl
            have HATN : Hid (atP need reps (n + 1) = if missL need (reps.take (n + 1)) = [] ∧ atP need reps n < 0 then (n : Int) + 1 else atP need reps n) := rfl
            obtain ⟨m, hm⟩ : ∃ m, m = (missL need (reps.take (n + 1))).length := ⟨_, rfl⟩
            rw [← hm] at m0 HK1
            clear HS HRP hc' ho' hk' hm hcell hc8
            by_cases hm0 : m = 0
            · subst hm0
              by_cases ha : atP need reps n < 0
              · have HE : Hid (atP need reps (n + 1) = (n : Int) + 1) := by show _ = _; rw [HATN.out, if_pos ⟨HK1.1 rfl, ha⟩]
                clear HK1 HATN
                go_wp2_with fail
                go_roundw
                case rel => exact ⟨n + 1, by omega, by go_num, by rw [HE.out], HS1.out⟩
                case measure => simp [RowKit.intOf]; omega
              · have HE : Hid (atP need reps (n + 1) = atP need reps n) := by show _ = _; rw [HATN.out, if_neg fun h => ha h.2]
                clear HK1 HATN
                go_wp2_with fail
                go_roundw
                case rel => exact ⟨n + 1, by omega, by go_num, by rw [HE.out], HS1.out⟩
                case measure => simp [RowKit.intOf]; omega
            · have HE : Hid (atP need reps (n + 1) = atP need reps n) := by show _ = _; rw [HATN.out, if_neg fun h => hm0 (HK1.2 h.1)]
              have hmb : ((m : Int) == 0) = false := beq_false_of_ne (by omega)
              have hmb2 : ¬ (m : Int) = 0 := by omega
              clear HK1 HATN
              go_wp2_with fail
              go_roundw
              case rel => exact ⟨n + 1, by omega, by go_num, by rw [HE.out], HS1.out⟩
              case measure => simp [RowKit.intOf]; omega
          · obtain rfl : n = n2 := by omega
            have hnn : ¬ (n : Int) < (n : Int) := by omega
            have HTK : Hid (reps.take n = reps) := List.take_of_length_le (by rw [HN2.out]; exact Nat.le_refl _)
            rw [HTK.out] at HS
            obtain ⟨wv, hwc, hwo⟩ := HS.out.cell
            obtain ⟨Aw, cw, rfl⟩ := hwo.slice
            have HRW := Lib.hid hwo.rd
            rw [HLM.out] at hwc HRW
            have m0 : wr.cell? ⟨lb + 1 + 1, 0, none⟩ = some (.slice Aw (missL need reps).length cw) := (blk_cell hwc 0).trans rfl
            obtain ⟨ms, hms⟩ : ∃ l, l = missL need reps := ⟨_, rfl⟩
            have HMS : Hid (∀ s ∈ ms, s < 32) := fun s hs => miss_lt (hms ▸ hs)
            rw [← hms] at m0 HRW HS HOK
            have HML : Hid (ms.length ≤ 32) := by
              show _ ≤ _
              rw [hms]
              have := List.length_filter_le (fun (s : Nat) => need.contains (s : Int) && !reps.contains (s : Int)) (List.range 32); rw [List.length_range] at this; unfold missL; omega
            obtain ⟨m, hm⟩ : ∃ m, m = ms.length := ⟨_, rfl⟩
            rw [← hm] at m0 HRW HML
            have HM := Lib.hid hm
            have hm32 : m ≤ 32 := HML.out
            clear hwc hwo hms hm HML
            go_wp2_with fail
            go_loopw [13, 98] (fun ov iv wx => ∃ (i c : Nat) (A : Option Addr), i ≤ m ∧ iv = .int .i64 (i : Int) ∧ ov = .slice A i c ∧ Hid (OwnI wx wr.heap.size (.slice A i c) ((ms.take i).map fun (s : Nat) => (s : Int))) ∧ Hid (Below wr.heap.size wr wx)) (fun _ iv _ => m - (RowKit.intOf iv).toNat)
            case atStart => exact ⟨0, 0, none, Nat.zero_le _, rfl, rfl, OwnI.nil _ _, Below.refl _ _⟩
            case round =>
              obtain ⟨i, c, A, hi, rfl, rfl, HO, HJ⟩ := hrel
              have HS2 := Lib.hid (HS.out.below HJ.out)
              have HIL : Hid (((ms.take i).map fun (s : Nat) => (s : Int)).length = i) := by show _ = _; rw [List.length_map, List.length_take, Nat.min_eq_left (by rw [← HM.out]; exact hi)]
              by_cases hlt : i < m
              · have hii : (i : Int) < (m : Int) := by omega
                have hi0 : (0 : Int) ≤ (i : Int) := by omega
                have hwi : IntKind.i64.wrap ((i : Int) + 1) = (i : Int) + 1 := IntWalk.i64_in _ (by omega)
                obtain ⟨A', n', cap', he, -, -, -, hc⟩ := (HRW.out.below HJ.out).open_
                injection he with he1 he2 he3
                subst he1 he2 he3
                obtain ⟨b, off, ch, rfl, -, hcx, hcell⟩ := hc i hlt
                unfold chs at hcx
                rw [List.getElem?_map] at hcx
                obtain ⟨s, hs, hsc⟩ := Option.map_eq_some_iff.1 hcx
                have hs32 := HMS.out s (List.mem_of_getElem? hs)
                have hcs : cs[s]? = some ch := by
                  rw [List.getD_eq_getElem?_getD, List.getElem?_eq_getElem (by rw [HCK.out]; exact hs32)] at hsc
                  rw [List.getElem?_eq_getElem (by rw [HCK.out]; exact hs32), ← hsc]; rfl
                have hcell' : wr.cell? ⟨b, off + i, none⟩ = some (.chan (some ch)) := hcell
                have hlk : (Instr.lookup 105 (.map (some (lb + 1))) (.chan (some ch)) false).run Tryz.prog wr = .ok (.int .i64 (s : Int)) wr := run_number (lb + 1) ch s wr (numL cs) cs.length s HS2.out.map (numL_at hcs) (fun q p hq hp e => by
                  have hql : q < cs.length := by rw [HCK.out]; omega
                  have h1 := numL_at (List.getElem?_eq_getElem hql)
                  rw [hp] at h1
                  injection h1 with h1
                  rw [h1] at e
                  have h2 := (List.getElem?_eq_some_iff.1 hcs)
                  obtain ⟨h3, h4⟩ := h2
                  have := (List.getElem_inj HS2.out.nd).1 ((show cs[q] = ch from e).trans h4.symm)
                  omega)
                have hm1 : wr.cell? ⟨lb + 1 + 1, 1, none⟩ = some (.map (some (lb + 1))) := by
                  obtain ⟨wv, hwc, -⟩ := HS2.out.cell
                  rw [blk_cell hwc]; rfl
                have HTK : Hid ((ms.take (i + 1)).map (fun (s : Nat) => (s : Int)) = (ms.take i).map (fun (s : Nat) => (s : Int)) ++ [(s : Int)]) := by
                  show _ = _
                  rw [take_snoc? hs, List.map_append]; rfl
                have hi100 : i ≤ 100000 := by omega
                clear hc hcx hs hsc hcs hcell
                go_wp2_with (at_builtin; refine wpList_pushI rfl _ _ rfl rfl rfl rfl rfl HIL.out HO.out hi100 HJ.out.size ?_; intro A8 c8 w8 HO8 HG8; replace HO8 := Lib.hid HO8; replace HG8 := Lib.hid HG8)
                go_roundw
                case rel => exact ⟨i + 1, c8, _, by omega, by go_num, rfl, by show OwnI _ _ _ _; rw [HTK.out]; exact HO8.out, HJ.out.trans (HG8.out.below HJ.out.size (fun q hq => (World.ownsRow.lt HO.out q hq).1))⟩
                case measure => simp [RowKit.intOf]; omega
              · obtain rfl : i = m := by omega
                have hii : ¬ (i : Int) < (i : Int) := by omega
                have HTK : Hid (ms.take i = ms) := List.take_of_length_le (by rw [← HM.out]; exact Nat.le_refl _)
                rw [HTK.out] at HO
                go_wp2_with fail
                go_ret3
                rw [HOK.out]
                exact ⟨_, rfl, HO.out.rd, HS2.out.keep⟩
end Go.Proofs.YtfondpakbiagjaaGreatDoor
