/- The walks of the methods of a nil book. The walks of the methods of a nil book: Enter, Get, Leads. All of a nil book: no round. A loop over a function whose rounds are told something of what they are handed: the law; the contract of Book.All of a book with items. A loop over All of a book with items, whose loop variable is boxed. -/
import Derived.Test.YtlanephpmoajiaaTouched
import Derived.Test.YtlanephpmoajiaaGet
import Derived.Deep.QuietTactic
import Derived.BigQuiet
import Derived.RangeFuncNested
import Derived.RangeFuncBound
import Derived.RangeFuncCalls
import Derived.RangeFuncLeaves
import Derived.Shelf.Abstract
import Derived.OwnWalkIn
import Derived.TacticsInMore
import Derived.LoopNIn
import Derived.LoopIn
import Derived.Test.YtlanephpmoajiaaClone
namespace Go.Proofs.Ytlanephpmoajiaa
open Go.RowKit
set_option linter.unusedVariables false
set_option maxRecDepth 100000 in
theorem find_nil (nm : ByteArray) (w : World) : Calls Try.prog 56 #[.pointer none, .string nm] w fun e w' => e = .returned (.tuple #[.int .i64 0, .int .i64 1]) ∧ w = w' := by
  go_enter Try.func56, Try.ntmps56
  go_wp2_with fail
  go_ret2
  exact ⟨rfl, rfl⟩
set_option maxRecDepth 100000 in
theorem sources_nil (nm : ByteArray) (w : World) : Calls Try.prog 35 #[.pointer none, .string nm] w fun e w' => e = .returned (.tuple #[.slice none 0 0, .int .i64 1]) ∧ w = w' := by
  have HF := Lib.hid (find_nil nm)
  go_enter Try.func35, Try.ntmps35
  go_wp2_with (go_at_call 56; refine (HF.out _).mono ?_; rintro e w' ⟨rfl, rfl⟩)
  go_ret2
  exact ⟨rfl, rfl⟩
set_option maxRecDepth 100000 in
theorem certain_nil (nm : ByteArray) (w : World) : Calls Try.prog 37 #[.pointer none, .string nm] w fun e w' => e = .returned (.tuple #[.slice none 0 0, .int .i64 1]) ∧ w = w' := by
  have HF := Lib.hid (find_nil nm)
  go_enter Try.func37, Try.ntmps37
  go_wp2_with (go_at_call 56; refine (HF.out _).mono ?_; rintro e w' ⟨rfl, rfl⟩)
  go_ret2
  exact ⟨rfl, rfl⟩
set_option maxRecDepth 100000 in
theorem uses_nil (nm : ByteArray) (w : World) : Calls Try.prog 23 #[.pointer none, .string nm] w fun e w' => e = .returned (.tuple #[.slice none 0 0, .int .i64 1]) ∧ w = w' := by
  have HF := Lib.hid (find_nil nm)
  go_enter Try.func23, Try.ntmps23
  go_wp2_with (go_at_call 56; refine (HF.out _).mono ?_; rintro e w' ⟨rfl, rfl⟩)
  go_ret2
  exact ⟨rfl, rfl⟩
set_option maxRecDepth 100000 in
theorem fault_nil (it : ByteArray) (si un : Int) (w : World) : Calls Try.prog 83 #[.pointer none, .agg #[.string it, .int .i64 si, .int .i64 un]] w fun e w' => e = .returned (.tuple #[.int .i64 0, .int .i64 1]) ∧ Below w.heap.size w w' := by
  have HF := Lib.hid (find_nil it)
  have HB := Lib.hid ((Below.refl _ w).alloc (Nat.le_refl _) (.cells #[.string it, .int .i64 si, .int .i64 un] 55))
  go_enter Try.func83, Try.ntmps83
  go_wp2_with (go_at_call 56; refine (HF.out _).mono ?_; rintro e w' ⟨rfl, rfl⟩)
  go_ret2
  exact ⟨rfl, HB.out⟩
set_option maxRecDepth 100000 in
theorem touchedMs_nil (it : ByteArray) (si un : Int) (w : World) : Calls Try.prog 59 #[.pointer none, .agg #[.string it, .int .i64 si, .int .i64 un]] w fun e w' => e = .returned (.tuple #[.slice none 0 0, .int .i64 1]) ∧ Below w.heap.size w w' := by
  obtain ⟨W1, hW1⟩ : ∃ W1, W1 = w.alloc (.cells #[.string it, .int .i64 si, .int .i64 un] 55) := ⟨_, rfl⟩
  have hb : Below w.heap.size w W1 := by rw [hW1]; exact (Below.refl _ w).alloc (Nat.le_refl _) _
  have HF := Lib.hid (fault_nil it si un W1)
  have HW := Lib.hid hW1
  have HB := Lib.hid hb
  clear hW1 hb
  go_enter Try.func59, Try.ntmps59
  go_wp2_with fail
  rw [← HW.out]
  refine HF.out.mono ?_
  rintro e w' ⟨rfl, hb2⟩
  go_wp2_with fail
  go_ret2
  exact ⟨rfl, HB.out.trans (hb2.mono HB.out.size)⟩
set_option maxRecDepth 100000 in
theorem touched_nil (it : ByteArray) (si un : Int) (w : World) : Calls Try.prog 22 #[.pointer none, .agg #[.string it, .int .i64 si, .int .i64 un]] w fun e w' => e = .returned (.tuple #[.slice none 0 0, .int .i64 1]) ∧ Below w.heap.size w w' := by
  obtain ⟨W1, hW1⟩ : ∃ W1, W1 = w.alloc (.cells #[.string it, .int .i64 si, .int .i64 un] 55) := ⟨_, rfl⟩
  have hb : Below w.heap.size w W1 := by rw [hW1]; exact (Below.refl _ w).alloc (Nat.le_refl _) _
  have HF := Lib.hid (touchedMs_nil it si un W1)
  have HW := Lib.hid hW1
  have HB := Lib.hid hb
  clear hW1 hb
  go_enter Try.func22, Try.ntmps22
  go_wp2_with fail
  rw [← HW.out]
  refine HF.out.mono ?_
  rintro e w' ⟨rfl, hb2⟩
  go_wp2_with fail
  go_ret2
  exact ⟨rfl, HB.out.trans (hb2.mono HB.out.size)⟩
set_option maxRecDepth 100000 in
theorem recall_nil (w : World) : Calls Try.prog 46 #[.pointer none, .slice none 0 0] w fun e w' => e = .returned (.tuple #[.slice none 0 0, .int .i64 1]) ∧ w = w' := by
  go_enter Try.func46, Try.ntmps46
  go_wp2_with fail
  go_ret2
  exact ⟨rfl, rfl⟩
set_option maxRecDepth 100000 in
theorem trail_nil (it : ByteArray) (si un : Int) (nm : ByteArray) (w : World) : Calls Try.prog 51 #[.pointer none, .agg #[.string it, .int .i64 si, .int .i64 un], .string nm] w fun e w' => e = .returned (.tuple #[.slice none 0 0, .int .i64 1]) ∧ Below w.heap.size w w' := by
  obtain ⟨W1, hW1⟩ : ∃ W1, W1 = w.alloc (.cells #[.string it, .int .i64 si, .int .i64 un] 55) := ⟨_, rfl⟩
  have hb : Below w.heap.size w W1 := by rw [hW1]; exact (Below.refl _ w).alloc (Nat.le_refl _) _
  have HF := Lib.hid (fault_nil it si un W1)
  have HW := Lib.hid hW1
  have HB := Lib.hid hb
  clear hW1 hb
  go_enter Try.func51, Try.ntmps51
  go_wp2_with fail
  rw [← HW.out]
  refine HF.out.mono ?_
  rintro e w' ⟨rfl, hb2⟩
  go_wp2_with fail
  go_ret2
  exact ⟨rfl, HB.out.trans (hb2.mono HB.out.size)⟩
end Go.Proofs.Ytlanephpmoajiaa

namespace Go.Proofs.Ytlanephpmoajiaa
open Go.RowKit
set_option linter.unusedVariables false
set_option maxRecDepth 100000 in
theorem enter_nil (nm : ByteArray) (kd a : Int) (vf : Value) (w : World) : Calls Try.prog 18 #[.pointer none, .agg #[.string nm, .int .i64 kd, .int .i64 a, vf]] w fun e w' => e = .returned (.int .i64 1) ∧ Below w.heap.size w w' := by
  have HB := Lib.hid ((Below.refl _ w).alloc (Nat.le_refl _) (.cells #[.string nm, .int .i64 kd, .int .i64 a, vf] 37))
  go_enter Try.func18, Try.ntmps18
  go_wp2_with fail
  go_ret
  exact ⟨rfl, HB.out⟩
set_option maxRecDepth 100000 in
theorem get_nil (nm : ByteArray) (w : World) : Calls Try.prog 19 #[.pointer none, .string nm] w fun e w' => e = .returned (.tuple #[.agg #[.string ⟨#[]⟩, .int .i64 0, .int .i64 0, .slice none 0 0], .int .i64 1]) ∧ Below w.heap.size w w' := by
  have hm0 := heap_alloc_new w (.cells #[.string ⟨#[]⟩, .int .i64 0, .int .i64 0, .slice none 0 0] 37)
  have hw0 : Below w.heap.size w (w.alloc (.cells #[.string ⟨#[]⟩, .int .i64 0, .int .i64 0, .slice none 0 0] 37)) := (Below.refl _ w).alloc (Nat.le_refl _) _
  obtain ⟨W1, hW1⟩ : ∃ W1, W1 = w.alloc (.cells #[.string ⟨#[]⟩, .int .i64 0, .int .i64 0, .slice none 0 0] 37) := ⟨_, rfl⟩
  rw [← hW1] at hm0 hw0
  have HF := Lib.hid (find_nil nm)
  have HW1 := Lib.hid hW1
  clear hW1
  go_enter Try.func19, Try.ntmps19
  go_wp2_with fail
  rw [← HW1.out]
  refine (HF.out _).mono ?_
  rintro e w' ⟨rfl, rfl⟩
  have c0 := cell_of_row W1 _ 0 _ _ _ hm0
  have c1 := cell_of_row W1 _ 1 _ _ _ hm0
  have c2 := cell_of_row W1 _ 2 _ _ _ hm0
  have c3 := cell_of_row W1 _ 3 _ _ _ hm0
  have f0 := frozen_of_row W1 w.heap.size 0 _ _ hm0
  have f1 := frozen_of_row W1 w.heap.size 1 _ _ hm0
  have f2 := frozen_of_row W1 w.heap.size 2 _ _ hm0
  have f3 := frozen_of_row W1 w.heap.size 3 _ _ hm0
  go_wp2_with fail
  obtain ⟨s1, s2⟩ := stored4 hm0 (.string ⟨#[]⟩) (.int .i64 0) (.int .i64 0) (.slice none 0 0)
  obtain ⟨w4, hw4⟩ : ∃ w4, w4 = ((((W1.setCell ⟨w.heap.size, 0, none⟩ (.string ⟨#[]⟩)).setCell ⟨w.heap.size, 1, none⟩ (.int .i64 0)).setCell ⟨w.heap.size, 2, none⟩ (.int .i64 0)).setCell ⟨w.heap.size, 3, none⟩ (.slice none 0 0)) := ⟨_, rfl⟩
  rw [← hw4] at s1 s2 ⊢
  have q0 := cell_of_row w4 _ 0 _ _ _ s1
  have q1 := cell_of_row w4 _ 1 _ _ _ s1
  have q2 := cell_of_row w4 _ 2 _ _ _ s1
  have q3 := cell_of_row w4 _ 3 _ _ _ s1
  refine bodyPost_ret (v := .tuple #[.agg #[.string ⟨#[]⟩, .int .i64 0, .int .i64 0, .slice none 0 0], .int .i64 1]) (by simp [results, Try.results19, go_sem, q0, q1, q2, q3]) rfl ⟨rfl, ?_⟩
  exact hw0.trans (Keep.below (s2.mono (S' := (· < w.heap.size)) fun k hk => ⟨by have := hw0.size; omega, by omega⟩))
set_option maxRecDepth 100000 in
theorem leads_nil (it : ByteArray) (si un : Int) (way : Value) (w : World) : Calls Try.prog 49 #[.pointer none, .agg #[.string it, .int .i64 si, .int .i64 un], way] w fun e w' => e = .returned (.bool false) ∧ Below w.heap.size w w' := by
  obtain ⟨W1, hW1⟩ : ∃ W1, W1 = w.alloc (.cells #[.string it, .int .i64 si, .int .i64 un] 55) := ⟨_, rfl⟩
  have hb : Below w.heap.size w W1 := by rw [hW1]; exact (Below.refl _ w).alloc (Nat.le_refl _) _
  have HF := Lib.hid (fault_nil it si un W1)
  have HW := Lib.hid hW1
  have HB := Lib.hid hb
  clear hW1 hb
  go_enter Try.func49, Try.ntmps49
  go_wp2_with fail
  rw [← HW.out]
  refine HF.out.mono ?_
  rintro e w' ⟨rfl, hb2⟩
  go_wp2_with fail
  go_quiet (fail)
  go_wp2_with fail
  go_ret
  exact ⟨rfl, (HB.out.trans (hb2.mono HB.out.size)).trans ((below_drewN (Below.refl _ _) _).mono (by have := HB.out.size; have := hb2.size; omega))⟩
end Go.Proofs.Ytlanephpmoajiaa

namespace Go.Proofs.Ytlanephpmoajiaa
open Go.RowKit Go.Shelf
set_option linter.unusedVariables false
attribute [local go_sem] Oper.semAt_some
theorem all_any (p : Value) (w : World) (hp : ∃ a, p = .pointer a) : Calls Try.prog 28 #[p] w fun e w' => e = .returned (.func (.func 63) #[] #[.pointer (some ⟨w.heap.size, 0, none⟩)]) ∧ w.alloc (.cells #[p] 49) = w' := by
  obtain ⟨a, rfl⟩ := hp
  go_enter Try.func28, Try.ntmps28
  go_wp2_with fail
  go_ret
  exact ⟨rfl, rfl⟩
set_option maxRecDepth 100000 in
set_option maxHeartbeats 1000000 in
theorem all_nil_stops (n : Nat) (hn : 1 ≤ n) (Bs n₀ : Nat) (w : World) (hBs : Bs < w.heap.size) (hc : w.cell? ⟨Bs, 0, none⟩ = some (.pointer none)) :
    SeqStopsK Fence.wide n Try.prog 63 #[.pointer (some ⟨Bs, 0, none⟩)] (fun x : Value => #[x]) (Below n₀) (fun ys => ys = []) (fun _ => False) 0 w := fun l J Jx W hW _ _ hY h0 => by
  have hc' := (hW.cell (p := ⟨Bs, 0, none⟩) hBs).trans hc
  refine (callsIn_wide (n := n)).2 ?_
  clear hY hW
  show Calls Try.prog 63 #[.func (.yield l) #[] #[], .pointer (some ⟨Bs, 0, none⟩)] W _
  go_enter Try.func63, Try.ntmps63
  go_wp2_with fail
  refine bodyPost_ret (results_none rfl _ _ _) rfl ?_
  exact ⟨⟨_, rfl⟩, .inl ⟨_, rfl, h0⟩⟩
end Go.Proofs.Ytlanephpmoajiaa


namespace Go.Proofs.Ytlanephpmoajiaa
open Go.RowKit Go.Shelf
set_option linter.unusedVariables false
attribute [local go_sem] Oper.semAt_some

/-- What holds cells lies as it lay. -/
structure CellsKept (W W' : World) : Prop where
  size : W.heap.size ≤ W'.heap.size
  same : ∀ (k : Nat) (o : Obj), W.heap[k]? = some o → o.isCells = true → W'.heap[k]? = some o
theorem CellsKept.refl (W : World) : CellsKept W W := ⟨Nat.le_refl _, fun _ _ h _ => h⟩
theorem CellsKept.trans {A B C : World} (h : CellsKept A B) (k : CellsKept B C) : CellsKept A C := ⟨Nat.le_trans h.size k.size, fun i o hi ho => k.same i o (h.same i o hi ho) ho⟩
theorem CellsKept.of_below {A B : World} (h : Below A.heap.size A B) : CellsKept A B := ⟨h.size, fun k o hk _ => (h.block k (Array.getElem?_eq_some_iff.1 hk).1).trans hk⟩
theorem CellsKept.putObj {W : World} {l : Nat} {o o' : Obj} (hl : W.heap[l]? = some o) (ho : o.isCells = false) : CellsKept W (W.putObj l o') :=
  ⟨by simp, fun k p hk hp => (World.putObj_heap_other (fun e => by subst e; rw [hl] at hk; cases hk; rw [ho] at hp; cases hp)).trans hk⟩
/-- The contract of an iterator that hands out x where 'R pre x' holds of the world; a round keeps what lay below n₀. -/
def Told {α : Type} (n₀ gf : Nat) (lb : Array Value) (encs : α → Array Value) (R : List α → α → Nat → World → Prop) (S Sp : List α → Prop) (w : World) : Prop :=
  ∀ (l : Nat) (J Jx : List α → World → Prop) (W : World), Below w.heap.size w W → AbidesFrom W.heap.size J → AbidesFrom W.heap.size Jx →
    (∀ pre x W0 W1, J pre W0 → J pre W1 → CellsKept W0 W1 → R pre x W0.heap.size W1 → YieldAt Fence.wide 1 Try.prog l (encs x) W1 fun e W' => (e = .returned (.bool true) ∧ J (pre ++ [x]) W' ∧ Below n₀ W1 W') ∨ (e = .returned (.bool false) ∧ Jx (pre ++ [x]) W')) →
    J [] W → CallsIn Fence.wide 2 Try.prog gf (#[.func (.yield l) #[] #[]] ++ lb) W fun e W' => (∃ v, e = .returned v) ∧ ((∃ ys, S ys ∧ J ys W') ∨ ∃ pre, Sp pre ∧ Jx pre W')

theorem wp_range_told {α : Type} {g : Operand} {ps : Array Tmp} {assign body : Code} {Q : Exit → Act → World → Prop} {a : Act} {w : World} {gf : Nat} {lb : Array Value} (hg : a.eval g = .func (.func gf) #[] lb)
    (eg : ∀ args w, (callFunc gf args).run Try.prog w = .ok (.enter gf args) w) {encs : α → Array Value} {n₀ : Nat} {R : List α → α → Nat → World → Prop} {S Sp : List α → Prop} (hseq : Told n₀ gf lb encs R S Sp w) (hn : n₀ ≤ w.heap.size) (hps : ∀ x, (encs x).size = ps.size)
    (hR : ∀ pre x b W (l : Nat) (o o' : Obj), W.heap[l]? = some o → o.isCells = false → R pre x b W → R pre x b (W.putObj l o'))
    (I : List α → World → Prop) (Ix : Code → List α → World → Prop) (hI : OwnFrom w.heap.size I) (hIx : ∀ c, OwnFrom w.heap.size (Ix c)) (h0 : I [] w) (Ax : α → Act → World → Prop)
    (hAx : ∀ x a' W (l : Nat) (o o' : Obj), W.heap[l]? = some o → o.isCells = false → Ax x a' W → Ax x a' (W.putObj l o'))
    (hassign : ∀ (l : Nat) (pre : List α) (x : α) (b : Nat) (W : World) (K : Act → World → Prop), I pre W → R pre x b W → (∀ a' W', KeepsFrom w.heap.size W W' → CellsKept W W' → Below n₀ W W' → I pre W' → R pre x b W' → Ax x a' W' → K a' W') → assign.wpIn (Fence.wide.inRound l) 1 Try.prog (Exit.then K (fun _ _ _ => False)) { tmps := (ps.zip (encs x)).foldl (fun t (p, v) => t.setIfInBounds p v) a.tmps, defers := [] } W)
    (hbody : ∀ (l : Nat) (pre : List α) (x : α) (a' : Act) (W0 W : World), I pre W0 → CellsKept W0 W → I pre W → R pre x W0.heap.size W → Ax x a' W → body.wpIn (Fence.wide.inRound l) 1 Try.prog (ownPostG w.heap.size (Below n₀) I Ix (pre ++ [x]) W) a' W)
    (hdone : ∀ (D : Nat) (ys : List α) (W : World), w.heap.size ≤ D → S ys → I ys W → W.heap[D]? = some (.deferred (some [])) → Q .normal { a with defers := { target := .collected D, args := #[] } :: a.defers } W)
    (hstop : ∀ (D : Nat) (c : Code) (pre : List α) (W : World), w.heap.size ≤ D → Sp pre → Ix c pre W → W.heap[D]? = some (.deferred (some [])) → c.wpIn Fence.wide 3 Try.prog Q { a with defers := { target := .collected D, args := #[] } :: a.defers } W) :
    (Code.rangeFunc g ps assign body).wp Try.prog Q a w := by
  refine (wpIn_wide (n := 3)).1 (wpIn_rangeFunc fun fn hfn => ?_)
  -- the record, by its state and the jump that it waits with
  let L : LoopState → Option Code → Loop := fun st pe => { state := st, pending := pe, fn, tmps := a.tmps, params := ps, assign, body, defers := w.heap.size }
  have hB : ∀ {k : Nat} (W : World) (l : Nat) (o o' : Obj), k ≤ w.heap.size → w.heap.size ≤ l → W.heap[l]? = some o → Below k W (W.putObj l o') := fun {k} W l o o' hk hl ho =>
    (Below.refl k W).grown (grownBy_putObj' W l o') (by have := (Array.getElem?_eq_some_iff.1 ho).1; omega) (fun j e => by cases e; omega)
  have hmD : ((w.alloc (.deferred (some []))).alloc (.loop (L .ready none))).heap[w.heap.size]? = some (.deferred (some [])) := (Below.heap_alloc _ _ _ (by simp)).trans (World.alloc_heap_new w _)
  have hmL : ((w.alloc (.deferred (some []))).alloc (.loop (L .ready none))).heap[w.heap.size + 1]? = some (.loop (L .ready none)) := by
    have := World.alloc_heap_new (w.alloc (.deferred (some []))) (.loop (L .ready none)); rwa [World.size_alloc] at this
  have hI1 : I [] ((w.alloc (.deferred (some []))).alloc (.loop (L .ready none))) := hI.alloc _ (hI.alloc _ h0)
  have hb1 : Below w.heap.size w ((w.alloc (.deferred (some []))).alloc (.loop (L .ready none))) := ((Below.refl _ w).alloc (Nat.le_refl _) _).alloc (by simp) _
  have hs1 : ((w.alloc (.deferred (some []))).alloc (.loop (L .ready none))).heap.size = w.heap.size + 2 := by simp
  refine ⟨w.heap.size + 1, [{ target := .collected w.heap.size, args := #[] }], _, { target := .fn (.func gf) lb, args := #[.func (.yield (w.heap.size + 1)) #[] #[]] }, (w.alloc (.deferred (some []))).alloc (.loop (L .ready none)), gf,
    #[.func (.yield (w.heap.size + 1)) #[] #[]] ++ lb, (w.alloc (.deferred (some []))).alloc (.loop (L .ready none)), run_enterLoop_outer _ _ _ _ _, ?_, fun f' hf' => trivial, ?_, (fun h => by cases h), ?_⟩
  · simp only [resolve, hg]
    simp [go_sem]
    rfl
  · simp [invoke, go_sem, eg]
  generalize hW1 : (w.alloc (.deferred (some []))).alloc (.loop (L .ready none)) = W1 at hmD hmL hI1 hb1 hs1 ⊢
  have away : ∀ {A : World} {row : Option Nat}, (∀ r, row = some r → W1.heap.size ≤ r ∧ ∃ o : Obj, A.heap[r]? = some o ∧ o.isWalk = true) → ∀ r, row = some r → w.heap.size ≤ r ∧ ∃ o : Obj, A.heap[r]? = some o ∧ o.isCells = false := fun hr r e => by
    obtain ⟨h1, o, ho, hw⟩ := hr r e
    exact ⟨by omega, o, ho, Obj.not_cells_of_walk hw⟩
  have stay : ∀ {A B : World} {row : Option Nat} {k : Nat} {o : Obj}, A.grownBy B row → (∀ r, row = some r → W1.heap.size ≤ r ∧ ∃ o : Obj, A.heap[r]? = some o ∧ o.isWalk = true) → A.heap[k]? = some o → o.isWalk = false → B.heap[k]? = some o := fun hg hr hk ho =>
    (grownBy_keeps hg (fun r e => (hr r e).2) hk ho).trans hk
  refine (hseq (w.heap.size + 1) (fun pre W => I pre W ∧ W.heap[w.heap.size + 1]? = some (.loop (L .ready none)) ∧ W.heap[w.heap.size]? = some (.deferred (some [])))
    (fun pre W => ∃ c, Ix c pre W ∧ W.heap[w.heap.size + 1]? = some (.loop (L .done (some c))) ∧ W.heap[w.heap.size]? = some (.deferred (some []))) W1 hb1
    (fun s A B row hs hg' hr => ⟨hI s A B row hs.1 hg' (away hr), stay hg' hr hs.2.1 rfl, stay hg' hr hs.2.2 rfl⟩)
    (fun s A B row hs hg' hr => let ⟨c, hc, hl, hk⟩ := hs; ⟨c, hIx c s A B row hc hg' (away hr), stay hg' hr hl rfl, stay hg' hr hk rfl⟩) ?_ ⟨hI1, hmL, hmD⟩).mono ?_
  · -- one round
    rintro pre x Wp W0 ⟨hip, -, -⟩ ⟨hi0, hl0, hk0⟩ hck hr0
    refine ⟨fn, _, assign, body, run_yield (r := L .ready none) hl0 (hps x), roundIn_of_wpIn hfn (hassign _ pre x _ W0 _ hi0 hr0 fun a' W hks hcs hbs hi hr hax => ?_)⟩
    have hl : W.heap[w.heap.size + 1]? = some (.loop (L .ready none)) := hks.same _ _ (by omega) hl0 rfl
    have hk : W.heap[w.heap.size]? = some (.deferred (some [])) := hks.same _ _ (Nat.le_refl _) hk0 rfl
    have hlt := (Array.getElem?_eq_some_iff.1 hl).1
    refine ⟨_, run_beginRound (r := L .ready none) hl rfl, ?_⟩
    have hl2 : (W.putObj (w.heap.size + 1) (.loop (L .busy none))).heap[w.heap.size + 1]? = some (.loop (L .busy none)) := World.putObj_heap_same hlt
    have hk2 : (W.putObj (w.heap.size + 1) (.loop (L .busy none))).heap[w.heap.size]? = some (.deferred (some [])) := (World.putObj_heap_other (by omega)).trans hk
    have hbl := hbs.trans (hB (k := n₀) W _ _ (.loop (L .busy none)) hn (by omega) hl)
    refine wpIn_mono (hbody _ pre x a' Wp _ hip ((hck.trans hcs).trans (CellsKept.putObj hl rfl)) (hI.putObj _ hi (by omega) hl rfl) (hR _ _ _ _ _ _ _ hl rfl hr) (hAx _ _ _ _ _ _ hl rfl hax)) ?_
    have fin : ∀ (jump : Option Code) (W3 : World), KeepsFrom w.heap.size (W.putObj (w.heap.size + 1) (.loop (L .busy none))) W3 →
        (Instr.endRound (w.heap.size + 1) jump).run Try.prog W3 = .ok (.bool jump.isNone) (W3.putObj (w.heap.size + 1) (.loop (L (if jump.isNone then .ready else .done) jump))) ∧ W3.heap[w.heap.size + 1]? = some (.loop (L .busy none)) ∧
        (W3.putObj (w.heap.size + 1) (.loop (L (if jump.isNone then .ready else .done) jump))).heap[w.heap.size + 1]? = some (.loop (L (if jump.isNone then .ready else .done) jump)) ∧
        (W3.putObj (w.heap.size + 1) (.loop (L (if jump.isNone then .ready else .done) jump))).heap[w.heap.size]? = some (.deferred (some [])) := fun jump W3 hk3 => by
      have hl3 := hk3.same _ _ (by omega) hl2 rfl
      exact ⟨run_endRound (r := L .busy none) jump hl3, hl3, World.putObj_heap_same (Array.getElem?_eq_some_iff.1 hl3).1, (World.putObj_heap_other (by omega)).trans (hk3.same _ _ (Nat.le_refl _) hk2 rfl)⟩
    intro e a3 W3 hp
    have jump : ∀ c : Code, KeepsFrom w.heap.size (W.putObj (w.heap.size + 1) (.loop (L .busy none))) W3 → Ix c (pre ++ [x]) W3 → _ := fun c hk3 hi3 => by
      obtain ⟨hr3, hl3, hl4, hk4⟩ := fin (some c) W3 hk3
      exact (⟨_, _, hr3, .inr ⟨rfl, c, (hIx _).putObj _ hi3 (by omega) hl3 rfl, hl4, hk4⟩⟩ : ∃ (b : Value) (W4 : World), (Instr.endRound (w.heap.size + 1) (some c)).run Try.prog W3 = .ok b W4 ∧
        ((Ending.returned b = .returned (.bool true) ∧ (I (pre ++ [x]) W4 ∧ W4.heap[w.heap.size + 1]? = some (.loop (L .ready none)) ∧ W4.heap[w.heap.size]? = some (.deferred (some []))) ∧ Below n₀ W0 W4) ∨
          (Ending.returned b = .returned (.bool false) ∧ ∃ c, Ix c (pre ++ [x]) W4 ∧ W4.heap[w.heap.size + 1]? = some (.loop (L .done (some c))) ∧ W4.heap[w.heap.size]? = some (.deferred (some [])))))
    cases e with
    | normal =>
      obtain ⟨hk3, hkp3, hi3⟩ := hp
      obtain ⟨hr3, hl3, hl4, hk4⟩ := fin none W3 hk3
      exact ⟨_, _, hr3, .inl ⟨rfl, ⟨hI.putObj _ hi3 (by omega) hl3 rfl, hl4, hk4⟩, (hbl.trans hkp3).trans (hB _ _ _ _ hn (by omega) hl3)⟩⟩
    | ret => exact jump .ret hp.1 hp.2
    | exit id => exact jump (.exit id) hp.1 hp.2
    | goto t => exact jump (.goto t) hp.1 hp.2
    | panic ch => exact hp.elim
    | outgrown => exact hp.elim
  · -- behind the iterator
    rintro e W2 ⟨⟨v, rfl⟩, ⟨ys, hS, hi, hl, hk⟩ | ⟨pre, hSp, c, hi, hl, hk⟩⟩
    · exact ⟨none, _, run_endLoop (r := L .ready none) hl (by simp [L]), hdone _ ys _ (Nat.le_refl _) hS (hI.putObj _ hi (by omega) hl rfl) ((World.putObj_heap_other (by omega)).trans hk)⟩
    · exact ⟨some c, _, run_endLoop (r := L .done (some c)) hl (by simp [L]), hstop _ c pre _ (Nat.le_refl _) hSp ((hIx c).putObj _ hi (by omega) hl rfl) ((World.putObj_heap_other (by omega)).trans hk)⟩
/-- Block k holds cells. -/
def CellsB (W : World) (k : Nat) : Prop := ∃ o : Obj, W.heap[k]? = some o ∧ o.isCells = true
theorem cellsB_of {W : World} {a : Addr} {v : Value} (h : W.cell? a = some v) : CellsB W a.block := by
  unfold World.cell? at h
  cases ho : W.heap[a.block]? with
  | none => simp [ho] at h
  | some o => exact ⟨o, ho, by cases o <;> simp_all [Obj.isCells]⟩
theorem Rd.cellsB {α : Type} {f : α → Value} {w : World} {S : Nat → Prop} {v : Value} {xs : List α} (h : Rd f w S v xs) : Rd f w (fun b => S b ∧ CellsB w b) v xs := by
  obtain ⟨A, cap, rfl, h1, h2, h3⟩ := h
  refine ⟨A, cap, rfl, h1, h2, fun hn => ?_⟩
  obtain ⟨b, off, rfl, hb, hc⟩ := h3 hn
  refine ⟨b, off, rfl, ⟨hb, ?_⟩, hc⟩
  obtain ⟨x, l, rfl⟩ := List.exists_cons_of_ne_nil hn
  exact cellsB_of (a := ⟨b, _, none⟩) (hc 0 (by simp))
theorem Rd2.cellsB {w : World} {S : Nat → Prop} {v : Value} {xss : List (List ByteArray)} (h : Rd2 w S v xss) : Rd2 w (fun b => S b ∧ CellsB w b) v xss := by
  obtain ⟨vs, h1, h2, h3⟩ := h
  exact ⟨vs, h1.cellsB, h2, fun i x hx => by obtain ⟨u, hu, hr⟩ := h3 i x hx; exact ⟨u, hu, hr.cellsB⟩⟩
theorem keep_putObj {W : World} {l : Nat} {o o' : Obj} (hl : W.heap[l]? = some o) (ho : o.isCells = false) : Keep (CellsB W) W (W.putObj l o') := by
  have hg := grownBy_putObj' W l o'
  refine ⟨hg.os, hg.tape, hg.output, hg.size, fun k hk => ?_⟩
  obtain ⟨p, hp, hc⟩ := hk
  refine hg.block k (Array.getElem?_eq_some_iff.1 hp).1 (fun e => ?_)
  cases e
  rw [hl] at hp
  cases hp
  rw [ho] at hc
  cases hc
theorem Rd2.putObj {W : World} {S : Nat → Prop} {l : Nat} {o o' : Obj} {v : Value} {xss : List (List ByteArray)} (h : Rd2 W S v xss) (hl : W.heap[l]? = some o) (ho : o.isCells = false) : Rd2 (W.putObj l o') S v xss :=
  ((h.cellsB.mono (S' := fun b => CellsB W b ∧ S b) fun k hk => ⟨hk.2, hk.1⟩).keep ((keep_putObj hl ho).mono fun k hk => hk.1)).mono fun k hk => hk.2

/-- What a round of a loop over All is handed: the next item; its list is the round's own to read. -/
def AllR (xs : List ItemD) (pre : List (ItemD × Value)) (x : ItemD × Value) (b0 : Nat) (W : World) : Prop := xs[pre.length]? = some x.1 ∧ pre.map (·.1) = xs.take pre.length ∧ Rd2 W (b0 ≤ ·) x.2 x.1.frm
theorem allR_put {xs : List ItemD} (pre : List (ItemD × Value)) (x : ItemD × Value) (b0 : Nat) (W : World) (l : Nat) (o o' : Obj) (hl : W.heap[l]? = some o) (ho : o.isCells = false) (h : AllR xs pre x b0 W) : AllR xs pre x b0 (W.putObj l o') := ⟨h.1, h.2.1, h.2.2.putObj hl ho⟩
def allEnc (x : ItemD × Value) : Array Value := #[.agg #[.string x.1.name, .int .i64 x.1.kind, .int .i64 x.1.at_, x.2]]
theorem pre_succ {xs : List ItemD} {pre : List (ItemD × Value)} {x : ItemD × Value} (h : pre.map (·.1) = xs.take pre.length) (hx : xs[pre.length]? = some x.1) : (pre ++ [x]).map (·.1) = xs.take (pre ++ [x]).length := by
  rw [List.map_append, h, List.length_append, List.length_singleton, take_snoc? hx]; rfl
set_option maxRecDepth 100000 in
set_option maxHeartbeats 2000000 in
theorem all_told (p : Value) (B : Nat) (F : Nat → Prop) (xs : List ItemD) (w0 w : World) (hbk : Bk w0 B p F xs) (hsm : ∀ x ∈ xs, x.frm.length ≤ 1000 ∧ ∀ c ∈ x.frm, c.length ≤ 1000) (hxl : xs.length ≤ 1024) (h0w : Below w0.heap.size w0 w) (Bs : Nat) (hBs : Bs < w.heap.size) (hc : w.cell? ⟨Bs, 0, none⟩ = some p) :
    Told w0.heap.size 63 #[.pointer (some ⟨Bs, 0, none⟩)] allEnc (AllR xs) (fun ys => ys.map (·.1) = xs) (fun pre => pre.map (·.1) = xs.take pre.length ∧ pre.length ≤ xs.length) w := fun l J Jx W hW hJa hJxa hY h0 => by
  have hc' := (hW.cell (p := ⟨Bs, 0, none⟩) hBs).trans hc
  have h0W : Below w0.heap.size w0 W := h0w.trans (hW.mono h0w.size)
  have hWs := hW.size
  obtain ⟨bb, vi, r, fs, rfl, hb0⟩ := hbk
  obtain ⟨A, cp, rfl⟩ := ownsRow_slice hb0.own
  have e0 : W.cell? ⟨bb, 0, none⟩ = _ := (hb0.below h0W).cell0
  obtain ⟨n, hn⟩ : ∃ n, n = xs.length := ⟨_, rfl⟩
  have HB := Lib.hid hb0
  have HN := Lib.hid hn
  have HSM := Lib.hid hsm
  have hn1024 : n ≤ 1024 := by omega
  rw [← hn] at e0
  have HJ := Lib.hid hJa
  have HY := Lib.hid hY
  have H0W := Lib.hid h0W
  clear hb0 hn hsm hW hJa hJxa hY h0W h0w hc
  refine callsIn_of_wp Try.func63 rfl trivial ?_ rfl
  simp only [Try.ntmps63, List.size_toArray, List.length_cons, List.length_nil, Nat.reduceAdd, Nat.reduceSub, Array.replicate_succ, Array.replicate_zero, List.push_toArray, List.append_toArray, List.nil_append, List.cons_append]
  gi_wp2
  gi_loopw [12] (fun i wr => ∃ k : Nat, k ≤ n ∧ i = .int .i64 k ∧ (∃ pre : List (ItemD × Value), pre.length = k ∧ pre.map (·.1) = xs.take k ∧ J pre wr) ∧ Below w0.heap.size w0 wr ∧ W.heap.size ≤ wr.heap.size) (fun i _ => n - (intOf i).toNat)
  case atStart => exact ⟨0, Nat.zero_le _, rfl, ⟨[], rfl, rfl, h0⟩, H0W.out, Nat.le_refl _⟩
  case round =>
    obtain ⟨k, hk, rfl, ⟨pre, hpl, hpm, hJ⟩, hbel, hsz⟩ := hrel
    by_cases hlt : k < n
    · obtain ⟨x, hx⟩ : ∃ x, xs[k]? = some x := ⟨xs[k]'(by have := HN.out; omega), List.getElem?_eq_getElem _⟩
      obtain ⟨g', cap', f, he, hcap', hg1, hg2, i0', i1', i2', i3', hfr⟩ := (HB.out.below hbel).item hx
      simp only [Value.slice.injEq] at he
      obtain ⟨rfl, -, rfl⟩ := he
      obtain ⟨Af, nf, cf, rfl⟩ := hfr.isSlice
      have hsmx := HSM.out x (mem_of_get? hx)
      obtain ⟨xn, xk, xa, xf⟩ := x
      simp only at i0' i1' i2' i3' hfr hsmx
      obtain ⟨wa, hwa⟩ : ∃ wa, wa = wr.alloc (.cells #[.string xn, .int .i64 xk, .int .i64 xa, .slice Af nf cf] 37) := ⟨_, rfl⟩
      have hba : Below wr.heap.size wr wa := by rw [hwa]; exact (Below.refl _ _).alloc (Nat.le_refl _) _
      have hma := heap_alloc_new wr (.cells #[.string xn, .int .i64 xk, .int .i64 xa, .slice Af nf cf] 37)
      rw [← hwa] at hma
      have a0 : wa.cell? ⟨wr.heap.size, 0, none⟩ = some (.string xn) := cell_of_row wa _ 0 _ _ _ hma
      have a1 : wa.cell? ⟨wr.heap.size, 1, none⟩ = some (.int .i64 xk) := cell_of_row wa _ 1 _ _ _ hma
      have a2 : wa.cell? ⟨wr.heap.size, 2, none⟩ = some (.int .i64 xa) := cell_of_row wa _ 2 _ _ _ hma
      have a3 : wa.cell? ⟨wr.heap.size, 3, none⟩ = some (.slice Af nf cf) := cell_of_row wa _ 3 _ _ _ hma
      have HCP := Lib.hid (copied_any xn xk xa (.slice Af nf cf) xf _ wa (hfr.below hba) hsmx.1 hsmx.2)
      have HBA := Lib.hid hba
      have HX := Lib.hid hx
      have HBEL := Lib.hid hbel
      have HWA := Lib.hid hwa
      clear hfr hx hwa hma hba hbel
      gi_wp2
      refine ⟨trivial, ?_⟩
      rw [← HWA.out]
      refine (callsIn_wide.2 HCP.out).mono ?_
      rintro e w5 ⟨⟨vf, rfl, ho⟩, hb5⟩
      have hb15 : Below wr.heap.size wr w5 := HBA.out.trans (hb5.mono HBA.out.size)
      have hJ5 : J pre w5 := HJ.out pre wr w5 none hJ ⟨hb15.os, hb15.tape, hb15.output, hb15.size, fun k hk _ => hb15.block k hk⟩ (fun r e => by cases e)
      obtain ⟨fn, tmps, assign, body, hy, hR⟩ := HY.out pre (⟨xn, xk, xa, xf⟩, vf) wr w5 hJ hJ5 (CellsKept.of_below hb15) ⟨by rw [hpl]; exact HX.out, by rw [hpl]; exact hpm, (ho.rd2).mono fun k (hk : wa.heap.size ≤ k) => by have := HBA.out.size; show wr.heap.size ≤ k; omega⟩
      have hpm2 : (pre ++ [((⟨xn, xk, xa, xf⟩ : ItemD), vf)]).map (·.1) = xs.take (k + 1) := by rw [List.map_append, hpm, take_snoc? HX.out]; rfl
      have HPM := Lib.hid hpm2
      have HB5 := Lib.hid (HBEL.out.trans (hb15.mono HBEL.out.size))
      have hs5 := hb15.size
      simp only [allEnc] at hy
      clear hpm2 hb15 hb5 ho a0 a1 a2 a3 i0' i1' i2' i3' hJ5 hJ
      gi_wp2
      refine hR.mono ?_
      rintro e w6 (⟨rfl, hJ6, hk6⟩ | ⟨rfl, hJx6⟩)
      · gi_wp2
        go_roundw
        case rel => exact ⟨k + 1, by omega, by go_num, ⟨_, by rw [List.length_append, hpl]; rfl, HPM.out, hJ6⟩, HB5.out.trans hk6, by have := hk6.size; omega⟩
        case measure => simp [intOf]; omega
      · gi_wp2
        refine bodyPost_ret (results_none rfl _ _ _) rfl ?_
        exact ⟨⟨_, rfl⟩, .inr ⟨_, ⟨by rw [HPM.out, List.length_append, hpl]; rfl, by rw [List.length_append, hpl]; have := HN.out; show k + 1 ≤ _; omega⟩, hJx6⟩⟩
    · have hkn : k = n := by omega
      have HKN := Lib.hid hkn
      clear hkn
      gi_wp2
      go_end0
      exact ⟨⟨_, rfl⟩, .inl ⟨pre, by rw [hpm, HKN.out, HN.out, List.take_length], hJ⟩⟩
end Go.Proofs.Ytlanephpmoajiaa

namespace Go.Proofs.Ytlanephpmoajiaa
open Go.RowKit Go.Shelf
set_option linter.unusedVariables false
def itemCells (x : ItemD × Value) : Array Value := #[.string x.1.name, .int .i64 x.1.kind, .int .i64 x.1.at_, x.2]
/-- How the body of a round may be left, L having come. -/
def allPost (B n₀ : Nat) (I : List ItemD → World → Prop) (Ix : Code → List ItemD → World → Prop) (L : List ItemD) (W : World) : Exit → Act → World → Prop
  | .normal, _, W' => KeepsFrom B W W' ∧ Below n₀ W W' ∧ I L W'
  | .ret, _, W' => KeepsFrom B W W' ∧ Ix .ret L W'
  | .exit id, _, W' => KeepsFrom B W W' ∧ Ix (.exit id) L W'
  | .goto c, _, W' => KeepsFrom B W W' ∧ Ix (.goto c) L W'
  | .panic _, _, _ => False
  | .outgrown, _, _ => False
theorem wp_all_boxed {g : Operand} {t tb : Tmp} {assign body : Code} {Q : Exit → Act → World → Prop} {a : Act} {w w0 : World} {p : Value} {B : Nat} {F : Nat → Prop} {xs : List ItemD} {Bs : Nat}
    (hg : a.eval g = .func (.func 63) #[] #[.pointer (some ⟨Bs, 0, none⟩)]) (hbk : Bk w0 B p F xs) (hsm : ∀ x ∈ xs, x.frm.length ≤ 1000 ∧ ∀ c ∈ x.frm, c.length ≤ 1000) (hxl : xs.length ≤ 1024) (h0w : Below w0.heap.size w0 w)
    (hBs : Bs < w.heap.size) (hc : w.cell? ⟨Bs, 0, none⟩ = some p)
    (I : List ItemD → World → Prop) (Ix : Code → List ItemD → World → Prop) (hI : OwnFrom w.heap.size I) (hIx : ∀ c, OwnFrom w.heap.size (Ix c)) (h0 : I [] w)
    (hassign : ∀ (l : Nat) (x : ItemD) (A : Option Addr) (n cp : Nat) (W : World) (K : Act → World → Prop), K { tmps := (a.tmps.setIfInBounds t (.agg (itemCells (x, .slice A n cp)))).setIfInBounds tb (.pointer (some ⟨W.heap.size, 0, none⟩)), defers := [] } (W.alloc (.cells (itemCells (x, .slice A n cp)) 37)) →
      assign.wpIn (Fence.wide.inRound l) 1 Try.prog (Exit.then K (fun _ _ _ => False)) { tmps := a.tmps.setIfInBounds t (.agg (itemCells (x, .slice A n cp))), defers := [] } W)
    (hbody : ∀ (l : Nat) (k : Nat) (x : ItemD) (A : Option Addr) (n cp : Nat) (Bx : Nat) (W0 W : World), xs[k]? = some x → I (xs.take k) W0 → CellsKept W0 W → I (xs.take k) W → Rd2 W (W0.heap.size ≤ ·) (.slice A n cp) x.frm → W.heap[Bx]? = some (.cells (itemCells (x, .slice A n cp)) 37) → w.heap.size ≤ Bx →
      body.wpIn (Fence.wide.inRound l) 1 Try.prog (allPost w.heap.size w0.heap.size I Ix (xs.take (k + 1)) W) { tmps := (a.tmps.setIfInBounds t (.agg (itemCells (x, .slice A n cp)))).setIfInBounds tb (.pointer (some ⟨Bx, 0, none⟩)), defers := [] } W)
    (hdone : ∀ (D : Nat) (W : World), w.heap.size ≤ D → I xs W → W.heap[D]? = some (.deferred (some [])) → Q .normal { a with defers := { target := .collected D, args := #[] } :: a.defers } W)
    (hstop : ∀ (D : Nat) (c : Code) (k : Nat) (W : World), w.heap.size ≤ D → k ≤ xs.length → Ix c (xs.take k) W → W.heap[D]? = some (.deferred (some [])) → c.wpIn Fence.wide 3 Try.prog Q { a with defers := { target := .collected D, args := #[] } :: a.defers } W) :
    (Code.rangeFunc g #[t] assign body).wp Try.prog Q a w := by
  refine wp_range_told hg (enters_of Try.func63 (by kernel_rfl) rfl) (all_told p B F xs w0 w hbk hsm hxl h0w Bs hBs hc) h0w.size (fun _ => rfl) allR_put (fun (pre : List (ItemD × Value)) W => I (pre.map (·.1)) W ∧ w.heap.size ≤ W.heap.size) (fun c (pre : List (ItemD × Value)) => Ix c (pre.map (·.1)))
    (fun (s : List (ItemD × Value)) A B row hs hg hr => ⟨hI (s.map Prod.fst) A B row hs.1 hg hr, Nat.le_trans hs.2 hg.size⟩) (fun c s A B row hs hg hr => hIx c _ A B row hs hg hr) ⟨h0, Nat.le_refl _⟩
    (fun x a' W => ∃ Bx A n cp, x.2 = .slice A n cp ∧ W.heap[Bx]? = some (.cells (itemCells x) 37) ∧ w.heap.size ≤ Bx ∧ w.heap.size ≤ W.heap.size ∧ a' = { tmps := (a.tmps.setIfInBounds t (.agg (itemCells x))).setIfInBounds tb (.pointer (some ⟨Bx, 0, none⟩)), defers := [] }) ?_ ?_ ?_ ?_ ?_
  · rintro x a' W l o o' hl ho ⟨Bx, A, n, cp, h1, h2, h3, h4, h5⟩
    refine ⟨Bx, A, n, cp, h1, ?_, h3, by simpa using h4, h5⟩
    refine (World.putObj_heap_other (fun e => ?_)).trans h2
    subst e
    rw [hl] at h2
    cases h2
    cases ho
  · rintro l pre x b W K ⟨hi, hs⟩ ⟨h1, h2, h3⟩ hK
    obtain ⟨x, v⟩ := x
    obtain ⟨A, n, cp, rfl⟩ := h3.isSlice
    have e : (#[t].zip (allEnc (x, Value.slice A n cp))).foldl (fun t (p, v) => t.setIfInBounds p v) a.tmps = a.tmps.setIfInBounds t (.agg (itemCells (x, .slice A n cp))) := by simp [allEnc, itemCells]
    rw [e]
    refine hassign l x A n cp W K (hK _ _ ((KeepsOthers.alloc _ _).from _) ⟨by simp, fun k o hk _ => (Below.heap_alloc W _ k (Array.getElem?_eq_some_iff.1 hk).1).trans hk⟩ ((Below.refl _ W).alloc (Nat.le_trans h0w.size hs) _) ⟨hI.alloc _ hi, by simp; omega⟩ ⟨h1, h2, h3.below ((Below.refl _ W).alloc (Nat.le_refl _) _)⟩
      ⟨W.heap.size, A, n, cp, rfl, World.alloc_heap_new W _, hs, by simp; omega, rfl⟩)
  · rintro l pre x a' W0 W ⟨hi, hs⟩ hck ⟨hi2, -⟩ ⟨h1, h2, h3⟩ ⟨Bx, A, n, cp, h4, h5, h6, h7, rfl⟩
    obtain ⟨x, v⟩ := x
    simp only at h1 h3 h4
    subst h4
    have hL : (pre ++ [(x, Value.slice A n cp)]).map (·.1) = xs.take (pre.length + 1) := by rw [List.map_append, h2, take_snoc? h1]; rfl
    refine wpIn_mono (hbody l pre.length x A n cp Bx W0 W h1 (by rw [← h2]; exact hi) hck (by rw [← h2]; exact hi2) h3 h5 h6) ?_
    rintro e a3 W3 hp
    cases e with
    | normal => exact ⟨hp.1, hp.2.1, by have := hp.2.2; rw [← hL] at this; exact this, Nat.le_trans h7 hp.1.size⟩
    | ret => exact ⟨hp.1, by have := hp.2; rw [← hL] at this; exact this⟩
    | exit id => exact ⟨hp.1, by have := hp.2; rw [← hL] at this; exact this⟩
    | goto c => exact ⟨hp.1, by have := hp.2; rw [← hL] at this; exact this⟩
    | panic ch => exact hp.elim
    | outgrown => exact hp.elim
  · rintro D ys W hD hS ⟨hi, -⟩ hK
    rw [hS] at hi
    exact hdone D W hD hi hK
  · rintro D c pre W hD ⟨h1, h2⟩ hi hK
    rw [h1] at hi
    exact hstop D c _ W hD h2 hi hK
end Go.Proofs.Ytlanephpmoajiaa

