/- The walks of the methods of a nil book. The walks of the methods of a nil book: Enter, Get, Leads. All of a nil book: no round. -/
import Derived.Test.YtlanephpmoajiaaTouched
import Derived.Test.YtlanephpmoajiaaGet
import Derived.Deep.QuietTactic
import Derived.BigQuiet
import Derived.RangeFuncNested
import Derived.RangeFuncBound
import Derived.RangeFuncCalls
import Derived.RangeFuncLeaves
import Derived.Shelf.Abstract
import Derived.OwnWalkIn
import Derived.TacticsInMore
import Derived.LoopNIn
import Derived.LoopIn
namespace Go.Proofs.Ytlanephpmoajiaa
open Go.RowKit
set_option linter.unusedVariables false
set_option maxRecDepth 100000 in
theorem find_nil (nm : ByteArray) (w : World) : Calls Try.prog 56 #[.pointer none, .string nm] w fun e w' => e = .returned (.tuple #[.int .i64 0, .int .i64 1]) ∧ w = w' := by
  go_enter Try.func56, Try.ntmps56
  go_wp2_with fail
  go_ret2
  exact ⟨rfl, rfl⟩
set_option maxRecDepth 100000 in
theorem sources_nil (nm : ByteArray) (w : World) : Calls Try.prog 35 #[.pointer none, .string nm] w fun e w' => e = .returned (.tuple #[.slice none 0 0, .int .i64 1]) ∧ w = w' := by
  have HF := Lib.hid (find_nil nm)
  go_enter Try.func35, Try.ntmps35
  go_wp2_with (go_at_call 56; refine (HF.out _).mono ?_; rintro e w' ⟨rfl, rfl⟩)
  go_ret2
  exact ⟨rfl, rfl⟩
set_option maxRecDepth 100000 in
theorem certain_nil (nm : ByteArray) (w : World) : Calls Try.prog 37 #[.pointer none, .string nm] w fun e w' => e = .returned (.tuple #[.slice none 0 0, .int .i64 1]) ∧ w = w' := by
  have HF := Lib.hid (find_nil nm)
  go_enter Try.func37, Try.ntmps37
  go_wp2_with (go_at_call 56; refine (HF.out _).mono ?_; rintro e w' ⟨rfl, rfl⟩)
  go_ret2
  exact ⟨rfl, rfl⟩
set_option maxRecDepth 100000 in
theorem uses_nil (nm : ByteArray) (w : World) : Calls Try.prog 23 #[.pointer none, .string nm] w fun e w' => e = .returned (.tuple #[.slice none 0 0, .int .i64 1]) ∧ w = w' := by
  have HF := Lib.hid (find_nil nm)
  go_enter Try.func23, Try.ntmps23
  go_wp2_with (go_at_call 56; refine (HF.out _).mono ?_; rintro e w' ⟨rfl, rfl⟩)
  go_ret2
  exact ⟨rfl, rfl⟩
set_option maxRecDepth 100000 in
theorem fault_nil (it : ByteArray) (si un : Int) (w : World) : Calls Try.prog 83 #[.pointer none, .agg #[.string it, .int .i64 si, .int .i64 un]] w fun e w' => e = .returned (.tuple #[.int .i64 0, .int .i64 1]) ∧ Below w.heap.size w w' := by
  have HF := Lib.hid (find_nil it)
  have HB := Lib.hid ((Below.refl _ w).alloc (Nat.le_refl _) (.cells #[.string it, .int .i64 si, .int .i64 un] 55))
  go_enter Try.func83, Try.ntmps83
  go_wp2_with (go_at_call 56; refine (HF.out _).mono ?_; rintro e w' ⟨rfl, rfl⟩)
  go_ret2
  exact ⟨rfl, HB.out⟩
set_option maxRecDepth 100000 in
theorem touchedMs_nil (it : ByteArray) (si un : Int) (w : World) : Calls Try.prog 59 #[.pointer none, .agg #[.string it, .int .i64 si, .int .i64 un]] w fun e w' => e = .returned (.tuple #[.slice none 0 0, .int .i64 1]) ∧ Below w.heap.size w w' := by
  obtain ⟨W1, hW1⟩ : ∃ W1, W1 = w.alloc (.cells #[.string it, .int .i64 si, .int .i64 un] 55) := ⟨_, rfl⟩
  have hb : Below w.heap.size w W1 := by rw [hW1]; exact (Below.refl _ w).alloc (Nat.le_refl _) _
  have HF := Lib.hid (fault_nil it si un W1)
  have HW := Lib.hid hW1
  have HB := Lib.hid hb
  clear hW1 hb
  go_enter Try.func59, Try.ntmps59
  go_wp2_with fail
  rw [← HW.out]
  refine HF.out.mono ?_
  rintro e w' ⟨rfl, hb2⟩
  go_wp2_with fail
  go_ret2
  exact ⟨rfl, HB.out.trans (hb2.mono HB.out.size)⟩
set_option maxRecDepth 100000 in
theorem touched_nil (it : ByteArray) (si un : Int) (w : World) : Calls Try.prog 22 #[.pointer none, .agg #[.string it, .int .i64 si, .int .i64 un]] w fun e w' => e = .returned (.tuple #[.slice none 0 0, .int .i64 1]) ∧ Below w.heap.size w w' := by
  obtain ⟨W1, hW1⟩ : ∃ W1, W1 = w.alloc (.cells #[.string it, .int .i64 si, .int .i64 un] 55) := ⟨_, rfl⟩
  have hb : Below w.heap.size w W1 := by rw [hW1]; exact (Below.refl _ w).alloc (Nat.le_refl _) _
  have HF := Lib.hid (touchedMs_nil it si un W1)
  have HW := Lib.hid hW1
  have HB := Lib.hid hb
  clear hW1 hb
  go_enter Try.func22, Try.ntmps22
  go_wp2_with fail
  rw [← HW.out]
  refine HF.out.mono ?_
  rintro e w' ⟨rfl, hb2⟩
  go_wp2_with fail
  go_ret2
  exact ⟨rfl, HB.out.trans (hb2.mono HB.out.size)⟩
set_option maxRecDepth 100000 in
theorem recall_nil (w : World) : Calls Try.prog 46 #[.pointer none, .slice none 0 0] w fun e w' => e = .returned (.tuple #[.slice none 0 0, .int .i64 1]) ∧ w = w' := by
  go_enter Try.func46, Try.ntmps46
  go_wp2_with fail
  go_ret2
  exact ⟨rfl, rfl⟩
set_option maxRecDepth 100000 in
theorem trail_nil (it : ByteArray) (si un : Int) (nm : ByteArray) (w : World) : Calls Try.prog 51 #[.pointer none, .agg #[.string it, .int .i64 si, .int .i64 un], .string nm] w fun e w' => e = .returned (.tuple #[.slice none 0 0, .int .i64 1]) ∧ Below w.heap.size w w' := by
  obtain ⟨W1, hW1⟩ : ∃ W1, W1 = w.alloc (.cells #[.string it, .int .i64 si, .int .i64 un] 55) := ⟨_, rfl⟩
  have hb : Below w.heap.size w W1 := by rw [hW1]; exact (Below.refl _ w).alloc (Nat.le_refl _) _
  have HF := Lib.hid (fault_nil it si un W1)
  have HW := Lib.hid hW1
  have HB := Lib.hid hb
  clear hW1 hb
  go_enter Try.func51, Try.ntmps51
  go_wp2_with fail
  rw [← HW.out]
  refine HF.out.mono ?_
  rintro e w' ⟨rfl, hb2⟩
  go_wp2_with fail
  go_ret2
  exact ⟨rfl, HB.out.trans (hb2.mono HB.out.size)⟩
end Go.Proofs.Ytlanephpmoajiaa

namespace Go.Proofs.Ytlanephpmoajiaa
open Go.RowKit
set_option linter.unusedVariables false
set_option maxRecDepth 100000 in
theorem enter_nil (nm : ByteArray) (kd a : Int) (vf : Value) (w : World) : Calls Try.prog 18 #[.pointer none, .agg #[.string nm, .int .i64 kd, .int .i64 a, vf]] w fun e w' => e = .returned (.int .i64 1) ∧ Below w.heap.size w w' := by
  have HB := Lib.hid ((Below.refl _ w).alloc (Nat.le_refl _) (.cells #[.string nm, .int .i64 kd, .int .i64 a, vf] 37))
  go_enter Try.func18, Try.ntmps18
  go_wp2_with fail
  go_ret
  exact ⟨rfl, HB.out⟩
set_option maxRecDepth 100000 in
theorem get_nil (nm : ByteArray) (w : World) : Calls Try.prog 19 #[.pointer none, .string nm] w fun e w' => e = .returned (.tuple #[.agg #[.string ⟨#[]⟩, .int .i64 0, .int .i64 0, .slice none 0 0], .int .i64 1]) ∧ Below w.heap.size w w' := by
  have hm0 := heap_alloc_new w (.cells #[.string ⟨#[]⟩, .int .i64 0, .int .i64 0, .slice none 0 0] 37)
  have hw0 : Below w.heap.size w (w.alloc (.cells #[.string ⟨#[]⟩, .int .i64 0, .int .i64 0, .slice none 0 0] 37)) := (Below.refl _ w).alloc (Nat.le_refl _) _
  obtain ⟨W1, hW1⟩ : ∃ W1, W1 = w.alloc (.cells #[.string ⟨#[]⟩, .int .i64 0, .int .i64 0, .slice none 0 0] 37) := ⟨_, rfl⟩
  rw [← hW1] at hm0 hw0
  have HF := Lib.hid (find_nil nm)
  have HW1 := Lib.hid hW1
  clear hW1
  go_enter Try.func19, Try.ntmps19
  go_wp2_with fail
  rw [← HW1.out]
  refine (HF.out _).mono ?_
  rintro e w' ⟨rfl, rfl⟩
  have c0 := cell_of_row W1 _ 0 _ _ _ hm0
  have c1 := cell_of_row W1 _ 1 _ _ _ hm0
  have c2 := cell_of_row W1 _ 2 _ _ _ hm0
  have c3 := cell_of_row W1 _ 3 _ _ _ hm0
  have f0 := frozen_of_row W1 w.heap.size 0 _ _ hm0
  have f1 := frozen_of_row W1 w.heap.size 1 _ _ hm0
  have f2 := frozen_of_row W1 w.heap.size 2 _ _ hm0
  have f3 := frozen_of_row W1 w.heap.size 3 _ _ hm0
  go_wp2_with fail
  obtain ⟨s1, s2⟩ := stored4 hm0 (.string ⟨#[]⟩) (.int .i64 0) (.int .i64 0) (.slice none 0 0)
  obtain ⟨w4, hw4⟩ : ∃ w4, w4 = ((((W1.setCell ⟨w.heap.size, 0, none⟩ (.string ⟨#[]⟩)).setCell ⟨w.heap.size, 1, none⟩ (.int .i64 0)).setCell ⟨w.heap.size, 2, none⟩ (.int .i64 0)).setCell ⟨w.heap.size, 3, none⟩ (.slice none 0 0)) := ⟨_, rfl⟩
  rw [← hw4] at s1 s2 ⊢
  have q0 := cell_of_row w4 _ 0 _ _ _ s1
  have q1 := cell_of_row w4 _ 1 _ _ _ s1
  have q2 := cell_of_row w4 _ 2 _ _ _ s1
  have q3 := cell_of_row w4 _ 3 _ _ _ s1
  refine bodyPost_ret (v := .tuple #[.agg #[.string ⟨#[]⟩, .int .i64 0, .int .i64 0, .slice none 0 0], .int .i64 1]) (by simp [results, Try.results19, go_sem, q0, q1, q2, q3]) rfl ⟨rfl, ?_⟩
  exact hw0.trans (Keep.below (s2.mono (S' := (· < w.heap.size)) fun k hk => ⟨by have := hw0.size; omega, by omega⟩))
set_option maxRecDepth 100000 in
theorem leads_nil (it : ByteArray) (si un : Int) (way : Value) (w : World) : Calls Try.prog 49 #[.pointer none, .agg #[.string it, .int .i64 si, .int .i64 un], way] w fun e w' => e = .returned (.bool false) ∧ Below w.heap.size w w' := by
  obtain ⟨W1, hW1⟩ : ∃ W1, W1 = w.alloc (.cells #[.string it, .int .i64 si, .int .i64 un] 55) := ⟨_, rfl⟩
  have hb : Below w.heap.size w W1 := by rw [hW1]; exact (Below.refl _ w).alloc (Nat.le_refl _) _
  have HF := Lib.hid (fault_nil it si un W1)
  have HW := Lib.hid hW1
  have HB := Lib.hid hb
  clear hW1 hb
  go_enter Try.func49, Try.ntmps49
  go_wp2_with fail
  rw [← HW.out]
  refine HF.out.mono ?_
  rintro e w' ⟨rfl, hb2⟩
  go_wp2_with fail
  go_quiet (fail)
  go_wp2_with fail
  go_ret
  exact ⟨rfl, (HB.out.trans (hb2.mono HB.out.size)).trans ((below_drewN (Below.refl _ _) _).mono (by have := HB.out.size; have := hb2.size; omega))⟩
end Go.Proofs.Ytlanephpmoajiaa

namespace Go.Proofs.Ytlanephpmoajiaa
open Go.RowKit Go.Shelf
set_option linter.unusedVariables false
attribute [local go_sem] Oper.semAt_some
theorem all_any (p : Value) (w : World) (hp : ∃ a, p = .pointer a) : Calls Try.prog 28 #[p] w fun e w' => e = .returned (.func (.func 63) #[] #[.pointer (some ⟨w.heap.size, 0, none⟩)]) ∧ w.alloc (.cells #[p] 49) = w' := by
  obtain ⟨a, rfl⟩ := hp
  go_enter Try.func28, Try.ntmps28
  go_wp2_with fail
  go_ret
  exact ⟨rfl, rfl⟩
set_option maxRecDepth 100000 in
set_option maxHeartbeats 1000000 in
theorem all_nil_stops (n : Nat) (hn : 1 ≤ n) (Bs n₀ : Nat) (w : World) (hBs : Bs < w.heap.size) (hc : w.cell? ⟨Bs, 0, none⟩ = some (.pointer none)) :
    SeqStopsK Fence.wide n Try.prog 63 #[.pointer (some ⟨Bs, 0, none⟩)] (fun x : Value => #[x]) (Below n₀) (fun ys => ys = []) (fun _ => False) 0 w := fun l J Jx W hW _ _ hY h0 => by
  have hc' := (hW.cell (p := ⟨Bs, 0, none⟩) hBs).trans hc
  refine (callsIn_wide (n := n)).2 ?_
  clear hY hW
  show Calls Try.prog 63 #[.func (.yield l) #[] #[], .pointer (some ⟨Bs, 0, none⟩)] W _
  go_enter Try.func63, Try.ntmps63
  go_wp2_with fail
  refine bodyPost_ret (results_none rfl _ _ _) rfl ?_
  exact ⟨⟨_, rfl⟩, .inl ⟨_, rfl, h0⟩⟩
end Go.Proofs.Ytlanephpmoajiaa

