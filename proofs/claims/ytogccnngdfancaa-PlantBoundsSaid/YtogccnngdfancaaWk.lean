/- The walks of works: up, end, running, check. -/
import Derived.Test.YtogccnngdfancaaBase2
import Derived.Test.YtogccnngdfancaaSeq
import Derived.Test.YtogccnngdfancaaBound
import Derived.IntWalk
namespace Go.Proofs.Ytogccnngdfancaa
open Go.RowKit
set_option linter.unusedVariables false
set_option linter.unusedSimpArgs false
/-- A struct of works: its lists can be read. -/
def WkV (w : World) (S : Nat → Prop) (v : Value) (d : WorksD) : Prop := ∃ vc vn vm, v = .agg #[.int .i64 d.presses, .int .i64 d.change, vc, vn, vm] ∧ Rd (Value.int .i64) w S vc d.cure ∧ Rd (Value.int .i64) w S vn d.need ∧ Rd (Value.int .i64) w S vm d.moulds
theorem WkV.below {w w' : World} {S : Nat → Prop} {v : Value} {d : WorksD} (h : WkV w S v d) (hb : Below w.heap.size w w') : WkV w' S v d :=
  let ⟨vc, vn, vm, e, h1, h2, h3⟩ := h; ⟨vc, vn, vm, e, h1.below hb, h2.below hb, h3.below hb⟩
theorem WkV.mono {w : World} {S T : Nat → Prop} {v : Value} {d : WorksD} (h : WkV w S v d) (hs : ∀ k, S k → T k) : WkV w T v d :=
  let ⟨vc, vn, vm, e, h1, h2, h3⟩ := h; ⟨vc, vn, vm, e, h1.mono hs, h2.mono hs, h3.mono hs⟩
theorem WkV.lt {w : World} {S : Nat → Prop} {v : Value} {d : WorksD} (h : WkV w S v d) : WkV w (fun b => S b ∧ b < w.heap.size) v d :=
  let ⟨vc, vn, vm, e, h1, h2, h3⟩ := h; ⟨vc, vn, vm, e, h1.lt, h2.lt, h3.lt⟩
theorem up_any (a b : Int) (w : World) (ha : 0 ≤ a) (ha2 : a ≤ 1000000000) (hb : 1 ≤ b) (hb2 : b ≤ 1000000000) :
    Calls Try.prog 24 #[.int .i64 a, .int .i64 b] w fun e w' => e = .returned (.int .i64 (upZ a b)) ∧ w = w' := by
  have hne : ¬ (b = 0) := by omega
  have h0 : 0 ≤ a + b - 1 := by omega
  go_enter Try.func24, Try.ntmps24
  go_wp2_with fail
  go_ret
  refine ⟨?_, rfl⟩
  rfl
theorem cure_at {d : WorksD} {k : Int} (h0 : 0 ≤ k) (h1 : k < d.cure.length) : d.cure[k.toNat]? = some (cureOf d k) := by
  unfold cureOf
  rw [List.getD_eq_getElem?_getD, List.getElem?_eq_getElem (by omega)]
  rfl
def JobV (j : JobD) : Value := .agg #[.int .i64 j.press, .int .i64 j.kind, .int .i64 j.start]
set_option maxRecDepth 100000 in
set_option maxHeartbeats 1000000 in
theorem end_any (v : Value) (d : WorksD) (j : JobD) (S : Nat → Prop) (w : World) (hv : WkV w S v d) (h0 : 0 ≤ j.kind) (h1 : j.kind < d.cure.length) (hs : -1000000000000 ≤ j.start ∧ j.start ≤ 1000000000000) (hc : -1000000000000 ≤ cureOf d j.kind ∧ cureOf d j.kind ≤ 1000000000000) :
    Calls Try.prog 23 #[v, JobV j] w fun e w' => e = .returned (.int .i64 (endJ d j)) ∧ Below w.heap.size w w' := by
  have hca := cure_at h0 h1
  obtain ⟨vc, vn, vm, rfl, hcl, -, -⟩ := hv
  obtain ⟨A, n, cap, rfl, hn, hcap, hmax, hcc⟩ := hcl.lt.open_
  obtain ⟨b, off, x, rfl, ⟨_, hbl⟩, hx, hcell⟩ := hcc j.kind.toNat (by omega)
  obtain rfl := Option.some.inj (hx.symm.trans hca)
  obtain ⟨jp, jk, js⟩ := j
  simp only [JobV] at *
  obtain ⟨k, rfl⟩ : ∃ k : Nat, jk = (k : Int) := ⟨jk.toNat, by omega⟩
  rw [Int.toNat_natCast] at hcell
  have hE : Hid (endJ d ⟨jp, k, js⟩ = js + cureOf d k) := rfl
  obtain ⟨c, hcE⟩ : ∃ c, c = cureOf d k := ⟨_, rfl⟩
  rw [← hcE] at hE hc hcell
  obtain ⟨vn', hvn'⟩ : ∃ x, x = vn := ⟨_, rfl⟩
  obtain ⟨w1, hw1⟩ : ∃ w1, w1 = (w.alloc (.cells #[.int .i64 d.presses, .int .i64 d.change, .slice (some ⟨b, off, none⟩) n cap, vn, vm] 31)).alloc (.cells #[.int .i64 jp, .int .i64 k, .int .i64 js] 38) := ⟨_, rfl⟩
  have hb1 : Below w.heap.size w w1 := by rw [hw1]; exact ((Below.refl _ w).alloc (Nat.le_refl _) _).alloc (by simp) _
  have m0 : w1.heap[w.heap.size]? = some (.cells #[.int .i64 d.presses, .int .i64 d.change, .slice (some ⟨b, off, none⟩) n cap, vn, vm] 31) := by rw [hw1, Below.heap_alloc _ _ _ (by simp)]; exact heap_alloc_new w _
  have m1 : w1.heap[w.heap.size + 1]? = some (.cells #[.int .i64 jp, .int .i64 k, .int .i64 js] 38) := by rw [hw1]; have := heap_alloc_new (w.alloc (.cells #[.int .i64 d.presses, .int .i64 d.change, .slice (some ⟨b, off, none⟩) n cap, vn, vm] 31)) (.cells #[.int .i64 jp, .int .i64 k, .int .i64 js] 38); simpa using this
  have c2 : w1.cell? ⟨w.heap.size, 2, none⟩ = some (.slice (some ⟨b, off, none⟩) n cap) := cell_of_row w1 _ 2 _ _ _ m0
  have d1 : w1.cell? ⟨w.heap.size + 1, 1, none⟩ = some (.int .i64 k) := cell_of_row w1 _ 1 _ _ _ m1
  have d2 : w1.cell? ⟨w.heap.size + 1, 2, none⟩ = some (.int .i64 js) := cell_of_row w1 _ 2 _ _ _ m1
  have e0 : w1.cell? ⟨b, off + k, none⟩ = some (.int .i64 c) := (hb1.cell (p := ⟨b, _, none⟩) hbl).trans hcell
  have hk0 : (0 : Int) ≤ (k : Int) := by omega
  have hk1 : (k : Int) < (n : Int) := by omega
  have hwr : IntKind.i64.wrap (js + c) = js + c := IntWalk.i64_in _ (by omega)
  have HW1 := Lib.hid hw1
  have HB1 := Lib.hid hb1
  clear hw1 hb1 m0 m1 hcell hcc hx hca hcl hn hcE hvn'
  go_enter Try.func23, Try.ntmps23
  go_wp2_with fail
  rw [← HW1.out]
  refine seq_start (S := fun w' => w'.cell? ⟨w.heap.size, 2, none⟩ = some (.slice (some ⟨b, off, none⟩) n cap) ∧ w'.cell? ⟨w.heap.size + 1, 1, none⟩ = some (.int .i64 k) ∧ w'.cell? ⟨w.heap.size + 1, 2, none⟩ = some (.int .i64 js) ∧ w'.cell? ⟨b, off + k, none⟩ = some (.int .i64 c)) (by kernel_rfl) (by kernel_rfl) (by exact ⟨c2, d1, d2, e0⟩) ?_
  repeat (first
    | (refine seq_take0 (v := ?_) ?_ (fun _ _ _ h => h) (by kernel_rfl) ?_ ?_; rotate_left; (focus rfl); (focus (intro w' hSw; (try dsimp only at hSw); go_simp; (try with_reducible rfl); done)); (try simp only [Act.put, List.setIfInBounds_toArray, List.set_cons_zero, List.set_cons_succ]))
    | (refine seq_takeG (v := ?_) (g := ?_) (d := ?_) (b := ?_) (u := ?_) ?_ ?_ ?_ ?_ (fun _ _ _ h => h) (by kernel_rfl) ?_ ?_; rotate_left 5; (focus rfl); (focus rfl); (focus rfl); (focus (first | rfl | (go_simp; done))); (focus (intro w' hSw; (try dsimp only at hSw); go_simp; (try with_reducible rfl); done)); (try simp only [Act.put, List.setIfInBounds_toArray, List.set_cons_zero, List.set_cons_succ]))
    | (refine seq_skipG (g := ?_) (d := ?_) (b := ?_) (u := ?_) ?_ ?_ ?_ ?_ (fun _ _ _ h => h) (by kernel_rfl) ?_; rotate_left 4; (focus rfl); (focus rfl); (focus rfl); (focus (first | rfl | (go_simp; done))); (try simp only [Act.put, List.setIfInBounds_toArray, List.set_cons_zero, List.set_cons_succ])))
  refine seq_done (by kernel_rfl) ?_
  go_wp2_with fail
  go_ret
  exact ⟨by rw [hE.out]; rfl, HB1.out.drew⟩
end Go.Proofs.Ytogccnngdfancaa
