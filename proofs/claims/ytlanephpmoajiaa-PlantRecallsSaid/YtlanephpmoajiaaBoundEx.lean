/- The walks of Works.check and Bound at the works of the awake example. -/
import Derived.Test.YtlanephpmoajiaaBase2
import Derived.Deep.QuietTactic
import Derived.BigQuiet
import Derived.WalkSmall
namespace Go.Proofs.Ytlanephpmoajiaa
open Go.RowKit

/-- The slices of the example's works. -/
structure ExWorks (w : World) (b1 b2 b3 : Nat) : Prop where
  x0 : w.cell? ⟨b1, 0, none⟩ = some (.int .i64 20)
  x1 : w.cell? ⟨b1, 1, none⟩ = some (.int .i64 20)
  y0 : w.cell? ⟨b2, 0, none⟩ = some (.int .i64 2)
  y1 : w.cell? ⟨b2, 1, none⟩ = some (.int .i64 2)
  z0 : w.cell? ⟨b3, 0, none⟩ = some (.int .i64 1)
  z1 : w.cell? ⟨b3, 1, none⟩ = some (.int .i64 1)
  l1 : b1 < w.heap.size
  l2 : b2 < w.heap.size
  l3 : b3 < w.heap.size
theorem ExWorks.below {w w' : World} {b1 b2 b3 : Nat} (h : ExWorks w b1 b2 b3) (hb : Below w.heap.size w w') : ExWorks w' b1 b2 b3 := by
  have s := hb.size
  exact ⟨(hb.cell (p := ⟨b1, 0, none⟩) h.l1).trans h.x0, (hb.cell (p := ⟨b1, 1, none⟩) h.l1).trans h.x1, (hb.cell (p := ⟨b2, 0, none⟩) h.l2).trans h.y0, (hb.cell (p := ⟨b2, 1, none⟩) h.l2).trans h.y1,
    (hb.cell (p := ⟨b3, 0, none⟩) h.l3).trans h.z0, (hb.cell (p := ⟨b3, 1, none⟩) h.l3).trans h.z1, by have := h.l1; omega, by have := h.l2; omega, by have := h.l3; omega⟩

set_option maxRecDepth 100000 in
set_option maxHeartbeats 1000000 in
theorem worksCheck_ex (b1 b2 b3 : Nat) (w : World) (h : ExWorks w b1 b2 b3) :
    Calls Try.prog 89 #[.agg #[.int .i64 1, .int .i64 10, .slice (some ⟨b1, 0, none⟩) 2 2, .slice (some ⟨b2, 0, none⟩) 2 2, .slice (some ⟨b3, 0, none⟩) 2 2]] w fun e w' => e = .returned (.int .i64 0) ∧ Below w.heap.size w w' := by
  have hw0 : Below w.heap.size w (w.alloc (.cells #[.int .i64 1, .int .i64 10, .slice (some ⟨b1, 0, none⟩) 2 2, .slice (some ⟨b2, 0, none⟩) 2 2, .slice (some ⟨b3, 0, none⟩) 2 2] 118)) := (Below.refl _ _).alloc (Nat.le_refl _) _
  obtain ⟨x0, x1, y0, y1, z0, z1, l1, l2, l3⟩ := h
  go_enter Try.func89, Try.ntmps89
  go_wp2_with fail
  go_loop [53] (fun i => ∃ k : Nat, k ≤ 2 ∧ i = .int .i64 k) (fun i => 2 - (intOf i).toNat)
  case atStart => exact ⟨0, by omega, rfl⟩
  case round =>
    obtain ⟨k, hk, rfl⟩ := hrel
    match k, hk with
    | 0, _ =>
      go_wp2_with fail
      go_round
      case rel => exact ⟨1, by omega, rfl⟩
      case measure => simp [intOf]
    | 1, _ =>
      go_wp2_with fail
      go_round
      case rel => exact ⟨2, by omega, rfl⟩
      case measure => simp [intOf]
    | 2, _ =>
      go_wp2_with fail
      go_loop [5, 84] (fun rm i => (rm = .int .i64 64 ∧ i = .int .i64 0) ∨ (rm = .int .i64 62 ∧ i = .int .i64 1) ∨ (rm = .int .i64 60 ∧ i = .int .i64 2)) (fun _ i => 2 - (intOf i).toNat)
      case atStart => exact .inl ⟨rfl, rfl⟩
      case round =>
        rcases hrel with ⟨rfl, rfl⟩ | ⟨rfl, rfl⟩ | ⟨rfl, rfl⟩
        · go_wp2_with fail
          go_round
          case rel => exact .inr (.inl ⟨rfl, rfl⟩)
          case measure => simp [intOf]
        · go_wp2_with fail
          go_round
          case rel => exact .inr (.inr ⟨rfl, rfl⟩)
          case measure => simp [intOf]
        · go_wp2_with fail
          go_ret
          exact ⟨rfl, hw0⟩

set_option maxHeartbeats 400000 in
theorem up_any (a b : Int) (w : World) (h1 : 0 ≤ a) (h2 : a ≤ 1000000000) (h3 : 1 ≤ b) (h4 : b ≤ 1000000000) :
    Calls Try.prog 90 #[.int .i64 a, .int .i64 b] w fun e w' => e = .returned (.int .i64 ((a + b - 1) / b)) ∧ w = w' := by
  go_enter Try.func90, Try.ntmps90
  go_wp2_with fail
  go_ret
  exact ⟨rfl, rfl⟩

set_option maxRecDepth 100000 in
set_option maxHeartbeats 1000000 in
theorem bound_ex (b1 b2 b3 : Nat) (w : World) (h : ExWorks w b1 b2 b3) :
    Calls Try.prog 53 #[.agg #[.int .i64 1, .int .i64 10, .slice (some ⟨b1, 0, none⟩) 2 2, .slice (some ⟨b2, 0, none⟩) 2 2, .slice (some ⟨b3, 0, none⟩) 2 2]] w fun e w' => e = .returned (.tuple #[.int .i64 90, .int .i64 0]) ∧ Below w.heap.size w w' := by
  have hw0 : Below w.heap.size w (w.alloc (.cells #[.int .i64 1, .int .i64 10, .slice (some ⟨b1, 0, none⟩) 2 2, .slice (some ⟨b2, 0, none⟩) 2 2, .slice (some ⟨b3, 0, none⟩) 2 2] 118)) := (Below.refl _ _).alloc (Nat.le_refl _) _
  have HX := Lib.hid (fun w' (hb : Below w.heap.size w w') => h.below hb)
  go_enter Try.func53, Try.ntmps53
  go_wp2_with fail
  refine (worksCheck_ex b1 b2 b3 _ (HX.out _ hw0)).mono ?_
  rintro e w1 ⟨rfl, hb1⟩
  have hbw : Below w.heap.size w w1 := hw0.trans (hb1.mono (by simp))
  have hm : w1.heap[w.heap.size]? = some (.cells #[.int .i64 1, .int .i64 10, .slice (some ⟨b1, 0, none⟩) 2 2, .slice (some ⟨b2, 0, none⟩) 2 2, .slice (some ⟨b3, 0, none⟩) 2 2] 118) := (hb1.block _ (by simp)).trans (heap_alloc_new w _)
  have m2 := cell_of_row w1 _ 2 _ _ _ hm
  clear hb1
  go_wp2_with fail
  clear m2
  go_loopw [5, 6, 7, 18] (fun o wk kn i wr => Below w.heap.size w wr ∧ wr.heap[w.heap.size]? = some (.cells #[.int .i64 1, .int .i64 10, .slice (some ⟨b1, 0, none⟩) 2 2, .slice (some ⟨b2, 0, none⟩) 2 2, .slice (some ⟨b3, 0, none⟩) 2 2] 118) ∧
    ((o = .int .i64 0 ∧ wk = .int .i64 0 ∧ kn = .int .i64 0 ∧ i = .int .i64 0) ∨ (o = .int .i64 40 ∧ wk = .int .i64 40 ∧ kn = .int .i64 1 ∧ i = .int .i64 1) ∨ (o = .int .i64 40 ∧ wk = .int .i64 80 ∧ kn = .int .i64 2 ∧ i = .int .i64 2))) (fun _ _ _ i _ => 2 - (intOf i).toNat)
  case atStart => exact ⟨hbw, hm, .inl ⟨rfl, rfl, rfl, rfl⟩⟩
  case round =>
    clear hbw hm
    obtain ⟨hbw, hm, hcase⟩ := hrel
    obtain ⟨x0, x1, y0, y1, z0, z1, l1, l2, l3⟩ := HX.out _ hbw
    have m0 := cell_of_row wr _ 0 _ _ _ hm
    have m1 := cell_of_row wr _ 1 _ _ _ hm
    have m3 := cell_of_row wr _ 3 _ _ _ hm
    have m4 := cell_of_row wr _ 4 _ _ _ hm
    have HM := Lib.hid hm
    have hup := fun (w' : World) => up_any 2 1 w' (by omega) (by omega) (by omega) (by omega)
    have HUP := Lib.hid hup
    clear hm hup
    rcases hcase with ⟨rfl, rfl, rfl, rfl⟩ | ⟨rfl, rfl, rfl, rfl⟩ | ⟨rfl, rfl, rfl, rfl⟩
    · go_wp2_with fail
      go_quiet ((go_at_call 90; exact Calls.quiet_of_same ((HUP.out _).mono fun e w' ⟨he, hw⟩ => ⟨he, hw.symm⟩)))
      go_wp2_with fail
      go_roundw
      case rel => exact ⟨below_drewN hbw _, HM.out, .inr (.inl ⟨rfl, rfl, rfl, rfl⟩)⟩
      case measure => simp [intOf]
    · go_wp2_with fail
      go_quiet ((go_at_call 90; exact Calls.quiet_of_same ((HUP.out _).mono fun e w' ⟨he, hw⟩ => ⟨he, hw.symm⟩)))
      go_wp2_with fail
      go_roundw
      case rel => exact ⟨below_drewN hbw _, HM.out, .inr (.inr ⟨rfl, rfl, rfl, rfl⟩)⟩
      case measure => simp [intOf]
    · have hup := fun (w' : World) => up_any 90 1 w' (by omega) (by omega) (by omega) (by omega)
      go_wp2_with (go_at_call 90; refine (hup _).mono ?_; rintro e w' ⟨rfl, rfl⟩)
      go_ret2
      exact ⟨rfl, hbw⟩
end Go.Proofs.Ytlanephpmoajiaa
