/- The walks of the searcher's closures. -/
import Derived.Test.YtodckaioeomccaaGreatPart36
import Derived.Test.YtodckaioeomccaaGreatPart24
import Derived.Test.YtodckaioeomccaaGreatPart02
import Derived.Test.YtodckaioeomccaaGreatPart11
namespace Go.Proofs.YtodckaioeomccaaGreat
open Go.RowKit Go.Proofs.Plc
set_option linter.unusedVariables false
set_option linter.unusedSimpArgs false
theorem enters_close2 : ∀ args w, (callFunc 183 args).run Tryz.prog w = .ok (.enter 183 args) w := enters_of Tryz.func183 (by kernel_rfl) rfl
set_option maxRecDepth 100000 in
theorem close2_any (p q ap : Int) (b1 b2 b : Nat) (w : World) (hp : 0 ≤ p ∧ p < 24) (hq : 0 ≤ q ∧ q < 24) (h1 : w.cell? ⟨b1, 0, none⟩ = some (.int .i64 p)) (h2 : w.cell? ⟨b2, 0, none⟩ = some (.pointer (some ⟨b, 0, none⟩)))
    (h3 : w.cell? ⟨b, 2, none⟩ = some (.int .i64 ap)) :
    Calls Tryz.prog 183 #[.int .i64 q, .pointer (some ⟨b1, 0, none⟩), .pointer (some ⟨b2, 0, none⟩)] w fun e w' => e = .returned (.bool (decide (apartN p q < ap))) ∧ Below w.heap.size w w' := by
  have HA := Lib.hid (fun w => apart_any p q w hp hq)
  obtain ⟨d, hd⟩ : ∃ d, d = apartN p q := ⟨_, rfl⟩
  rw [← hd] at HA ⊢
  clear hd hp hq
  go_enter Tryz.func183, Tryz.ntmps183
  go_wp2_with fail
  refine seq_start (S := fun w' => w'.cell? ⟨b1, 0, none⟩ = some (.int .i64 p) ∧ w'.cell? ⟨b2, 0, none⟩ = some (.pointer (some ⟨b, 0, none⟩)) ∧ w'.cell? ⟨b, 2, none⟩ = some (.int .i64 ap)) (by kernel_rfl) (by kernel_rfl) (by exact ⟨h1, h2, h3⟩) ?_
  repeat (first
    | (refine seq_take0 (v := ?_) ?_ (fun _ _ _ h => h) (by kernel_rfl) ?_ ?_; rotate_left; (focus rfl); (focus (intro w' hSw; (try dsimp only at hSw); go_simp; (try with_reducible rfl); done)); (try simp only [Act.put, List.setIfInBounds_toArray, List.set_cons_zero, List.set_cons_succ]))
    | (refine seq_takeG (v := ?_) (g := ?_) (d := ?_) (b := ?_) (u := ?_) ?_ ?_ ?_ ?_ (fun _ _ _ h => h) (by kernel_rfl) ?_ ?_; rotate_left 5; (focus rfl); (focus rfl); (focus rfl); (focus (first | rfl | (go_simp; done))); (focus (intro w' hSw; (try dsimp only at hSw); go_simp; (try with_reducible rfl); done)); (try simp only [Act.put, List.setIfInBounds_toArray, List.set_cons_zero, List.set_cons_succ]))
    | (refine seq_skipG (g := ?_) (d := ?_) (b := ?_) (u := ?_) ?_ ?_ ?_ ?_ (fun _ _ _ h => h) (by kernel_rfl) ?_; rotate_left 4; (focus rfl); (focus rfl); (focus rfl); (focus (first | rfl | (go_simp; done))); (try simp only [Act.put, List.setIfInBounds_toArray, List.set_cons_zero, List.set_cons_succ])))
  repeat (refine seq_swap ?_; first
    | (refine seq_take0 (v := ?_) ?_ (fun _ _ _ h => h) (by kernel_rfl) ?_ ?_; rotate_left; (focus rfl); (focus (intro w' hSw; (try dsimp only at hSw); go_simp; (try with_reducible rfl); done)); (try simp only [Act.put, List.setIfInBounds_toArray, List.set_cons_zero, List.set_cons_succ]))
    | (refine seq_takeG (v := ?_) (g := ?_) (d := ?_) (b := ?_) (u := ?_) ?_ ?_ ?_ ?_ (fun _ _ _ h => h) (by kernel_rfl) ?_ ?_; rotate_left 5; (focus rfl); (focus rfl); (focus rfl); (focus (first | rfl | (go_simp; done))); (focus (intro w' hSw; (try dsimp only at hSw); go_simp; (try with_reducible rfl); done)); (try simp only [Act.put, List.setIfInBounds_toArray, List.set_cons_zero, List.set_cons_succ]))
    | (refine seq_skipG (g := ?_) (d := ?_) (b := ?_) (u := ?_) ?_ ?_ ?_ ?_ (fun _ _ _ h => h) (by kernel_rfl) ?_; rotate_left 4; (focus rfl); (focus rfl); (focus rfl); (focus (first | rfl | (go_simp; done))); (try simp only [Act.put, List.setIfInBounds_toArray, List.set_cons_zero, List.set_cons_succ])))
  refine seq_op (by kernel_rfl) (by rfl) (fun K9 hK9 => ?_)
  go_simp
  refine (HA.out _).mono ?_
  rintro e w1 ⟨rfl, hwx⟩
  obtain rfl := hwx.symm
  refine hK9.out _ _ (by exact ⟨h1, h2, h3⟩) ?_
  clear hK9 K9
  (try simp only [Act.put, List.setIfInBounds_toArray, List.set_cons_zero, List.set_cons_succ])
  repeat (first
    | (refine seq_take0 (v := ?_) ?_ (fun _ _ _ h => h) (by kernel_rfl) ?_ ?_; rotate_left; (focus rfl); (focus (intro w' hSw; (try dsimp only at hSw); go_simp; (try with_reducible rfl); done)); (try simp only [Act.put, List.setIfInBounds_toArray, List.set_cons_zero, List.set_cons_succ]))
    | (refine seq_takeG (v := ?_) (g := ?_) (d := ?_) (b := ?_) (u := ?_) ?_ ?_ ?_ ?_ (fun _ _ _ h => h) (by kernel_rfl) ?_ ?_; rotate_left 5; (focus rfl); (focus rfl); (focus rfl); (focus (first | rfl | (go_simp; done))); (focus (intro w' hSw; (try dsimp only at hSw); go_simp; (try with_reducible rfl); done)); (try simp only [Act.put, List.setIfInBounds_toArray, List.set_cons_zero, List.set_cons_succ]))
    | (refine seq_skipG (g := ?_) (d := ?_) (b := ?_) (u := ?_) ?_ ?_ ?_ ?_ (fun _ _ _ h => h) (by kernel_rfl) ?_; rotate_left 4; (focus rfl); (focus rfl); (focus rfl); (focus (first | rfl | (go_simp; done))); (try simp only [Act.put, List.setIfInBounds_toArray, List.set_cons_zero, List.set_cons_succ])))
  refine seq_done (by kernel_rfl) ?_
  go_wp2_with fail
  go_ret
  exact ⟨rfl, (Below.refl _ _).drew⟩
set_option maxRecDepth 100000 in
theorem close1_any (p : Int) (u : Value) (w : World) :
    Calls Tryz.prog 182 #[.int .i64 p, u] w fun e w' => e = .returned (.func (.func 183) #[] #[.pointer (some ⟨w.heap.size, 0, none⟩), u]) ∧ w' = w.alloc (.cells #[.int .i64 p] 3) := by
  go_enter Tryz.func182, Tryz.ntmps182
  go_wp2_with fail
  go_ret
  exact ⟨rfl, rfl⟩
end Go.Proofs.YtodckaioeomccaaGreat
