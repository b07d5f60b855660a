/- The walks of the searcher's closures. -/
import Derived.Test.YtodckaioeomccaaGreatPart22
import Derived.Test.YtodckaioeomccaaGreatPart33
import Derived.Test.YtodckaioeomccaaGreatPart20
import Derived.Test.YtodckaioeomccaaGreatPart02
import Derived.Test.YtodckaioeomccaaGreatPart03
namespace Go.Proofs.YtodckaioeomccaaGreat
open Go.RowKit Go.Proofs.Plc
set_option linter.unusedVariables false
set_option linter.unusedSimpArgs false
theorem enters_close2 : ∀ args w, (callFunc 183 args).run Tryz.prog w = .ok (.enter 183 args) w := enters_of Tryz.func183 (by kernel_rfl) rfl
set_option maxRecDepth 100000 in
theorem close2_any (p q ap : Int) (b1 b2 b : Nat) (w : World) (hp : 0 ≤ p ∧ p < 24) (hq : 0 ≤ q ∧ q < 24) (h1 : w.cell? ⟨b1, 0, none⟩ = some (.int .i64 p)) (h2 : w.cell? ⟨b2, 0, none⟩ = some (.pointer (some ⟨b, 0, none⟩)))
  (h3 : w.cell? ⟨b, 2, none⟩ = some (.int .i64 ap)) :
  Calls Tryz.prog 183 #[.int .i64 q, .pointer (some ⟨b1, 0, none⟩), .pointer (some ⟨b2, 0, none⟩)] w fun e w' => e = .returned (.bool (decide (apartN p q < ap))) ∧ Below w.heap.size w w' := by
 have HA := h0d (fun w => apart_any p q w hp hq)
 obtain ⟨d, hd⟩ : ∃ d, d = apartN p q := ⟨_, rfl⟩
 rw [← hd] at HA ⊢
 clear hd hp hq
 go_enter Tryz.func183, Tryz.ntmps183
 go_wp2_with fail
 refine seq_start (S := fun w' => w'.cell? ⟨b1, 0, none⟩ = some (.int .i64 p) ∧ w'.cell? ⟨b2, 0, none⟩ = some (.pointer (some ⟨b, 0, none⟩)) ∧ w'.cell? ⟨b, 2, none⟩ = some (.int .i64 ap)) (by kernel_rfl) (by kernel_rfl) (by exact ⟨h1, h2, h3⟩) ?_
 repeat (first | refine tk0 (h := ?_) | refine tkG (h := ?_) | refine skG (h := ?_))
 repeat (refine seq_swap ?_; first | refine tk0 (h := ?_) | refine tkG (h := ?_) | refine skG (h := ?_))
 refine sop (h := fun K9 hK9 => ?_)
 go_simp
 refine (HA.out _).mono ?_
 rintro e w1 ⟨rfl, hwx⟩
 obtain rfl := hwx.symm
 refine ckk hK9 (by exact ⟨h1, h2, h3⟩) (h := ?_)
 clear hK9 K9
 repeat (first | refine tk0 (h := ?_) | refine tkG (h := ?_) | refine skG (h := ?_))
 refine seq_done (by kernel_rfl) ?_
 go_wp2_with fail
 go_ret
 exact ⟨rfl, (Below.refl _ _).drew⟩
set_option maxRecDepth 100000 in
theorem close1_any (p : Int) (u : Value) (w : World) :
  Calls Tryz.prog 182 #[.int .i64 p, u] w fun e w' => e = .returned (.func (.func 183) #[] #[.pointer (some ⟨w.heap.size, 0, none⟩), u]) ∧ w' = w.alloc (.cells #[.int .i64 p] 3) := by
 go_enter Tryz.func182, Tryz.ntmps182
 go_wp2_with fail
 go_ret
 exact ⟨rfl, rfl⟩
end Go.Proofs.YtodckaioeomccaaGreat
