/- HallCasings: the frame of its row: what came in is opened, the walk, what came in reads as before. -/
import Derived.Test.YtfondpakbiagjaaGreatDoorRows
import Derived.WalkKit
import Derived.ProofKit
import Derived.OpenShut
import Derived.ShutString
import Derived.ChangeOld
import Derived.Below
import Derived.LaidMore
import Derived.Lay
import Derived.SevenTiedAt
import Derived.Stop.Joined
import Derived.Test.YtfondpakbiagjaaGreatDoorHFrm
import Derived.Test.YtfondpakbiagjaaGreatDoorHFac
import Derived.Test.YtfondpakbiagjaaGreatDoorHEvt
import Derived.Test.YtfondpakbiagjaaGreatDoorHCsN
namespace Go.Proofs.YtfondpakbiagjaaGreatDoor
open Go.ChangeShapes Go.WideShapes Go.ChangeAt Go.RowKit
set_option linter.unusedVariables false
namespace hallCasings
theorem own : ownKnob Tryz.prog.godebug = none := by kernel_rfl
theorem laidOut : laidOutB Tryz.prog = true := Facts.laid
set_option maxRecDepth 100000 in
theorem lifted (os : Os) (started : os.Started) (H : Type) (enc : TypeId × Value → H) :
    ReturnsInHanded {} Tryz.checked os 6 .any (fun w args => (Rows.hallCasingsSpec.pre enc Tryz.prog Tryz.f6 Rows.hallCasingsRow.domain false w args ∧ laidMetH Tryz.prog Rows.hallCasingsRow.laid w) ∧ sizedMet enc Tryz.prog Tryz.f6 (OpenSpec.ofChange Rows.hallCasingsSpec) false w args)
      (Rows.hallCasingsSpec.post enc Tryz.prog Tryz.f6 false true false false) := by
  refine returns_laid (C := Tryz.checked) (X := fun w _ => laidMetH Tryz.prog Rows.hallCasingsRow.laid w) (fun _ _ _ hh h => h.of_heap hh) own started (by kernel_rfl) Tryz.func6
    (ChangeSpec.witness_shaped (enc := enc) (C := Tryz.checked) (os := os) (X := fun w _ => laidMetH Tryz.prog Rows.hallCasingsRow.laid w) false (World.laidAll Tryz.prog os Rows.hallCasingsRow.laid) #[.slice none 0 0, .int .i64 0, .agg #[.int .i64 0, .int .i64 0, .int .i64 0, .int .i64 0]] 8 (World.laidAll_os _ _ _)
      (World.shaped_of_ZipB (by kernel_rfl) (by kernel_rfl)) (by kernel_rfl) (by kernel_rfl) (by kernel_rfl)
      (by rw [MakeChecks.laidMetH_plain _ _ _ (by kernel_rfl)]; exact laidMet_laidAll _ (by kernel_rfl) (by kernel_rfl))) ?_
  intro W base args ds gs before hval0 hW _ hL hsh
  have hgl := gl_start hsh hL
  have hval : ∀ (j : Nat) t v, Tryz.f6.params[j]? = some t → args[j]? = some v → Value.okWide Tryz.prog W .any base t v := hval0
  have hW' := hW
  obtain ⟨p, q, hA0, hV, rfl, hfz, hnd⟩ := hW
  have hA : DataW.TrodAll enc Tryz.prog W 0 (fun _ => true) true Tryz.f6.params.toList args.toList ds p := hA0
  rw [Tryz.params6] at hA hval
  obtain ⟨v0, vs0, d0, ds0, p0, q0, hargs, rfl, rfl, h0, r0⟩ := trodAll_cons hA
  obtain ⟨v1, vs1, d1, ds1, p1, q1, rfl, rfl, rfl, h1, r1⟩ := trodAll_cons r0
  obtain ⟨v2, vs2, d2, ds2, p2, q2, rfl, rfl, rfl, h2, r2⟩ := trodAll_cons r1
  obtain ⟨rfl, rfl, rfl⟩ := trodAll_nil r2
  obtain rfl : args = #[v0, v1, v2] := by cases args; simp_all
  obtain ⟨rfl, rfl⟩ := trodVars_none hV
  have k0 := h0
  have lt0 : ∀ x ∈ p0, x.block < W.heap.size := by obtain ⟨m, hm⟩ := k0; exact DataW.trod_lt m _ _ _ hm
  have k2 := h2
  have lt2 : ∀ x ∈ p2, x.block < W.heap.size := by obtain ⟨m, hm⟩ := k2; exact DataW.trod_lt m _ _ _ hm
  obtain ⟨a0, len0, cap0, rfl⟩ := okWide_slice Tryz.underlying57 (hval 0 57 v0 rfl rfl)
  obtain ⟨xs0, e0, ww0⟩ : ∃ xs, RdE W (.slice a0 len0 cap0) xs ∧ ∀ z ∈ xs, EvWf z := by
    obtain ⟨fuel, hf⟩ := h0
    obtain ⟨v, xs, hcs, h1, h2⟩ := open_events hf
    simp [Value.cells] at hcs
    subst hcs
    exact ⟨xs, h1, h2⟩
  obtain ⟨m1, rfl, rfl, rfl, w1⟩ := open_int Tryz.underlying3 (hval 1 3 v1 rfl rfl) h1
  have b1 := bounds_int w1
  obtain ⟨cs2, rfl, _⟩ := okWide_struct Tryz.underlying59 (hval 2 59 v2 rfl rfl)
  obtain ⟨la, lr, lp, lx, rfl, e2⟩ : ∃ a b c d : Int, cs2 = #[.int .i64 a, .int .i64 b, .int .i64 c, .int .i64 d] ∧ I64 a ∧ I64 b ∧ I64 c ∧ I64 d := by
    obtain ⟨fuel, hf⟩ := h2
    obtain ⟨a, b, c, d, hcs, hb⟩ := open_limits hf
    exact ⟨a, b, c, d, Array.toList_inj.1 hcs, hb⟩
  clear hA0 hval0
  refine (hallCasings_any (.slice a0 len0 cap0) xs0 m1 la lr lp lx W e0 ww0 b1 e2 hgl).mono fun e W' ⟨he, bel⟩ => ?_
  subst he
  exact ⟨_, rfl, _, _, _, [], _, [], hW', trodAll_mk1 (shut_bool Tryz.underlying4 _), (trodAll_cons_mk (Below.trod laidOut (by kernel_rfl) (of_decide_eq_true (by kernel_rfl)) k0 bel lt0) (trodAll_cons_mk (shut_int Tryz.underlying3 w1) (trodAll_cons_mk (Below.trod laidOut (by kernel_rfl) (of_decide_eq_true (by kernel_rfl)) k2 bel lt2) trodAll_mk0))), rfl, bel.frame _, fun h => by cases h⟩
end hallCasings
end Go.Proofs.YtfondpakbiagjaaGreatDoor
