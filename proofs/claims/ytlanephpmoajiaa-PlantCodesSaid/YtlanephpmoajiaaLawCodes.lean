/- PlantCodes: for every input the law returns true; each argument reads afterwards as it read before. No condition. -/
import Derived.Test.YtlanephpmoajiaaRows
import Derived.WalkKit
import Derived.ProofKit
import Derived.OpenShut
import Derived.ShutString
import Derived.ChangeOld
import Derived.Below
import Derived.Test.YtlanephpmoajiaaAwake
import Derived.Test.YtlanephpmoajiaaCodes2
import Derived.Test.YtlanephpmoajiaaRefCodes2
import Derived.Test.YtlanephpmoajiaaRefMend
namespace Go.Proofs.Ytlanephpmoajiaa.plantCodes
open Pl
open Go.ChangeShapes Go.WideShapes Go.ChangeAt Go.RowKit
open Go.ChangeMaps (open_string shut_string)
set_option linter.unusedVariables false

theorem own : ownKnob Try.prog.godebug = none := by kernel_rfl

set_option maxRecDepth 100000 in
set_option maxHeartbeats 2000000 in
theorem walk (a0 : ByteArray) (w0 : a0.size ≤ maxLen) (w : World) :
    Calls Try.prog 6 #[.string a0] w fun e w' => e = .returned (.bool true) ∧ Below w.heap.size w w' := by
  unfold maxLen at w0
  by_cases h60 : 60 < a0.size
  · go_enter Try.func6, Try.ntmps6
    go_wp2_with fail
    refine (awake_any _).mono ?_
    rintro e w1 ⟨rfl, hb1⟩
    go_wp2_with fail
    go_ret
    exact ⟨rfl, hb1⟩
  · go_enter Try.func6, Try.ntmps6
    go_wp2_with fail
    refine (seal_any _ _).mono ?_
    rintro e w1 ⟨r1, c1, rfl, h1, -, hb1⟩
    go_wp2_with fail
    refine (refSeal_any _ _).mono ?_
    rintro e w2 ⟨r2, c2, rfl, h2, -, hb2⟩
    obtain ⟨e1, e2⟩ := h1.same h2
    obtain rfl := ba_inj e1
    subst e2
    clear h1 h2 e1
    have b2 : Below w.heap.size w w2 := hb1.trans (hb2.mono hb1.size)
    clear hb1 hb2
    go_wp2_with fail
    refine (open_any _ _).mono ?_
    rintro e w3 ⟨r3, c3, rfl, h3, -, hb3⟩
    have b3 : Below w.heap.size w w3 := b2.trans (hb3.mono b2.size)
    go_wp2_with fail
    refine (refOpen_any _ _).mono ?_
    rintro e w4 ⟨r4, c4, rfl, h4, -, hb4⟩
    obtain ⟨e1, e2⟩ := h3.same h4
    obtain rfl := ba_inj e1
    subst e2
    have b4 : Below w.heap.size w w4 := b3.trans (hb4.mono b3.size)
    clear h3 h4 e1 hb3 hb4 b2 b3
    go_wp2_with fail
    refine (mend_any _ _).mono ?_
    rintro e w5 ⟨r5, c5, rfl, h5, -, hb5⟩
    have b5 : Below w.heap.size w w5 := b4.trans (hb5.mono b4.size)
    go_wp2_with fail
    refine (refMend_any _ _).mono ?_
    rintro e w6 ⟨r6, c6, rfl, h6, -, hb6⟩
    obtain ⟨e1, e2⟩ := h5.same h6
    obtain rfl := ba_inj e1
    subst e2
    have b6 : Below w.heap.size w w6 := b5.trans (hb6.mono b5.size)
    clear h5 h6 e1 hb5 hb6 b4 b5
    go_wp2_with fail
    refine (awake_any _).mono ?_
    rintro e w7 ⟨rfl, hb7⟩
    go_wp2_with fail
    go_ret
    exact ⟨rfl, b6.trans (hb7.mono b6.size)⟩

set_option maxRecDepth 100000 in
theorem lifted (os : Os) (started : os.Started) (H : Type) (enc : TypeId × Value → H) :
    ReturnsInHanded {} Try.checked os 6 .any (Rows.plantCodesSpec.pre6 enc Try.prog Try.f6 Rows.plantCodesRow.domain false) (Rows.plantCodesSpec.post enc Try.prog Try.f6 false true false false) := by
  refine returnsInHanded_of_change (C := Try.checked) own started (by kernel_rfl) Try.func6
    (ChangeSpec.witness6 (enc := enc) (C := Try.checked) false ⟨#[], #[.string ByteArray.empty], []⟩ 8 (by kernel_rfl) (by kernel_rfl) (by kernel_rfl) (by kernel_rfl)) ?_
  intro W base args ds gs before hval0 hW hcnd _
  have hval : ∀ (j : Nat) t v, Try.f6.params[j]? = some t → args[j]? = some v → Value.okWide Try.prog W .any base t v := hval0
  have hW' := hW
  obtain ⟨p, q, hA0, hV, rfl, hfz, hnd⟩ := hW
  have hA : DataW.TrodAll enc Try.prog W 0 (fun _ => true) true Try.f6.params.toList args.toList ds p := hA0
  rw [Try.params6] at hA hval
  obtain ⟨v0, vs0, d0, ds0, p0, q0, hargs, rfl, rfl, h0, r0⟩ := trodAll_cons hA
  obtain ⟨rfl, rfl, rfl⟩ := trodAll_nil r0
  obtain rfl : args = #[v0] := by cases args; simp_all
  obtain ⟨rfl, rfl⟩ := trodVars_none hV
  obtain ⟨a0, rfl, rfl, rfl, w0⟩ := open_string Try.underlying9 (hval 0 9 v0 rfl rfl) h0
  clear hA0 hval0
  simp only [List.append_nil] at hW'
  refine (walk a0 w0 W).mono fun e W' ⟨he, bel⟩ => ?_
  subst he
  exact ⟨_, rfl, _, _, _, [], _, [], hW', trodAll_mk1 (shut_bool Try.underlying4 _), (trodAll_cons_mk (shut_string Try.underlying9 w0) trodAll_mk0), rfl, bel.frame _, fun h => by cases h⟩

theorem over : Rows.plantCodesRow.holds Try.pinned (OpenSpec.ofChange Rows.plantCodesSpec) :=
  OpenClaim.holds_of_wide 6 Try.f6 rfl rfl rfl rfl rfl rfl rfl ⟨rfl, rfl, rfl, rfl, rfl⟩ rfl rfl rfl rfl rfl (by kernel_rfl) Try.func6 (by kernel_rfl)
    (of_decide_eq_true (by kernel_rfl)) (by unfold Func.isWrapper; first | (rw [if_pos (by decide +kernel)]; kernel_rfl) | (rw [if_neg (by decide +kernel)]; exact ⟨rfl, rfl⟩))
    (fun os started H enc _ => lifted os started H enc)

theorem proved : Rows.PlantCodesSaid :=
  over
#print axioms proved
end Go.Proofs.Ytlanephpmoajiaa.plantCodes
