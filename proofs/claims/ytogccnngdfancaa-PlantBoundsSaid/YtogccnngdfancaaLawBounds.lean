/- PlantBounds: for every input the law returns true; each argument reads afterwards as it read before. No condition. -/
import Derived.Test.YtogccnngdfancaaRows
import Derived.WalkKit
import Derived.ProofKit
import Derived.OpenShut
import Derived.ShutString
import Derived.ChangeOld
import Derived.Below
import Derived.Test.YtogccnngdfancaaBounds
namespace Go.Proofs.Ytogccnngdfancaa
open Go.ChangeShapes Go.WideShapes Go.ChangeAt Go.RowKit
set_option linter.unusedVariables false
theorem bounds_u8 {n : Int} (h : (Lit.int .u8 n).wf = true) : 0 ≤ n ∧ n ≤ 255 := by
  simp only [Lit.wf, Bool.and_eq_true, decide_eq_true_eq] at h
  exact h
theorem bounds_u16 {n : Int} (h : (Lit.int .u16 n).wf = true) : 0 ≤ n ∧ n ≤ 65535 := by
  simp only [Lit.wf, Bool.and_eq_true, decide_eq_true_eq] at h
  exact h
namespace plantBounds
theorem own : ownKnob Try.prog.godebug = none := by kernel_rfl
theorem laidOut : laidOutB Try.prog = true := by kernel_rfl
set_option maxRecDepth 100000 in
theorem lifted (os : Os) (started : os.Started) (H : Type) (enc : TypeId × Value → H) :
    ReturnsInHanded {} Try.checked os 4 .any (Rows.plantBoundsSpec.pre6 enc Try.prog Try.f4 Rows.plantBoundsRow.domain false) (Rows.plantBoundsSpec.post enc Try.prog Try.f4 false true false false) := by
  refine returnsInHanded_of_change (C := Try.checked) own started (by kernel_rfl) Try.func4
    (ChangeSpec.witness6 (enc := enc) (C := Try.checked) false ⟨#[], #[.agg #[.int .i64 0, .int .i64 0, .slice none 0 0, .slice none 0 0, .slice none 0 0], .slice none 0 0, .slice none 0 0, .int .u8 0], []⟩ 8 (by kernel_rfl) (by kernel_rfl) (by kernel_rfl) (by kernel_rfl)) ?_
  intro W base args ds gs before hval0 hW hcnd _
  have hval : ∀ (j : Nat) t v, Try.f4.params[j]? = some t → args[j]? = some v → Value.okWide Try.prog W .any base t v := hval0
  have hW' := hW
  obtain ⟨p, q, hA0, hV, rfl, hfz, hnd⟩ := hW
  have hA : DataW.TrodAll enc Try.prog W 0 (fun _ => true) true Try.f4.params.toList args.toList ds p := hA0
  rw [Try.params4] at hA hval
  obtain ⟨v0, vs0, d0, ds0, p0, q0, hargs, rfl, rfl, h0, r0⟩ := trodAll_cons hA
  obtain ⟨v1, vs1, d1, ds1, p1, q1, rfl, rfl, rfl, h1, r1⟩ := trodAll_cons r0
  obtain ⟨v2, vs2, d2, ds2, p2, q2, rfl, rfl, rfl, h2, r2⟩ := trodAll_cons r1
  obtain ⟨v3, vs3, d3, ds3, p3, q3, rfl, rfl, rfl, h3, r3⟩ := trodAll_cons r2
  obtain ⟨rfl, rfl, rfl⟩ := trodAll_nil r3
  obtain rfl : args = #[v0, v1, v2, v3] := by cases args; simp_all
  obtain ⟨rfl, rfl⟩ := trodVars_none hV
  have k0 := h0
  have k1 := h1
  have k2 := h2
  have k3 := h3
  have lt0 : ∀ x ∈ p0, x.block < W.heap.size := by obtain ⟨m, hm⟩ := k0; exact DataW.trod_lt m _ _ _ hm
  have lt1 : ∀ x ∈ p1, x.block < W.heap.size := by obtain ⟨m, hm⟩ := k1; exact DataW.trod_lt m _ _ _ hm
  have lt2 : ∀ x ∈ p2, x.block < W.heap.size := by obtain ⟨m, hm⟩ := k2; exact DataW.trod_lt m _ _ _ hm
  have lt3 : ∀ x ∈ p3, x.block < W.heap.size := by obtain ⟨m, hm⟩ := k3; exact DataW.trod_lt m _ _ _ hm
  obtain ⟨cs0, rfl, _⟩ := okWide_struct Try.underlying24 (hval 0 24 v0 rfl rfl)
  obtain ⟨d, vc, vn, vm, rfl, w1, w2, w3⟩ : ∃ (d : WorksD) (vc vn vm : Value), cs0 = #[.int .i64 d.presses, .int .i64 d.change, vc, vn, vm] ∧ Rd (Value.int .i64) W (fun _ => True) vc d.cure ∧ Rd (Value.int .i64) W (fun _ => True) vn d.need ∧ Rd (Value.int .i64) W (fun _ => True) vm d.moulds := by
    obtain ⟨fuel, hf⟩ := h0
    obtain ⟨d, vc, vn, vm, hcs, h1, h2, h3⟩ := open_works hf
    exact ⟨d, vc, vn, vm, Array.toList_inj.1 hcs, h1, h2, h3⟩
  obtain ⟨a1, len1, cap1, rfl⟩ := okWide_slice Try.underlying43 (hval 1 43 v1 rfl rfl)
  obtain ⟨a2, len2, cap2, rfl⟩ := okWide_slice Try.underlying44 (hval 2 44 v2 rfl rfl)
  obtain ⟨jl, e1⟩ : ∃ jl, RdK 3 jobC W (fun _ => True) (.slice a1 len1 cap1) jl := by
    obtain ⟨fuel, hf⟩ := h1
    obtain ⟨v, xs, hcs, h, _⟩ := open_jobs hf
    simp [Value.cells] at hcs
    subst hcs
    exact ⟨xs, h⟩
  obtain ⟨late, e2, e3⟩ : ∃ late, Rd (Value.int .u16) W (fun _ => True) (.slice a2 len2 cap2) late ∧ ∀ z ∈ late, (Lit.int .u16 z).wf = true := by
    obtain ⟨fuel, hf⟩ := h2
    obtain ⟨v, xs, hcs, h, h'⟩ := open_u16s_rd hf
    simp [Value.cells] at hcs
    subst hcs
    exact ⟨xs, h, h'⟩
  obtain ⟨m3, rfl, rfl, rfl, w4⟩ := open_int Try.underlying5 (hval 3 5 v3 rfl rfl) h3
  have hm3 := bounds_u8 w4
  obtain ⟨tn, rfl⟩ : ∃ tn : Nat, m3 = (tn : Int) := ⟨m3.toNat, by omega⟩
  clear hA0 hval0
  refine (bounds_any _ (.slice a1 len1 cap1) (.slice a2 len2 cap2) d jl late tn (fun _ => True) W ⟨vc, vn, vm, rfl, w1, w2, w3⟩ e1 e2 (fun z hz => bounds_u16 (e3 z hz)) (by omega)).mono fun e W' ⟨he, bel⟩ => ?_
  subst he
  exact ⟨_, rfl, _, _, _, [], _, [], hW', trodAll_mk1 (shut_bool Try.underlying4 _), (trodAll_cons_mk (Below.trod laidOut (by kernel_rfl) (of_decide_eq_true (by kernel_rfl)) k0 bel lt0) (trodAll_cons_mk (Below.trod laidOut (by kernel_rfl) (of_decide_eq_true (by kernel_rfl)) k1 bel lt1) (trodAll_cons_mk (Below.trod laidOut (by kernel_rfl) (of_decide_eq_true (by kernel_rfl)) k2 bel lt2) (trodAll_cons_mk (Below.trod laidOut (by kernel_rfl) (of_decide_eq_true (by kernel_rfl)) k3 bel lt3) trodAll_mk0)))), rfl, bel.frame _, fun h => by cases h⟩
theorem over : Rows.plantBoundsRow.holds Try.pinned (OpenSpec.ofChange Rows.plantBoundsSpec) :=
  OpenClaim.holds_of_wide 4 Try.f4 rfl rfl rfl rfl rfl rfl rfl ⟨rfl, rfl, rfl, rfl, rfl⟩ rfl rfl rfl rfl rfl (by kernel_rfl) Try.func4 (by kernel_rfl)
    (of_decide_eq_true (by kernel_rfl)) (by unfold Func.isWrapper; first | (rw [if_pos (by decide +kernel)]; kernel_rfl) | (rw [if_neg (by decide +kernel)]; exact ⟨rfl, rfl⟩))
    (fun os started H enc _ => lifted os started H enc)
theorem proved : Rows.PlantBoundsSaid :=
  over
#print axioms proved
end plantBounds
end Go.Proofs.Ytogccnngdfancaa
