/- PlantChecks: for every input the law returns true; each argument reads afterwards as it read before. No condition. -/
import Derived.Test.YtogccnngdfancaaGreatRows
import Derived.WalkKit
import Derived.ProofKit
import Derived.OpenShut
import Derived.ShutString
import Derived.ChangeOld
import Derived.Below
import Derived.Test.YtogccnngdfancaaGreatPart50
namespace Go.Proofs.YtogccnngdfancaaGreat
open Go.ChangeShapes Go.WideShapes Go.ChangeAt Go.RowKit
set_option linter.unusedVariables false
section
variable {H : Type} {enc : TypeId × Value → H} {w : World} {base : Nat} {spare : Nat → Bool} {held : Bool}
theorem i64_of {z : Int} (h : (Lit.int .i64 z).wf = true) : I64 z := by
  simp only [Lit.wf, Bool.and_eq_true, decide_eq_true_eq] at h
  exact h
set_option maxRecDepth 100000 in
theorem open_ratio {fuel : Nat} {cs : List Value} {y : DataW H × List MemPlace} (h : DataW.trod enc Tryz.prog w base spare held fuel 28 cs = some y) :
    ∃ x : Int × Int, cs = ratioC x ∧ (I64 x.1 ∧ I64 x.2) := by
  obtain ⟨ys, n, _, _, hl, _, hf⟩ := DataW.trod_struct Tryz.underlying28 h
  have hl2 : cs.length = 2 := hl.trans (by kernel_rfl)
  match cs, hl2 with
  | [c0, c1], _ =>
    have o2 : Tryz.prog.cellsOf 2 = 1 := by kernel_rfl
    have h0 : DataW.trod enc Tryz.prog w base spare held n 2 (([c0, c1].drop 0).take (Tryz.prog.cellsOf 2)) = ys[0]? := hf 0 _ rfl
    have h1 : DataW.trod enc Tryz.prog w base spare held n 2 (([c0, c1].drop 1).take (Tryz.prog.cellsOf 2)) = ys[1]? := hf 1 _ rfl
    rw [o2] at h0 h1
    have e : ys.length = 2 := by assumption
    match ys, e with
    | [y0, y1], _ =>
      replace h0 : DataW.trod enc Tryz.prog w base spare held n 2 [c0] = some y0 := h0
      replace h1 : DataW.trod enc Tryz.prog w base spare held n 2 [c1] = some y1 := h1
      obtain ⟨s, a1, _, a2⟩ := DataW.trod_int Tryz.underlying2 h0
      obtain ⟨k, b1, _, b2⟩ := DataW.trod_int Tryz.underlying2 h1
      simp at a1 b1
      subst a1 b1
      exact ⟨(s, k), rfl, i64_of a2, i64_of b2⟩
theorem open_ratios {fuel : Nat} {cs : List Value} {y : DataW H × List MemPlace} (h : DataW.trod enc Tryz.prog w base spare held fuel 26 cs = some y) :
    ∃ v xs, cs = [v] ∧ RdK 2 ratioC w (fun _ => True) v xs ∧ ∀ x ∈ xs, I64 x.1 ∧ I64 x.2 :=
  rdK_of_slice (k := 2) (f := ratioC) (Q := fun x => I64 x.1 ∧ I64 x.2) Tryz.underlying26 (by kernel_rfl) (by decide) (fun _ => rfl) (fun n vs y hy => open_ratio hy) h
end
namespace plantChecks
theorem own : ownKnob Tryz.prog.godebug = none := by kernel_rfl
theorem laidOut : laidOutB Tryz.prog = true := by kernel_rfl
set_option maxRecDepth 100000 in
theorem lifted (os : Os) (started : os.Started) (H : Type) (enc : TypeId × Value → H) :
    ReturnsInHanded {} Tryz.checked os 3 .any (Rows.plantChecksSpec.pre6 enc Tryz.prog Tryz.f3 Rows.plantChecksRow.domain false) (Rows.plantChecksSpec.post enc Tryz.prog Tryz.f3 false true false false) := by
  refine returnsInHanded_of_change (C := Tryz.checked) own started (by kernel_rfl) Tryz.func3
    (ChangeSpec.witness6 (enc := enc) (C := Tryz.checked) false ⟨#[], #[.agg #[.int .i64 0, .int .i64 0, .slice none 0 0, .slice none 0 0, .slice none 0 0], .slice none 0 0, .slice none 0 0, .agg #[.int .i64 0, .int .i64 0]], []⟩ 8 (by kernel_rfl) (by kernel_rfl) (by kernel_rfl) (by kernel_rfl)) ?_
  intro W base args ds gs before hval0 hW hcnd _
  have hval : ∀ (j : Nat) t v, Tryz.f3.params[j]? = some t → args[j]? = some v → Value.okWide Tryz.prog W .any base t v := hval0
  have hW' := hW
  obtain ⟨p, q, hA0, hV, rfl, hfz, hnd⟩ := hW
  have hA : DataW.TrodAll enc Tryz.prog W 0 (fun _ => true) true Tryz.f3.params.toList args.toList ds p := hA0
  rw [Tryz.params3] at hA hval
  obtain ⟨v0, vs0, d0, ds0, p0, q0, hargs, rfl, rfl, h0, r0⟩ := trodAll_cons hA
  obtain ⟨v1, vs1, d1, ds1, p1, q1, rfl, rfl, rfl, h1, r1⟩ := trodAll_cons r0
  obtain ⟨v2, vs2, d2, ds2, p2, q2, rfl, rfl, rfl, h2, r2⟩ := trodAll_cons r1
  obtain ⟨v3, vs3, d3, ds3, p3, q3, rfl, rfl, rfl, h3, r3⟩ := trodAll_cons r2
  obtain ⟨rfl, rfl, rfl⟩ := trodAll_nil r3
  obtain rfl : args = #[v0, v1, v2, v3] := by cases args; simp_all
  obtain ⟨rfl, rfl⟩ := trodVars_none hV
  have k0 := h0
  have k1 := h1
  have k2 := h2
  have k3 := h3
  have lt0 : ∀ x ∈ p0, x.block < W.heap.size := by obtain ⟨m, hm⟩ := k0; exact DataW.trod_lt m _ _ _ hm
  have lt1 : ∀ x ∈ p1, x.block < W.heap.size := by obtain ⟨m, hm⟩ := k1; exact DataW.trod_lt m _ _ _ hm
  have lt2 : ∀ x ∈ p2, x.block < W.heap.size := by obtain ⟨m, hm⟩ := k2; exact DataW.trod_lt m _ _ _ hm
  have lt3 : ∀ x ∈ p3, x.block < W.heap.size := by obtain ⟨m, hm⟩ := k3; exact DataW.trod_lt m _ _ _ hm
  obtain ⟨cs0, rfl, _⟩ := okWide_struct Tryz.underlying24 (hval 0 24 v0 rfl rfl)
  obtain ⟨d, vc, vn, vm, rfl, w1, w2, w3⟩ : ∃ (d : WorksD) (vc vn vm : Value), cs0 = #[.int .i64 d.presses, .int .i64 d.change, vc, vn, vm] ∧ Rd (Value.int .i64) W (fun _ => True) vc d.cure ∧ Rd (Value.int .i64) W (fun _ => True) vn d.need ∧ Rd (Value.int .i64) W (fun _ => True) vm d.moulds := by
    obtain ⟨fuel, hf⟩ := h0
    obtain ⟨d, vc, vn, vm, hcs, h1, h2, h3⟩ := open_works hf
    exact ⟨d, vc, vn, vm, Array.toList_inj.1 hcs, h1, h2, h3⟩
  obtain ⟨a1, len1, cap1, rfl⟩ := okWide_slice Tryz.underlying25 (hval 1 25 v1 rfl rfl)
  obtain ⟨a2, len2, cap2, rfl⟩ := okWide_slice Tryz.underlying26 (hval 2 26 v2 rfl rfl)
  obtain ⟨cs3, rfl, _⟩ := okWide_struct Tryz.underlying28 (hval 3 28 v3 rfl rfl)
  obtain ⟨jl, e1⟩ : ∃ jl, RdK 3 jobC W (fun _ => True) (.slice a1 len1 cap1) jl := by
    obtain ⟨fuel, hf⟩ := h1
    obtain ⟨v, xs, hcs, h, _⟩ := open_jobs hf
    simp [Value.cells] at hcs
    subst hcs
    exact ⟨xs, h⟩
  obtain ⟨rl, e2, e3⟩ : ∃ rl, RdK 2 ratioC W (fun _ => True) (.slice a2 len2 cap2) rl ∧ ∀ z ∈ rl, I64 z.1 ∧ I64 z.2 := by
    obtain ⟨fuel, hf⟩ := h2
    obtain ⟨v, xs, hcs, h, h'⟩ := open_ratios hf
    simp [Value.cells] at hcs
    subst hcs
    exact ⟨xs, h, h'⟩
  obtain ⟨cn, cd, rfl, e4, e5⟩ : ∃ cn cd : Int, cs3 = #[.int .i64 cn, .int .i64 cd] ∧ I64 cn ∧ I64 cd := by
    obtain ⟨fuel, hf⟩ := h3
    obtain ⟨x, hcs, h4, h5⟩ := open_ratio hf
    exact ⟨x.1, x.2, Array.toList_inj.1 hcs, h4, h5⟩
  clear hA0 hval0
  refine (checks_any _ (.slice a1 len1 cap1) (.slice a2 len2 cap2) d jl rl cn cd (fun _ => True) (fun _ => True) (fun _ => True) W ⟨vc, vn, vm, rfl, w1, w2, w3⟩ e1 e2 e3 e4 e5).mono fun e W' ⟨he, bel⟩ => ?_
  subst he
  exact ⟨_, rfl, _, _, _, [], _, [], hW', trodAll_mk1 (shut_bool Tryz.underlying4 _), (trodAll_cons_mk (Below.trod laidOut (by kernel_rfl) (of_decide_eq_true (by kernel_rfl)) k0 bel lt0) (trodAll_cons_mk (Below.trod laidOut (by kernel_rfl) (of_decide_eq_true (by kernel_rfl)) k1 bel lt1) (trodAll_cons_mk (Below.trod laidOut (by kernel_rfl) (of_decide_eq_true (by kernel_rfl)) k2 bel lt2) (trodAll_cons_mk (Below.trod laidOut (by kernel_rfl) (of_decide_eq_true (by kernel_rfl)) k3 bel lt3) trodAll_mk0)))), rfl, bel.frame _, fun h => by cases h⟩
theorem over : Rows.plantChecksRow.holds Tryz.pinned (OpenSpec.ofChange Rows.plantChecksSpec) :=
  OpenClaim.holds_of_wide 3 Tryz.f3 rfl rfl rfl rfl rfl rfl rfl ⟨rfl, rfl, rfl, rfl, rfl⟩ rfl rfl rfl rfl rfl (by kernel_rfl) Tryz.func3 (by kernel_rfl)
    (of_decide_eq_true (by kernel_rfl)) (by unfold Func.isWrapper; first | (rw [if_pos (by decide +kernel)]; kernel_rfl) | (rw [if_neg (by decide +kernel)]; exact ⟨rfl, rfl⟩))
    (fun os started H enc _ => lifted os started H enc)
theorem proved : Rows.PlantChecksSaid :=
  over
#print axioms proved
end plantChecks
end Go.Proofs.YtogccnngdfancaaGreat
