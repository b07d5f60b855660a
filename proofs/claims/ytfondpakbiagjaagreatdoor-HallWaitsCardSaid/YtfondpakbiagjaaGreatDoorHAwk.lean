/- The walk of the example of layer 10. -/
import Derived.Test.YtfondpakbiagjaaGreatDoorHAns
import Derived.Test.YtfondpakbiagjaaGreatDoorHPar
namespace Go.Proofs.YtfondpakbiagjaaGreatDoor
open Go.RowKit Go.Lib
set_option linter.unusedVariables false
set_option linter.unusedSimpArgs false
set_option maxRecDepth 100000
set_option maxHeartbeats 4000000
theorem enter_cf {f : FuncId} {fn : Func} {c : Code} (hf : Tryz.prog.funcs[f]? = some fn) (hname : (fn.name == "runtime.NumGoroutine") = false) (hb : fn.body = some c) (args : Array Value) (w : World) : (callFunc f args).run Tryz.prog w = .ok (.enter f args) w := by
  have h1 : fn.name ≠ "runtime.NumGoroutine" := by simpa using hname
  simp [callFunc, hf, h1, hb]
def TB : List TyD := [⟨1, 1⟩, ⟨2, 1⟩, ⟨3, 1⟩]
def TC : List TyD := [⟨1, 2⟩, ⟨2, 2⟩, ⟨3, 1⟩]
def actB : ActD := ⟨2, 1, 3, 0⟩
def actCu : ActD := ⟨3, 1, 2, 0⟩
def actJ : ActD := ⟨4, 1, 1, 0⟩
def actD : ActD := ⟨3, 1, 1, 0⟩
def noB : ByteArray := ⟨#[]⟩
theorem packL_18 (a : ActD) : 18 ≤ (packL a noB).length ∧ (packL a noB).length ≤ 500 := by
  have h1 := escL_len (contL a noB ++ numB (sumL (contL a noB)) 4)
  have h2 := packL_len a noB (by decide)
  rw [List.length_append, contL_len, numB_len] at h1
  refine ⟨?_, h2.2⟩
  have h3 : noB.size = 0 := rfl
  unfold packL
  simp only [List.length_append, List.length_cons, List.length_nil]
  omega
theorem cmd_before {n : Nat} {cw : ByteArray} (h : (cmds.take n).all (fun c => !(c.word.toList == cw.toList)) = true) : ∀ (j : Nat) c, j < n → cmds[j]? = some c → (c.word.toList == cw.toList) = false := fun j c hj hc => by
  have := List.all_eq_true.1 h c (List.mem_of_getElem? (by rw [List.getElem?_take_of_lt hj]; exact hc))
  simpa using this
theorem par_B (W : World) (hg : Gl W) : Calls Tryz.prog 79 #[.string lineB] W fun e w' => e = .returned (.tuple #[actV actB ⟨#[]⟩, .int .i64 0]) ∧ Below W.heap.size W w' :=
  parse_two lineB wBuild ⟨#[49, 45, 51]⟩ 0 2 1 3 W words_B wok_B hg (by kernel_rfl) (by kernel_rfl) rfl (fun j c h => absurd h (Nat.not_lt_zero _))
    (fun W hW => span_two _ 49 51 1 3 W (by decide) (by kernel_rfl) (by decide) (by kernel_rfl) hW (by decide) (by kernel_rfl))
theorem par_C (W : World) (hg : Gl W) : Calls Tryz.prog 79 #[.string lineC] W fun e w' => e = .returned (.tuple #[actV actCu ⟨#[]⟩, .int .i64 0]) ∧ Below W.heap.size W w' :=
  parse_two lineC wCure ⟨#[49, 45, 50]⟩ 1 3 1 2 W words_C wok_C hg (by kernel_rfl) (by kernel_rfl) rfl (cmd_before (by kernel_rfl))
    (fun W hW => span_two _ 49 50 1 2 W (by decide) (by kernel_rfl) (by decide) (by kernel_rfl) hW (by decide) (by kernel_rfl))
theorem par_D (W : World) (hg : Gl W) : Calls Tryz.prog 79 #[.string lineD] W fun e w' => e = .returned (.tuple #[actV actD ⟨#[]⟩, .int .i64 0]) ∧ Below W.heap.size W w' :=
  parse_two lineD wCure ⟨#[49]⟩ 1 3 1 1 W words_D wok_D hg (by kernel_rfl) (by kernel_rfl) rfl (cmd_before (by kernel_rfl))
    (fun W hW => span_one 49 1 W (by decide) (by kernel_rfl) hW (by kernel_rfl))
theorem par_J (W : World) (hg : Gl W) : Calls Tryz.prog 79 #[.string lineJ] W fun e w' => e = .returned (.tuple #[actV actJ ⟨#[]⟩, .int .i64 0]) ∧ Below W.heap.size W w' :=
  parse_three lineJ wJudge ⟨#[49]⟩ ⟨#[48]⟩ 5 4 1 1 0 W words_J wok_J hg (by kernel_rfl) (by kernel_rfl) rfl (cmd_before (by kernel_rfl))
    (fun W => numeral_one 48 0 W (by decide) (by kernel_rfl)) (fun W hW => span_one 49 1 W (by decide) (by kernel_rfl) hW (by kernel_rfl))
theorem HallIs.later {w : World} {hb : Nat} {T : List TyD} {J : List Int} {W W' : World} (h : ∃ tv jv, HallIs W hb tv jv T J) (hb2 : Below W.heap.size W W') : ∃ tv jv, HallIs W' hb tv jv T J := by
  obtain ⟨tv, jv, h⟩ := h
  exact ⟨tv, jv, h.stay hb2⟩
theorem strict3 {a b c : TyD} (h1 : a.id < b.id) (h2 : b.id < c.id) : Strict [a, b, c] := by
  intro j k p q hjk hp hq
  have hk := (List.getElem?_eq_some_iff.1 hq).1
  simp only [List.length_cons, List.length_nil] at hk
  rcases (by omega : j = 0 ∧ k = 1 ∨ j = 0 ∧ k = 2 ∨ j = 1 ∧ k = 2) with ⟨rfl, rfl⟩ | ⟨rfl, rfl⟩ | ⟨rfl, rfl⟩ <;> (simp at hp hq; subst hp hq; omega)
theorem step_B (hb : Nat) (tv jv : Value) (w : World) (h : HallIs w hb tv jv [] []) (hg : Glob hb w) :
    Calls Tryz.prog 20 #[.pointer (some ⟨hb, 0, none⟩), .string lineB] w fun e w' => e = .returned (.string ⟨#[111, 107]⟩) ∧ ((∃ tv jv, HallIs w' hb tv jv TB ([] ++ packL actB noB)) ∧ Below hb w w') :=
  answer_up 0 _ _ _ _ _ (answer_do 0 lineB actB (fun W => ∃ tv jv, HallIs W hb tv jv TB ([] ++ packL actB noB)) hb tv jv [] [] w h hg _
    (fun W hW => asked_no _ _ _ _ W words_B (by decide) hW (by kernel_rfl) (by kernel_rfl) (by kernel_rfl)) par_B
    (fun W hW => do_ok hb tv jv [] TB [] actB noB W hW (by unfold ActD.ok actB; decide) (by decide) (by decide) (fun W hW => perform_build hb tv jv [] [] actB noB W hW (fun _ _ _ _ _ h => by simp at h) (fun _ h => by simp at h) rfl ⟨by decide, by decide, by decide, by decide, by decide, by decide⟩ (by decide)))
    (.inl ⟨rfl, rfl⟩) (fun W W' h j => HallIs.later (w := W) h j))
theorem step_C (hb : Nat) (tv jv : Value) (J : List Int) (w : World) (h : HallIs w hb tv jv TB J) (hJ : J.length ≤ 5000) (hg : Glob hb w) :
    Calls Tryz.prog 20 #[.pointer (some ⟨hb, 0, none⟩), .string lineC] w fun e w' => e = .returned (.string ⟨#[111, 107]⟩) ∧ ((∃ tv jv, HallIs w' hb tv jv TC (J ++ packL actCu noB)) ∧ Below hb w w') :=
  answer_up 0 _ _ _ _ _ (answer_do 0 lineC actCu (fun W => ∃ tv jv, HallIs W hb tv jv TC (J ++ packL actCu noB)) hb tv jv TB J w h hg _
    (fun W hW => asked_no _ _ _ _ W words_C (by decide) hW (by kernel_rfl) (by kernel_rfl) (by kernel_rfl)) par_C
    (fun W hW => do_ok hb tv jv TB TC J actCu noB W hW (by unfold ActD.ok actCu; decide) (by decide) hJ (fun W hW => perform_led 179 1 2 hb tv jv TB J actCu noB W hW (strict3 (by decide) (by decide)) ⟨by decide, by decide, by decide, by decide, by decide, by decide⟩ (by decide) (by decide) (by decide) at_cure.1 at_cure.2
      (fun id h1 h2 => by
        replace h1 : 1 ≤ id := h1
        replace h2 : id ≤ 2 := h2
        rcases (by omega : id = 1 ∨ id = 2) with rfl | rfl
        · exact ⟨0, ⟨1, 1⟩, rfl, rfl, rfl⟩
        · exact ⟨1, ⟨2, 1⟩, rfl, rfl, rfl⟩)
      (fun args w => enter_cf (fn := Tryz.f179) (by kernel_rfl) rfl rfl args w) (fun p b o w h1 h2 => cure_yes p actCu noB b o w h1 h2) (by decide)))
    (.inl ⟨rfl, rfl⟩) (fun W W' h j => HallIs.later (w := W) h j))
theorem step_J (hb : Nat) (tv jv : Value) (J : List Int) (w : World) (h : HallIs w hb tv jv TC J) (hJ : J.length ≤ 5000) (hg : Glob hb w) :
    Calls Tryz.prog 20 #[.pointer (some ⟨hb, 0, none⟩), .string lineJ] w fun e w' => e = .returned (.string ⟨#[111, 107]⟩) ∧ ((∃ tv jv, HallIs w' hb tv jv T3 (J ++ packL actJ noB)) ∧ Below hb w w') :=
  answer_up 0 _ _ _ _ _ (answer_do 0 lineJ actJ (fun W => ∃ tv jv, HallIs W hb tv jv T3 (J ++ packL actJ noB)) hb tv jv TC J w h hg _
    (fun W hW => asked_no _ _ _ _ W words_J (by decide) hW (by kernel_rfl) (by kernel_rfl) (by kernel_rfl)) par_J
    (fun W hW => do_ok hb tv jv TC T3 J actJ noB W hW (by unfold ActD.ok actJ; decide) (by decide) hJ (fun W hW => perform_led 180 2 3 hb tv jv TC J actJ noB W hW (strict3 (by decide) (by decide)) ⟨by decide, by decide, by decide, by decide, by decide, by decide⟩ (by decide) (by decide) (by decide) at_judge.1 at_judge.2
      (fun id h1 h2 => by
        replace h1 : 1 ≤ id := h1
        replace h2 : id ≤ 1 := h2
        obtain rfl : id = 1 := by omega
        exact ⟨0, ⟨1, 2⟩, rfl, rfl, rfl⟩)
      (fun args w => enter_cf (fn := Tryz.f180) (by kernel_rfl) rfl rfl args w) (fun p b o w h1 h2 => judge_good p actJ noB b o w rfl h1 h2) (by decide)))
    (.inl ⟨rfl, rfl⟩) (fun W W' h j => HallIs.later (w := W) h j))
theorem step_D (hb : Nat) (tv jv : Value) (J : List Int) (w : World) (h : HallIs w hb tv jv T3 J) (hg : Glob hb w) :
    Calls Tryz.prog 20 #[.pointer (some ⟨hb, 0, none⟩), .string lineD] w fun e w' => e = .returned (.string ⟨#[101, 114, 114, 111, 114, 32, 49, 48, 48]⟩) ∧ ((∃ tv jv, HallIs w' hb tv jv T3 J) ∧ Below hb w w') :=
  answer_up 100 _ _ _ _ _ (answer_do 100 lineD actD (fun W => ∃ tv jv, HallIs W hb tv jv T3 J) hb tv jv T3 J w h hg _
    (fun W hW => asked_no _ _ _ _ W words_D (by decide) hW (by kernel_rfl) (by kernel_rfl) (by kernel_rfl)) par_D
    (fun W hW => (do_err hb tv jv T3 J actD noB 100 W hW (by unfold ActD.ok actD; decide) (by decide) (by decide) (fun W hW => perform_err 179 100 hb tv jv T3 J actD noB W hW (strict3 (by decide) (by decide)) ⟨by decide, by decide, by decide, by decide, by decide, by decide⟩ (by decide) (by decide) (by decide) at_cure.1 at_cure.2 0 ⟨1, 3⟩ ⟨rfl, rfl⟩ (by decide)
      (fun args w => enter_cf (fn := Tryz.f179) (by kernel_rfl) rfl rfl args w) (fun p b o w h1 => cure_no p actD noB b o 3 w h1 (by decide)) (by decide))).mono
      fun e w' ⟨he, j⟩ => ⟨he, ⟨tv, jv, hW.stay j⟩, j.mono (Nat.le_of_lt (blk_lt hW.blk))⟩)
    (.inr ⟨rfl, rfl⟩) (fun W W' h j => HallIs.later (w := W) h j))
theorem awake_any (w : World) (hg : Glob w.heap.size w) : Calls Tryz.prog 7 #[] w fun e w' => e = .returned (.bool true) ∧ Below w.heap.size w w' := by
  have HG := Lib.hid hg
  have HB := Lib.hid (step_B w.heap.size)
  have HC := Lib.hid (step_C w.heap.size)
  have HJJ := Lib.hid (step_J w.heap.size)
  have HD := Lib.hid (step_D w.heap.size)
  have HP1 := Lib.hid (packL_18 actB)
  have HP2 := Lib.hid (packL_18 actCu)
  have HP3 := Lib.hid (packL_18 actJ)
  unfold lineB at HB
  unfold lineC at HC
  unfold lineJ at HJJ
  unfold lineD at HD
  clear hg
  go_enter Tryz.func7, Tryz.ntmps7
  go_wp2_with fail
  refine (new_any w).mono ?_
  rintro e w1 ⟨rfl, h1, j1⟩
  have HJ := Lib.hid j1
  have HH := Lib.hid h1
  clear h1 j1
  go_wp2_with fail
  refine (HB.out _ _ w1 HH.out (HG.out.on HJ.out)).mono ?_
  rintro e w2 ⟨rfl, ⟨tv2, jv2, h2⟩, j2⟩
  replace HJ : Hid (Below w.heap.size w w2) := HJ.out.trans j2
  replace HH := Lib.hid h2
  clear h2 j2 HB
  go_wp2_with fail
  refine (HC.out _ _ _ w2 HH.out (by have := HP1.out; simp; omega) (HG.out.on HJ.out)).mono ?_
  rintro e w3 ⟨rfl, ⟨tv3, jv3, h3⟩, j3⟩
  replace HJ : Hid (Below w.heap.size w w3) := HJ.out.trans j3
  replace HH := Lib.hid h3
  clear h3 j3 HC
  go_wp2_with fail
  refine (HJJ.out _ _ _ w3 HH.out (by have := HP1.out; have := HP2.out; simp; omega) (HG.out.on HJ.out)).mono ?_
  rintro e w4 ⟨rfl, ⟨tv4, jv4, h4⟩, j4⟩
  replace HJ : Hid (Below w.heap.size w w4) := HJ.out.trans j4
  replace HH := Lib.hid h4
  clear h4 j4 HJJ
  go_wp2_with fail
  refine (HD.out _ _ _ w4 HH.out (HG.out.on HJ.out)).mono ?_
  rintro e w5 ⟨rfl, ⟨tv5, jv5, h5⟩, j5⟩
  replace HJ : Hid (Below w.heap.size w w5) := HJ.out.trans j5
  replace HH := Lib.hid h5
  have HA := Lib.hid (answer_up 0 cntB lineN w.heap.size w5 _ (answer_asked lineN cntB w.heap.size w5 (asked_count w.heap.size tv5 jv5 _ w5 h5 (HG.out.on HJ.out).here)))
  unfold lineN cntB at HA
  obtain ⟨jn, hjn⟩ : ∃ q, q = ((([] ++ packL actB noB) ++ packL actCu noB) ++ packL actJ noB : List Int) := ⟨_, rfl⟩
  rw [← hjn] at HH
  have HLN : Hid (40 < jn.length ∧ jn.length ≤ 1000000) := by
    have := HP1.out; have := HP2.out; have := HP3.out
    show _ ∧ _
    rw [hjn]; simp only [List.nil_append, List.length_append]; omega
  clear h5 j5 HD hjn
  go_wp2_with fail
  refine HA.out.mono ?_
  rintro e w6 ⟨rfl, j6⟩
  have HJO := Lib.hid (journal_any w.heap.size tv5 jv5 T3 jn w6 (HH.out.stay j6) HLN.out.2)
  replace HJ := kU HJ j6
  have hgt : (40 : Int) < (jn.length : Int) := by have := HLN.out; omega
  obtain ⟨jm, hjm⟩ : ∃ q, q = jn.length := ⟨_, rfl⟩
  rw [← hjm] at HJO hgt
  clear j6 HA hjm
  go_wp2_with fail
  refine HJO.out.mono ?_
  rintro e w7 ⟨⟨A, c, rfl⟩, j7⟩
  replace HJ := kU HJ j7
  clear j7 HJO
  go_wp2_with fail
  go_ret
  exact ⟨rfl, HJ.out⟩
end Go.Proofs.YtfondpakbiagjaaGreatDoor
