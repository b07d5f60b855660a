/- The library's insertion sort of jobs. -/
import Derived.Test.YtogccnngdfancaaGreatPart08
namespace Go.Proofs.YtogccnngdfancaaGreat
open Go.RowKit
set_option linter.unusedVariables false
set_option linter.unusedSimpArgs false
theorem cmp_b (x y : JobD) {b : Bool} (h : ltJ x y = b) : decide (cmpJ x y < 0) = b := (cmpJ_lt x y).trans h
theorem JRow.below {B g n cap : Nat} {W0 w w' : World} {l : List JobD} (h : JRow B g n cap W0 w l) (hb : Below w.heap.size w w') : JRow B g n cap W0 w' l :=
  h.grow hb (by have := h.hg; omega)
set_option maxRecDepth 100000 in
set_option maxHeartbeats 4000000 in
theorem insert_any (B g n cap : Nat) (A S C : List JobD) (a b : Nat) (W0 w : World) (h : JRow B g n cap W0 w (A ++ S ++ C)) (ha : a = A.length) (hb : b = A.length + S.length) (hn : n ≤ 64) :
    Calls Tryz.prog 109 #[.slice (some ⟨g, 0, none⟩) n cap, .int .i64 (a : Int), .int .i64 (b : Int), .func (.func 51) #[] #[]] w fun e w' => (∃ v, e = .returned v) ∧ ∃ Z, JRow B g n cap W0 w' (A ++ Z ++ C) ∧ Z.Perm S ∧ SortedJ Z := by
  have hlen := h.len
  have hbn : b ≤ n := by simp at hlen; omega
  have hab : a ≤ b := by omega
  have H0 : Hid (∃ Z, Z.Perm (S.take (a + 1 - a)) ∧ SortedJ Z ∧ JRow B g n cap W0 w (A ++ Z ++ (S.drop (a + 1 - a) ++ C))) :=
    ⟨S.take 1, by rw [show a + 1 - a = 1 by omega], by cases S <;> simp [SortedJ], by rw [show a + 1 - a = 1 by omega, show A ++ S.take 1 ++ (S.drop 1 ++ C) = A ++ (S.take 1 ++ S.drop 1) ++ C by simp, List.take_append_drop]; exact h⟩
  have HA := Lib.hid ha
  have HBL : Hid (S.length = b - a) := by show _ = _; omega
  have hai : (0 : Int) ≤ (a : Int) := by omega
  have hai2 : (a : Int) ≤ 64 := by omega
  clear h hlen ha hb
  go_enter Tryz.func109, Tryz.ntmps109
  go_wp2_with fail
  go_loopw [8] (fun iv wr => ∃ (i : Nat), a + 1 ≤ i ∧ (i = a + 1 ∨ i ≤ b) ∧ iv = .int .i64 (i : Int) ∧ ∃ Z, Z.Perm (S.take (i - a)) ∧ SortedJ Z ∧ JRow B g n cap W0 wr (A ++ Z ++ (S.drop (i - a) ++ C))) (fun iv _ => b - (intOf iv).toNat)
  case atStart => exact ⟨a + 1, by omega, .inl rfl, by go_num, H0.out⟩
  case round =>
    clear H0
    obtain ⟨i, hi1, hi2, rfl, Z, hzp, hzs, hrow⟩ := hrel
    have HZP := Lib.hid hzp
    have HZS := Lib.hid hzs
    have HROW := Lib.hid hrow
    clear hzp hzs hrow
    by_cases hlt : i < b
    · have hlti : (i : Int) < (b : Int) := by omega
      obtain ⟨x, hx⟩ : ∃ x, S[i - a]? = some x := ⟨_, List.getElem?_eq_getElem (by have := HBL.out; omega)⟩
      have HIN0 : Hid (InsInv A (Z ++ [x]) (S.drop (i + 1 - a) ++ C) i (A ++ Z ++ x :: (S.drop (i + 1 - a) ++ C))) := InsInv.start HZS.out (by have := HZP.out.length_eq; rw [List.length_take] at this; have := HA.out; have := HBL.out; omega)
      have HRW0 : Hid (JRow B g n cap W0 wr (A ++ Z ++ x :: (S.drop (i + 1 - a) ++ C))) := by
        have := HROW.out
        rw [drop_at hx, show i - a + 1 = i + 1 - a by omega] at this
        exact this
      have HPM : Hid (∀ Z' : List JobD, Z'.Perm (Z ++ [x]) → Z'.Perm (S.take (i + 1 - a))) := fun Z' hp => by
        rw [show i + 1 - a = i - a + 1 by omega, take_succ_at hx]
        exact hp.trans (HZP.out.append_right [x])
      clear hx HROW HZS HZP
      go_wp2_with fail
      go_loopw [9] (fun jv wr' => ∃ (j : Nat) (l : List JobD), a ≤ j ∧ j ≤ i ∧ jv = .int .i64 (j : Int) ∧ InsInv A (Z ++ [x]) (S.drop (i + 1 - a) ++ C) j l ∧ JRow B g n cap W0 wr' l) (fun jv _ => (intOf jv).toNat)
      case atStart => exact ⟨i, _, by omega, Nat.le_refl _, rfl, HIN0.out, HRW0.out⟩
      case round =>
        clear HRW0 HIN0
        obtain ⟨j, l, hj1, hj2, rfl, hin, hrow⟩ := hrel
        have HIN := Lib.hid hin
        have HROW := Lib.hid hrow
        clear hin hrow
        by_cases hja : a < j
        · obtain ⟨j1, hj1e⟩ : ∃ j1, j1 = j - 1 := ⟨_, rfl⟩
          obtain ⟨y, z, hy, hz⟩ := HIN.out.get (by have := HA.out; omega)
          rw [← hj1e] at hz
          have HJ1 := Lib.hid hj1e
          have hjai : (a : Int) < (j : Int) := by omega
          have hjb : decide ((a : Int) < (j : Int)) = true := decide_eq_true hjai
          have hjn : (j : Int) < (n : Int) := by omega
          have hj1n : (j1 : Int) < (n : Int) := by omega
          have hj0 : (0 : Int) ≤ (j : Int) := by omega
          have hj10 : (0 : Int) ≤ (j1 : Int) := by omega
          have hwj : IntKind.i64.wrap ((j : Int) - 1) = (j1 : Int) := by rw [IntWalk.i64_in _ (by omega)]; omega
          have hne : j ≠ j1 := by omega
          have hjnn : j < n := by omega
          have hj1nn : j1 < n := by omega
          have HY := Lib.hid hy
          have HZ := Lib.hid hz
          have HCMP := Lib.hid (sorted1_any y z)
          have HSW : Hid (ltJ y z = true → InsInv A (Z ++ [x]) (S.drop (i + 1 - a) ++ C) j1 ((l.set j z).set j1 y)) := fun hlt' => by
            have := HIN.out.swap (by have := HA.out; omega) HY.out (by have := HZ.out; rwa [HJ1.out] at this) hlt'
            rwa [← HJ1.out] at this
          have HDN : Hid (ltJ y z = false → ∃ Z' : List JobD, l = A ++ Z' ++ (S.drop (i + 1 - a) ++ C) ∧ Z'.Perm (Z ++ [x]) ∧ SortedJ Z') := fun hlt' => HIN.out.done fun x' z' _ hx' hz' => by
            have e1 := hx'.symm.trans HY.out
            rw [← HJ1.out] at hz'
            have e2 := hz'.symm.trans HZ.out
            rw [Option.some.inj e1, Option.some.inj e2]; exact hlt'
          obtain ⟨c, hc⟩ : ∃ c, c = cmpJ y z := ⟨_, rfl⟩
          have HCB := Lib.hid (fun b (h : ltJ y z = b) => cmp_b y z h)
          rw [← hc] at HCMP HCB
          obtain ⟨lt, hltq⟩ : ∃ q, q = ltJ y z := ⟨_, rfl⟩
          rw [← hltq] at HSW HDN HCB
          obtain ⟨yp, yk, ys⟩ := y
          obtain ⟨zp, zk, zs⟩ := z
          simp only [JobV] at HCMP
          have HS : Hid (∀ w', JRow B g n cap W0 w' l → (w'.cell? ⟨g, j * 3, none⟩ = some (.int .i64 yp) ∧ w'.cell? ⟨g, j * 3 + 1, none⟩ = some (.int .i64 yk) ∧ w'.cell? ⟨g, j * 3 + 2, none⟩ = some (.int .i64 ys)) ∧ (w'.cell? ⟨g, j1 * 3, none⟩ = some (.int .i64 zp) ∧ w'.cell? ⟨g, j1 * 3 + 1, none⟩ = some (.int .i64 zk) ∧ w'.cell? ⟨g, j1 * 3 + 2, none⟩ = some (.int .i64 zs))) := fun w' hj => ⟨hj.cell HY.out, hj.cell HZ.out⟩
          clear hy hz hc hltq hj1e HIN
          have HRD : Hid (JRow B g n cap W0 wr.drew l) := HROW.out.drew
          cases lt with
          | true =>
            have hcb := HCB.out true rfl
            go_wp2_with fail
            refine seq_start (S := fun w' => (w'.cell? ⟨g, j * 3, none⟩ = some (.int .i64 yp) ∧ w'.cell? ⟨g, j * 3 + 1, none⟩ = some (.int .i64 yk) ∧ w'.cell? ⟨g, j * 3 + 2, none⟩ = some (.int .i64 ys)) ∧ (w'.cell? ⟨g, j1 * 3, none⟩ = some (.int .i64 zp) ∧ w'.cell? ⟨g, j1 * 3 + 1, none⟩ = some (.int .i64 zk) ∧ w'.cell? ⟨g, j1 * 3 + 2, none⟩ = some (.int .i64 zs))) (by kernel_rfl) (by kernel_rfl) (by exact HS.out _ HRD.out) ?_
            repeat (first
              | (refine seq_take0 (v := ?_) ?_ (fun _ _ _ h => h) (by kernel_rfl) ?_ ?_; rotate_left; (focus rfl); (focus (intro w' hSw; (try dsimp only at hSw); go_simp; (try with_reducible rfl); done)); (try simp only [Act.put, List.setIfInBounds_toArray, List.set_cons_zero, List.set_cons_succ]))
              | (refine seq_takeG (v := ?_) (g := ?_) (d := ?_) (b := ?_) (u := ?_) ?_ ?_ ?_ ?_ (fun _ _ _ h => h) (by kernel_rfl) ?_ ?_; rotate_left 5; (focus rfl); (focus rfl); (focus rfl); (focus (first | rfl | (go_simp; done))); (focus (intro w' hSw; (try dsimp only at hSw); go_simp; (try with_reducible rfl); done)); (try simp only [Act.put, List.setIfInBounds_toArray, List.set_cons_zero, List.set_cons_succ]))
              | (refine seq_skipG (g := ?_) (d := ?_) (b := ?_) (u := ?_) ?_ ?_ ?_ ?_ (fun _ _ _ h => h) (by kernel_rfl) ?_; rotate_left 4; (focus rfl); (focus rfl); (focus rfl); (focus (first | rfl | (go_simp; done))); (try simp only [Act.put, List.setIfInBounds_toArray, List.set_cons_zero, List.set_cons_succ])))
            refine seq_op (by kernel_rfl) (by rfl) (fun K hK => ?_)
            go_simp
            refine (HCMP.out _).mono ?_
            rintro e' w5 ⟨rfl, hb5⟩
            have HR5 := Lib.hid (HRD.out.below hb5)
            clear hb5
            refine hK.out _ _ (HS.out _ HR5.out) ?_
            clear hK K
            repeat (first
              | (refine seq_take0 (v := ?_) ?_ (fun _ _ _ h => h) (by kernel_rfl) ?_ ?_; rotate_left; (focus rfl); (focus (intro w' hSw; (try dsimp only at hSw); go_simp; (try with_reducible rfl); done)); (try simp only [Act.put, List.setIfInBounds_toArray, List.set_cons_zero, List.set_cons_succ]))
              | (refine seq_takeG (v := ?_) (g := ?_) (d := ?_) (b := ?_) (u := ?_) ?_ ?_ ?_ ?_ (fun _ _ _ h => h) (by kernel_rfl) ?_ ?_; rotate_left 5; (focus rfl); (focus rfl); (focus rfl); (focus (first | rfl | (go_simp; done))); (focus (intro w' hSw; (try dsimp only at hSw); go_simp; (try with_reducible rfl); done)); (try simp only [Act.put, List.setIfInBounds_toArray, List.set_cons_zero, List.set_cons_succ]))
              | (refine seq_skipG (g := ?_) (d := ?_) (b := ?_) (u := ?_) ?_ ?_ ?_ ?_ (fun _ _ _ h => h) (by kernel_rfl) ?_; rotate_left 4; (focus rfl); (focus rfl); (focus rfl); (focus (first | rfl | (go_simp; done))); (try simp only [Act.put, List.setIfInBounds_toArray, List.set_cons_zero, List.set_cons_succ])))
            refine seq_done (by kernel_rfl) ?_
            obtain ⟨⟨c0, c1, c2⟩, c3, c4, c5⟩ := HS.out _ HR5.out
            have hfr := HR5.out.frozen
            go_wp2_with fail
            go_region
            all_goals
              have hT := ((HR5.out.put hjnn zp zk zs).put hj1nn yp yk ys).drew
              have HT := Lib.hid hT
              clear hT c0 c1 c2 c3 c4 c5 hfr
              go_wp2_with fail
              go_roundw
              case rel => exact ⟨j1, _, by have := HJ1.out; omega, by have := HJ1.out; omega, rfl, HSW.out trivial, HT.out⟩
              case measure => have := HJ1.out; simp [intOf]; omega
          | false =>
            have hcb := HCB.out false rfl
            go_wp2_with fail
            refine seq_start (S := fun w' => (w'.cell? ⟨g, j * 3, none⟩ = some (.int .i64 yp) ∧ w'.cell? ⟨g, j * 3 + 1, none⟩ = some (.int .i64 yk) ∧ w'.cell? ⟨g, j * 3 + 2, none⟩ = some (.int .i64 ys)) ∧ (w'.cell? ⟨g, j1 * 3, none⟩ = some (.int .i64 zp) ∧ w'.cell? ⟨g, j1 * 3 + 1, none⟩ = some (.int .i64 zk) ∧ w'.cell? ⟨g, j1 * 3 + 2, none⟩ = some (.int .i64 zs))) (by kernel_rfl) (by kernel_rfl) (by exact HS.out _ HRD.out) ?_
            repeat (first
              | (refine seq_take0 (v := ?_) ?_ (fun _ _ _ h => h) (by kernel_rfl) ?_ ?_; rotate_left; (focus rfl); (focus (intro w' hSw; (try dsimp only at hSw); go_simp; (try with_reducible rfl); done)); (try simp only [Act.put, List.setIfInBounds_toArray, List.set_cons_zero, List.set_cons_succ]))
              | (refine seq_takeG (v := ?_) (g := ?_) (d := ?_) (b := ?_) (u := ?_) ?_ ?_ ?_ ?_ (fun _ _ _ h => h) (by kernel_rfl) ?_ ?_; rotate_left 5; (focus rfl); (focus rfl); (focus rfl); (focus (first | rfl | (go_simp; done))); (focus (intro w' hSw; (try dsimp only at hSw); go_simp; (try with_reducible rfl); done)); (try simp only [Act.put, List.setIfInBounds_toArray, List.set_cons_zero, List.set_cons_succ]))
              | (refine seq_skipG (g := ?_) (d := ?_) (b := ?_) (u := ?_) ?_ ?_ ?_ ?_ (fun _ _ _ h => h) (by kernel_rfl) ?_; rotate_left 4; (focus rfl); (focus rfl); (focus rfl); (focus (first | rfl | (go_simp; done))); (try simp only [Act.put, List.setIfInBounds_toArray, List.set_cons_zero, List.set_cons_succ])))
            refine seq_op (by kernel_rfl) (by rfl) (fun K hK => ?_)
            go_simp
            refine (HCMP.out _).mono ?_
            rintro e' w5 ⟨rfl, hb5⟩
            have HR5 := Lib.hid (HRD.out.below hb5)
            clear hb5
            refine hK.out _ _ (HS.out _ HR5.out) ?_
            clear hK K
            repeat (first
              | (refine seq_take0 (v := ?_) ?_ (fun _ _ _ h => h) (by kernel_rfl) ?_ ?_; rotate_left; (focus rfl); (focus (intro w' hSw; (try dsimp only at hSw); go_simp; (try with_reducible rfl); done)); (try simp only [Act.put, List.setIfInBounds_toArray, List.set_cons_zero, List.set_cons_succ]))
              | (refine seq_takeG (v := ?_) (g := ?_) (d := ?_) (b := ?_) (u := ?_) ?_ ?_ ?_ ?_ (fun _ _ _ h => h) (by kernel_rfl) ?_ ?_; rotate_left 5; (focus rfl); (focus rfl); (focus rfl); (focus (first | rfl | (go_simp; done))); (focus (intro w' hSw; (try dsimp only at hSw); go_simp; (try with_reducible rfl); done)); (try simp only [Act.put, List.setIfInBounds_toArray, List.set_cons_zero, List.set_cons_succ]))
              | (refine seq_skipG (g := ?_) (d := ?_) (b := ?_) (u := ?_) ?_ ?_ ?_ ?_ (fun _ _ _ h => h) (by kernel_rfl) ?_; rotate_left 4; (focus rfl); (focus rfl); (focus rfl); (focus (first | rfl | (go_simp; done))); (try simp only [Act.put, List.setIfInBounds_toArray, List.set_cons_zero, List.set_cons_succ])))
            refine seq_done (by kernel_rfl) ?_
            obtain ⟨Z', h1, h2, h3⟩ := HDN.out trivial
            have HR6 : Hid (JRow B g n cap W0 w5 (A ++ Z' ++ (S.drop (i + 1 - a) ++ C))) := by have := HR5.out; rw [h1] at this; exact this
            have HQ2 := Lib.hid (HPM.out Z' h2)
            have HQ3 := Lib.hid h3
            clear h1 h2 h3
            go_wp2_with fail
            go_roundw
            case rel => exact ⟨i + 1, by omega, by omega, by go_num, Z', HQ2.out, HQ3.out, HR6.out⟩
            case measure => simp [intOf]; omega
        · have hje : j = a := by omega
          have hjb : decide ((a : Int) < (j : Int)) = false := decide_eq_false (by omega)
          obtain ⟨Z', h1, h2, h3⟩ := HIN.out.done (fun _ _ hx => absurd hx (by have := HA.out; omega))
          have HR6 : Hid (JRow B g n cap W0 wr.drew (A ++ Z' ++ (S.drop (i + 1 - a) ++ C))) := by have := HROW.out.drew; rw [h1] at this; exact this
          have HQ2 := Lib.hid (HPM.out Z' h2)
          have HQ3 := Lib.hid h3
          clear h1 h2 h3 hje
          go_wp2_with fail
          refine seq_start (S := fun w' => True) (by kernel_rfl) (by kernel_rfl) trivial ?_
          repeat (first
            | (refine seq_take0 (v := ?_) ?_ (fun _ _ _ h => h) (by kernel_rfl) ?_ ?_; rotate_left; (focus rfl); (focus (intro w' hSw; (try dsimp only at hSw); go_simp; (try with_reducible rfl); done)); (try simp only [Act.put, List.setIfInBounds_toArray, List.set_cons_zero, List.set_cons_succ]))
            | (refine seq_takeG (v := ?_) (g := ?_) (d := ?_) (b := ?_) (u := ?_) ?_ ?_ ?_ ?_ (fun _ _ _ h => h) (by kernel_rfl) ?_ ?_; rotate_left 5; (focus rfl); (focus rfl); (focus rfl); (focus (first | rfl | (go_simp; done))); (focus (intro w' hSw; (try dsimp only at hSw); go_simp; (try with_reducible rfl); done)); (try simp only [Act.put, List.setIfInBounds_toArray, List.set_cons_zero, List.set_cons_succ]))
            | (refine seq_skipG (g := ?_) (d := ?_) (b := ?_) (u := ?_) ?_ ?_ ?_ ?_ (fun _ _ _ h => h) (by kernel_rfl) ?_; rotate_left 4; (focus rfl); (focus rfl); (focus rfl); (focus (first | rfl | (go_simp; done))); (try simp only [Act.put, List.setIfInBounds_toArray, List.set_cons_zero, List.set_cons_succ])))
          refine seq_done (by kernel_rfl) ?_
          go_wp2_with fail
          go_roundw
          case rel => exact ⟨i + 1, by omega, by omega, by go_num, Z', HQ2.out, HQ3.out, HR6.out⟩
          case measure => simp [intOf]; omega
    · have hlti : ¬ ((i : Int) < (b : Int)) := by omega
      have HE : Hid (S.take (i - a) = S ∧ S.drop (i - a) = []) := ⟨List.take_of_length_le (by have := HBL.out; omega), List.drop_of_length_le (by have := HBL.out; omega)⟩
      go_wp2_with fail
      go_end0
      exact ⟨⟨_, rfl⟩, Z, by have := HROW.out; rw [HE.out.2] at this; simpa using this, by have := HZP.out; rwa [HE.out.1] at this, HZS.out⟩
end Go.Proofs.YtogccnngdfancaaGreat
