/- The walk of BuildOrders, all inputs. -/
import Derived.Test.YtodckaioeomccaaGreatPart48
import Derived.Test.YtodckaioeomccaaGreatPart12
import Derived.Test.YtodckaioeomccaaGreatPart09
import Derived.Test.YtodckaioeomccaaGreatPart52
namespace Go.Proofs.YtodckaioeomccaaGreat
open Go.RowKit Go.Proofs.OrdS
set_option linter.unusedVariables false
set_option linter.unusedSimpArgs false
theorem enters_law1 : ∀ args w, (callFunc 51 args).run Tryz.prog w = .ok (.enter 51 args) w := enters_of Tryz.func51 (by kernel_rfl) rfl
/-- What the law's last loops look at. -/
structure LawO (w W : World) (gb : Nat) (gv wv : Value) (l : List ByteArray) : Prop where
  box : Boxed W gb 99 gv
  got : RdB W gv l
  want : RdB W wv l
  bel : Below w.heap.size w W
theorem LawO.below {w W W' : World} {gb : Nat} {gv wv : Value} {l : List ByteArray} (h : LawO w W gb gv wv l) (hb : Below W.heap.size W W') : LawO w W' gb gv wv l :=
  ⟨(hb.block gb h.box.lt).trans h.box, h.got.below hb, h.want.below hb, h.bel.trans (hb.mono h.bel.size)⟩
set_option maxRecDepth 100000 in
set_option maxHeartbeats 8000000 in
theorem buildOrders_any (v : Value) (xs : List StepD) (w : World) (h : RdT w v xs) (hwf : ∀ x ∈ xs, StepWf x) :
    Calls Tryz.prog 10 #[v] w fun e w' => e = .returned (.bool true) ∧ Below w.heap.size w w' := by
  have HV := Lib.hid h
  obtain ⟨A, n, cap, rfl, hn, hcap, hmax, hcm, hc⟩ := h.open_
  by_cases h60 : 60 < n
  · have hb : (60 : Int) < (n : Int) := by omega
    clear h hc hn hcm HV hwf
    go_enter Tryz.func10, Tryz.ntmps10
    go_wp2_with fail
    refine (awake_any _).mono ?_
    rintro e w1 ⟨rfl, hbx⟩
    have HB := Lib.hid hbx
    clear hbx
    go_wp2_with fail
    go_ret
    exact ⟨rfl, HB.out⟩
  · have hb : ¬ (60 : Int) < (n : Int) := by omega
    have HC := Lib.hid hc
    have HWF := Lib.hid hwf
    have HN := Lib.hid hn
    clear h hc hn hcm hwf
    go_enter Tryz.func10, Tryz.ntmps10
    go_wp2_with fail
    go_loopw [3, 22] (fun sv iv wr => ∃ (k : Nat) (bx : Value), bx = sv ∧ k ≤ n ∧ iv = .int .i64 (k : Int) ∧ Hid (OwnT w wr bx (xs.take k)) ∧ Hid (Below w.heap.size w wr)) (fun _ iv _ => n - (intOf iv).toNat)
    case atStart => exact ⟨0, _, rfl, Nat.zero_le _, rfl, OwnT.nil _ _, Below.refl _ _⟩
    case round =>
      obtain ⟨k, bx, rfl, hk, rfl, HO, HB⟩ := hrel
      by_cases hlt : k < n
      · obtain ⟨b, off, x, f, rfl, hbw, hx, hcx, hcf, hrf⟩ := HC.out k hlt
        have c1 := (HB.out.cell (p := ⟨b, off + k * 2, none⟩) hbw).trans hcx
        have c2 := (HB.out.cell (p := ⟨b, off + k * 2 + 1, none⟩) hbw).trans hcf
        have HRF := Lib.hid hrf
        obtain ⟨Af, cf, rfl, _⟩ := hrf.at_
        obtain ⟨m, hm⟩ : ∃ m, m = x.after.length := ⟨_, rfl⟩
        rw [← hm] at c2 HRF
        have hBX : Below w.heap.size w (wr.alloc (.cells #[.string x.name, .slice Af m cf] 101)) := HB.out.alloc HB.out.size _
        have HBX := Lib.hid hBX
        have HTK : Hid (xs.take (k + 1) = xs.take k ++ [x]) := take_snoc? hx
        clear hcx hcf hrf hx hbw hm hBX
        by_cases hm60 : 60 < m
        · have hb2 : (60 : Int) < (m : Int) := by omega
          go_wp2_with fail
          refine (awake_any _).mono ?_
          rintro e w1 ⟨rfl, hbx⟩
          have HB1 := Lib.hid (HBX.out.trans (hbx.mono HBX.out.size))
          clear hbx
          go_wp2_with fail
          go_ret
          exact ⟨rfl, HB1.out⟩
        · have hb2 : ¬ (60 : Int) < (m : Int) := by omega
          obtain ⟨A1, ca, e1⟩ := HO.out.slice
          rw [show (xs.take k).length = k by rw [List.length_take, ← HN.out] at *; omega] at e1
          subst e1
          have HOX : Hid (OwnT w (wr.alloc (.cells #[.string x.name, .slice Af m cf] 101)) (.slice A1 k ca) (xs.take k)) := HO.out.stay ((Below.refl _ _).alloc (Nat.le_refl _) _)
          have HL : Hid ((xs.take k).length ≤ 1000) := by show _ ≤ _; rw [List.length_take]; omega
          have HSZ := Lib.hid HBX.out.size
          have HPX : Hid (wr.heap.size + 1 = (wr.alloc (.cells #[.string x.name, .slice Af m cf] 101)).heap.size) := by show _ = _; simp
          have HB2 : Hid (Below w.heap.size w ((wr.alloc (.cells #[.string x.name, .slice Af m cf] 101)).alloc (.cells #[.string x.name, .slice Af m cf] 102))) := HBX.out.alloc HBX.out.size _
          go_wp2_with (at_builtin; refine wpList_pushT rfl _ _ rfl rfl rfl rfl HPX.out HOX.out HL.out HSZ.out HRF.out ?_; intro v2 w2 ho hg; have HO2 := Lib.hid ho; have HB3 := Lib.hid (HB2.out.grown hg HB2.out.size (fun g hg => HOX.out.low g hg)); clear ho hg)
          go_roundw
          case rel => exact ⟨k + 1, v2, rfl, by omega, by go_num, by rw [HTK.out]; exact HO2.out, HB3.out⟩
          case measure => simp [intOf]; omega
      · obtain rfl : n = k := by omega
        have HO1 : Hid (OwnT w wr bx xs) := by
          have := HO.out; rwa [List.take_of_length_le (by rw [HN.out]; exact Nat.le_refl _)] at this
        obtain ⟨A1, ca, rfl⟩ := HO1.out.slice
        have HP := Lib.hid (order_any _ xs wr (HV.out.below HB.out) HWF.out)
        have HLAW := Lib.hid (@ord_law xs)
        obtain ⟨r, hr⟩ : ∃ r, r = (ordE xs).1 := ⟨_, rfl⟩
        obtain ⟨l, hl⟩ : ∃ l, l = (ordE xs).2 := ⟨_, rfl⟩
        have HRO : Hid (∀ w' v', RdT w' v' xs → Calls Tryz.prog 50 #[v'] w' fun e w'' => (∃ v'', e = .returned (.tuple #[v'', .int .i64 r]) ∧ RdB w'' v'' l) ∧ Below w'.heap.size w' w'') := fun w' v' h => by
          rw [hr, hl]; exact rorder_any v' xs w' h
        rw [← hr, ← hl] at HP HLAW
        clear hr hl HO
        go_wp2_with fail
        refine HP.out.mono ?_
        rintro e w1 ⟨⟨gv, rfl, hg⟩, hb1⟩
        obtain ⟨Ag, cg, rfl, -⟩ := hg.at_
        have HG := Lib.hid hg
        have HB1 := Lib.hid (HB.out.trans (hb1.mono HB.out.size))
        have hbA : Below w1.heap.size w1 (w1.alloc (.cells #[.slice Ag l.length cg] 99)) := (Below.refl _ _).alloc (Nat.le_refl _) _
        have HBA := Lib.hid hbA
        have HOA := Lib.hid ((HO1.out.stay hb1).stay hbA)
        have HBB := Lib.hid (HB1.out.trans (hbA.mono HB1.out.size))
        have HRR := Lib.hid (HRO.out _ _ (HOA.out.rd HBB.out))
        have HGB : Hid (Boxed (w1.alloc (.cells #[.slice Ag l.length cg] 99)) w1.heap.size 99 (.slice Ag l.length cg)) := Boxed.new _ _ _
        have HLE : Hid (w.heap.size ≤ w1.heap.size) := HB1.out.size
        clear hg hb1 hbA HP HRO HO1 HB
        obtain ⟨gb, hgb⟩ : ∃ gb, gb = w1.heap.size := ⟨_, rfl⟩
        go_wp2_with fail
        refine HRR.out.mono ?_
        rintro e w2 ⟨⟨wv, rfl, hw⟩, hb2⟩
        obtain ⟨Aw, cw, rfl, -⟩ := hw.at_
        have HBB2 := Lib.hid (HBB.out.trans (hb2.mono HBB.out.size))
        have HGB2 : Hid (Boxed w2 w1.heap.size 99 (.slice Ag l.length cg)) := (hb2.block _ HGB.out.lt).trans HGB.out
        have HG2 := Lib.hid ((HG.out.below HBA.out).below hb2)
        have HW2 := Lib.hid hw
        clear hw hb2 HRR HG HOA HBA HBB HGB HB1
        rw [← hgb] at HGB2 HLE ⊢
        have cb := HGB2.out.cell
        obtain ⟨L, hL⟩ : ∃ L, L = l.length := ⟨_, rfl⟩
        rw [← hL] at cb HGB2 HG2 HW2 ⊢
        have HLL := Lib.hid hL
        clear hgb hL
        have HLO : Hid (LawO w w2 gb (.slice Ag L cg) (.slice Aw L cw) l) := ⟨HGB2.out, HG2.out, HW2.out, HBB2.out⟩
        clear HGB2 HG2 HW2 HBB2 HLE
        go_wp2_with fail
        clear cb
        go_loopw [63] (fun iv wr => ∃ (i : Nat), i ≤ L ∧ iv = .int .i64 (i : Int) ∧ Hid (LawO w wr gb (.slice Ag L cg) (.slice Aw L cw) l)) (fun iv _ => L - (intOf iv).toNat)
        case atStart => exact ⟨0, Nat.zero_le _, rfl, HLO.out⟩
        case round =>
          clear HLO
          obtain ⟨i, hi, rfl, HLO⟩ := hrel
          by_cases hlt : i < L
          · obtain ⟨A3, c3, e3, hl3, hm3, _, hc3⟩ := HLO.out.got.at_
            obtain ⟨A4, c4, e4, hl4, hm4, _, hc4⟩ := HLO.out.want.at_
            rw [← HLL.out] at hc3 hc4 hl3 hl4 hm3 e3 e4
            injection e3 with e3 _ e3c
            injection e4 with e4 _ e4c
            subst e3 e3c e4 e4c
            obtain ⟨b, off, u, rfl, hbw, hu, hcu⟩ := hc3 i hlt
            obtain ⟨b', off', u', rfl, hbw', hu', hcu'⟩ := hc4 i hlt
            obtain rfl := Option.some.inj (hu.symm.trans hu')
            have hue : (u.toList == u.toList) = true := by simp
            have hwi : IntKind.i64.wrap (i : Int) = (i : Int) := IntWalk.i64_in _ (by omega)
            have HCU := Lib.hid hcu
            have HCU' := Lib.hid hcu'
            have HLD := Lib.hid (HLO.out.below ((Below.refl _ _).drew))
            clear hc3 hc4 hu hu' hbw hbw' hcu hcu'
            go_wp2_with fail
            refine seq_start (S := fun w' => w'.cell? ⟨gb, 0, none⟩ = some (.slice (some ⟨b, off, none⟩) L cg) ∧ w'.cell? ⟨b, off + i, none⟩ = some (.string u) ∧ w'.cell? ⟨b', off' + i, none⟩ = some (.string u)) (by kernel_rfl) (by kernel_rfl) (by exact ⟨HLO.out.box.cell, HCU.out, HCU'.out⟩) ?_
            repeat (first
              | (refine seq_take0 (v := ?_) ?_ (fun _ _ _ h => h) (by kernel_rfl) ?_ ?_; rotate_left; (focus rfl); (focus (intro w' hSw; (try dsimp only at hSw); go_simp; (try with_reducible rfl); done)); (try simp only [Act.put, List.setIfInBounds_toArray, List.set_cons_zero, List.set_cons_succ]))
              | (refine seq_takeG (v := ?_) (g := ?_) (d := ?_) (b := ?_) (u := ?_) ?_ ?_ ?_ ?_ (fun _ _ _ h => h) (by kernel_rfl) ?_ ?_; rotate_left 5; (focus rfl); (focus rfl); (focus rfl); (focus (first | rfl | (go_simp; done))); (focus (intro w' hSw; (try dsimp only at hSw); go_simp; (try with_reducible rfl); done)); (try simp only [Act.put, List.setIfInBounds_toArray, List.set_cons_zero, List.set_cons_succ]))
              | (refine seq_skipG (g := ?_) (d := ?_) (b := ?_) (u := ?_) ?_ ?_ ?_ ?_ (fun _ _ _ h => h) (by kernel_rfl) ?_; rotate_left 4; (focus rfl); (focus rfl); (focus rfl); (focus (first | rfl | (go_simp; done))); (try simp only [Act.put, List.setIfInBounds_toArray, List.set_cons_zero, List.set_cons_succ])))
            refine seq_done (by kernel_rfl) ?_
            go_wp2_with fail
            go_roundw
            case rel => exact ⟨i + 1, by omega, by go_num, HLD.out⟩
            case measure => simp [intOf]; omega
          · obtain rfl : L = i := by omega
            go_wp2_with fail
            go_loopw [78] (fun iv wr => ∃ (k : Nat), k ≤ n ∧ iv = .int .i64 (k : Int) ∧ Hid (LawO w wr gb (.slice Ag L cg) (.slice Aw L cw) l)) (fun iv _ => n - (intOf iv).toNat)
            case atStart => exact ⟨0, Nat.zero_le _, rfl, HLO.out⟩
            case round =>
              clear HLO
              obtain ⟨k, hk, rfl, HLO⟩ := hrel
              by_cases hlt : k < n
              · obtain ⟨b, off, x, f, rfl, hbw, hx, hcx, hcf, hrf⟩ := HC.out k hlt
                have c1 := (HLO.out.bel.cell (p := ⟨b, off + k * 2, none⟩) hbw).trans hcx
                have c2 := (HLO.out.bel.cell (p := ⟨b, off + k * 2 + 1, none⟩) hbw).trans hcf
                have HXX := Lib.hid hx
                have hrf1 := hrf.below HLO.out.bel
                obtain ⟨Af, cf, rfl, hf1, hf2, hf3, hfc⟩ := hrf1.at_
                have HFC := Lib.hid hfc
                obtain ⟨m, hm⟩ : ∃ m, m = x.after.length := ⟨_, rfl⟩
                rw [← hm] at c2 HFC hf1 hf2
                have HM := Lib.hid hm
                obtain ⟨wq, hwq⟩ : ∃ wq, wq = wr.alloc (.cells #[.string x.name, .slice Af m cf] 101) := ⟨_, rfl⟩
                obtain ⟨xb, hxb⟩ : ∃ xb, xb = wr.heap.size := ⟨_, rfl⟩
                have hbq : Below wr.heap.size wr wq := by rw [hwq]; exact (Below.refl _ _).alloc (Nat.le_refl _) _
                have HBQ := Lib.hid hbq
                have HLQ := Lib.hid (HLO.out.below hbq)
                have HXB : Hid (wq.cell? ⟨xb, 0, none⟩ = some (.string x.name)) := by show _ = _; rw [hwq, hxb]; simp
                have c5 : wq.cell? ⟨xb, 1, none⟩ = some (.slice Af m cf) := by rw [hwq, hxb]; simp
                have HWQ := Lib.hid hwq
                have HXQ := Lib.hid hxb
                clear hcx hcf hrf hrf1 hx hbw hm hf3 hfc hbq hwq hxb
                go_wp2_with fail
                rw [← HXQ.out, ← HWQ.out]
                clear HXQ HWQ c5 c1 c2
                go_loopw [85] (fun iv wr => ∃ (q : Nat), q ≤ m ∧ iv = .int .i64 (q : Int) ∧ Hid (Below wq.heap.size wq wr)) (fun iv _ => m - (intOf iv).toNat)
                case atStart => exact ⟨0, Nat.zero_le _, rfl, Below.refl _ _⟩
                case round =>
                  obtain ⟨q, hq, rfl, HB⟩ := hrel
                  have HLR := Lib.hid (HLQ.out.below HB.out)
                  by_cases hqm : q < m
                  · obtain ⟨b2, off2, y, rfl, hb2w, hy, hcy⟩ := HFC.out q hqm
                    have hcy1 := ((HBQ.out.trans (HB.out.mono HBQ.out.size)).cell (p := ⟨b2, off2 + q, none⟩) hb2w).trans hcy
                    have HYY := Lib.hid hy
                    have HBR : Hid (Below wq.heap.size wq wr.drew) := HB.out.drew
                    have HAT : Hid (∀ nm, Calls Tryz.prog 51 #[.string nm, .pointer (some ⟨gb, 0, none⟩)] wr.drew fun e w' => e = .returned (.int .i64 (atI l nm)) ∧ w' = wr.drew) := fun nm =>
                      at_any _ l nm gb _ (HLR.out.below ((Below.refl _ _).drew)).got (HLR.out.below ((Below.refl _ _).drew)).box.cell
                    have HCN : Hid (wr.cell? ⟨xb, 0, none⟩ = some (.string x.name)) := (HB.out.cell (p := ⟨xb, 0, none⟩) (World.block_lt_of_cell? wq ⟨xb, _, none⟩ HXB.out)).trans HXB.out
                    have eg := enters_law1
                    clear hcy hy hb2w
                    by_cases hr : r = 0
                    · have HLW := HLAW.out hr x (List.mem_of_getElem? HXX.out) y (List.mem_of_getElem? HYY.out)
                      have HA1 := Lib.hid (HAT.out y)
                      have HA2 := Lib.hid (HAT.out x.name)
                      obtain ⟨p, hp⟩ : ∃ p : Nat, (p : Int) = atI l y := ⟨(atI l y).toNat, by omega⟩
                      obtain ⟨s, hs⟩ : ∃ s : Nat, (s : Int) = atI l x.name := ⟨(atI l x.name).toNat, by omega⟩
                      rw [← hp] at HA1 HLW
                      rw [← hs] at HA2 HLW
                      have hps : p < s := by omega
                      have hn1 : ¬ (p : Int) < 0 := by omega
                      have hn2 : ¬ (s : Int) ≤ (p : Int) := by omega
                      have hn3 : ¬ s ≤ p := by omega
                      have hd1 : decide ((p : Int) < 0) = false := decide_eq_false hn1
                      have hd2 : decide ((s : Int) ≤ (p : Int)) = false := decide_eq_false hn2
                      have hd3 : decide (s ≤ p) = false := decide_eq_false hn3
                      subst hr
                      clear hp hs HLW HAT hps
                      go_wp2_with fail
                      clear hcy1
                      refine seq_start (S := fun w' => w'.cell? ⟨xb, 0, none⟩ = some (.string x.name)) (by kernel_rfl) (by kernel_rfl) (by exact HCN.out) ?_
                      repeat (first
                        | (refine seq_take0 (v := ?_) ?_ (fun _ _ _ h => h) (by kernel_rfl) ?_ ?_; rotate_left; (focus rfl); (focus (intro w' hSw; (try dsimp only at hSw); go_simp; (try with_reducible rfl); done)); (try simp only [Act.put, List.setIfInBounds_toArray, List.set_cons_zero, List.set_cons_succ]))
                        | (refine seq_takeG (v := ?_) (g := ?_) (d := ?_) (b := ?_) (u := ?_) ?_ ?_ ?_ ?_ (fun _ _ _ h => h) (by kernel_rfl) ?_ ?_; rotate_left 5; (focus rfl); (focus rfl); (focus rfl); (focus (first | rfl | (go_simp; done))); (focus (intro w' hSw; (try dsimp only at hSw); go_simp; (try with_reducible rfl); done)); (try simp only [Act.put, List.setIfInBounds_toArray, List.set_cons_zero, List.set_cons_succ]))
                        | (refine seq_skipG (g := ?_) (d := ?_) (b := ?_) (u := ?_) ?_ ?_ ?_ ?_ (fun _ _ _ h => h) (by kernel_rfl) ?_; rotate_left 4; (focus rfl); (focus rfl); (focus rfl); (focus (first | rfl | (go_simp; done))); (try simp only [Act.put, List.setIfInBounds_toArray, List.set_cons_zero, List.set_cons_succ])))
                      refine seq_op (by kernel_rfl) (by rfl) (fun K9 hK9 => ?_)
                      go_simp
                      refine HA1.out.mono ?_
                      rintro e w5 ⟨rfl, hwx⟩
                      obtain rfl := hwx.symm
                      refine hK9.out _ _ (by exact HCN.out) ?_
                      clear hK9 K9
                      (try simp only [Act.put, List.setIfInBounds_toArray, List.set_cons_zero, List.set_cons_succ])
                      repeat (first
                        | (refine seq_take0 (v := ?_) ?_ (fun _ _ _ h => h) (by kernel_rfl) ?_ ?_; rotate_left; (focus rfl); (focus (intro w' hSw; (try dsimp only at hSw); go_simp; (try with_reducible rfl); done)); (try simp only [Act.put, List.setIfInBounds_toArray, List.set_cons_zero, List.set_cons_succ]))
                        | (refine seq_takeG (v := ?_) (g := ?_) (d := ?_) (b := ?_) (u := ?_) ?_ ?_ ?_ ?_ (fun _ _ _ h => h) (by kernel_rfl) ?_ ?_; rotate_left 5; (focus rfl); (focus rfl); (focus rfl); (focus (first | rfl | (go_simp; done))); (focus (intro w' hSw; (try dsimp only at hSw); go_simp; (try with_reducible rfl); done)); (try simp only [Act.put, List.setIfInBounds_toArray, List.set_cons_zero, List.set_cons_succ]))
                        | (refine seq_skipG (g := ?_) (d := ?_) (b := ?_) (u := ?_) ?_ ?_ ?_ ?_ (fun _ _ _ h => h) (by kernel_rfl) ?_; rotate_left 4; (focus rfl); (focus rfl); (focus rfl); (focus (first | rfl | (go_simp; done))); (try simp only [Act.put, List.setIfInBounds_toArray, List.set_cons_zero, List.set_cons_succ])))
                      repeat (refine seq_swap ?_; first
                        | (refine seq_take0 (v := ?_) ?_ (fun _ _ _ h => h) (by kernel_rfl) ?_ ?_; rotate_left; (focus rfl); (focus (intro w' hSw; (try dsimp only at hSw); go_simp; (try with_reducible rfl); done)); (try simp only [Act.put, List.setIfInBounds_toArray, List.set_cons_zero, List.set_cons_succ]))
                        | (refine seq_takeG (v := ?_) (g := ?_) (d := ?_) (b := ?_) (u := ?_) ?_ ?_ ?_ ?_ (fun _ _ _ h => h) (by kernel_rfl) ?_ ?_; rotate_left 5; (focus rfl); (focus rfl); (focus rfl); (focus (first | rfl | (go_simp; done))); (focus (intro w' hSw; (try dsimp only at hSw); go_simp; (try with_reducible rfl); done)); (try simp only [Act.put, List.setIfInBounds_toArray, List.set_cons_zero, List.set_cons_succ]))
                        | (refine seq_skipG (g := ?_) (d := ?_) (b := ?_) (u := ?_) ?_ ?_ ?_ ?_ (fun _ _ _ h => h) (by kernel_rfl) ?_; rotate_left 4; (focus rfl); (focus rfl); (focus rfl); (focus (first | rfl | (go_simp; done))); (try simp only [Act.put, List.setIfInBounds_toArray, List.set_cons_zero, List.set_cons_succ])))
                      refine seq_op (by kernel_rfl) (by rfl) (fun K9 hK9 => ?_)
                      go_simp
                      refine HA1.out.mono ?_
                      rintro e w5 ⟨rfl, hwx⟩
                      obtain rfl := hwx.symm
                      refine hK9.out _ _ (by exact HCN.out) ?_
                      clear hK9 K9
                      (try simp only [Act.put, List.setIfInBounds_toArray, List.set_cons_zero, List.set_cons_succ])
                      repeat (first
                        | (refine seq_take0 (v := ?_) ?_ (fun _ _ _ h => h) (by kernel_rfl) ?_ ?_; rotate_left; (focus rfl); (focus (intro w' hSw; (try dsimp only at hSw); go_simp; (try with_reducible rfl); done)); (try simp only [Act.put, List.setIfInBounds_toArray, List.set_cons_zero, List.set_cons_succ]))
                        | (refine seq_takeG (v := ?_) (g := ?_) (d := ?_) (b := ?_) (u := ?_) ?_ ?_ ?_ ?_ (fun _ _ _ h => h) (by kernel_rfl) ?_ ?_; rotate_left 5; (focus rfl); (focus rfl); (focus rfl); (focus (first | rfl | (go_simp; done))); (focus (intro w' hSw; (try dsimp only at hSw); go_simp; (try with_reducible rfl); done)); (try simp only [Act.put, List.setIfInBounds_toArray, List.set_cons_zero, List.set_cons_succ]))
                        | (refine seq_skipG (g := ?_) (d := ?_) (b := ?_) (u := ?_) ?_ ?_ ?_ ?_ (fun _ _ _ h => h) (by kernel_rfl) ?_; rotate_left 4; (focus rfl); (focus rfl); (focus rfl); (focus (first | rfl | (go_simp; done))); (try simp only [Act.put, List.setIfInBounds_toArray, List.set_cons_zero, List.set_cons_succ])))
                      refine seq_op (by kernel_rfl) (by rfl) (fun K9 hK9 => ?_)
                      go_simp
                      refine HA2.out.mono ?_
                      rintro e w5 ⟨rfl, hwx⟩
                      obtain rfl := hwx.symm
                      refine hK9.out _ _ (by exact HCN.out) ?_
                      clear hK9 K9
                      (try simp only [Act.put, List.setIfInBounds_toArray, List.set_cons_zero, List.set_cons_succ])
                      repeat (first
                        | (refine seq_take0 (v := ?_) ?_ (fun _ _ _ h => h) (by kernel_rfl) ?_ ?_; rotate_left; (focus rfl); (focus (intro w' hSw; (try dsimp only at hSw); go_simp; (try with_reducible rfl); done)); (try simp only [Act.put, List.setIfInBounds_toArray, List.set_cons_zero, List.set_cons_succ]))
                        | (refine seq_takeG (v := ?_) (g := ?_) (d := ?_) (b := ?_) (u := ?_) ?_ ?_ ?_ ?_ (fun _ _ _ h => h) (by kernel_rfl) ?_ ?_; rotate_left 5; (focus rfl); (focus rfl); (focus rfl); (focus (first | rfl | (go_simp; done))); (focus (intro w' hSw; (try dsimp only at hSw); go_simp; (try with_reducible rfl); done)); (try simp only [Act.put, List.setIfInBounds_toArray, List.set_cons_zero, List.set_cons_succ]))
                        | (refine seq_skipG (g := ?_) (d := ?_) (b := ?_) (u := ?_) ?_ ?_ ?_ ?_ (fun _ _ _ h => h) (by kernel_rfl) ?_; rotate_left 4; (focus rfl); (focus rfl); (focus rfl); (focus (first | rfl | (go_simp; done))); (try simp only [Act.put, List.setIfInBounds_toArray, List.set_cons_zero, List.set_cons_succ])))
                      refine seq_done (by kernel_rfl) ?_
                      go_wp2_with fail
                      go_roundw
                      case rel => exact ⟨q + 1, by omega, by go_num, HBR.out⟩
                      case measure => simp [intOf]; omega
                    · have hr0 : (r == 0) = false := beq_false_of_ne hr
                      have hr1 : decide (r = 0) = false := decide_eq_false hr
                      go_wp2_with fail
                      clear hcy1
                      refine seq_start (S := fun w' => w'.cell? ⟨xb, 0, none⟩ = some (.string x.name)) (by kernel_rfl) (by kernel_rfl) (by exact HCN.out) ?_
                      repeat (first
                        | (refine seq_take0 (v := ?_) ?_ (fun _ _ _ h => h) (by kernel_rfl) ?_ ?_; rotate_left; (focus rfl); (focus (intro w' hSw; (try dsimp only at hSw); go_simp; (try with_reducible rfl); done)); (try simp only [Act.put, List.setIfInBounds_toArray, List.set_cons_zero, List.set_cons_succ]))
                        | (refine seq_takeG (v := ?_) (g := ?_) (d := ?_) (b := ?_) (u := ?_) ?_ ?_ ?_ ?_ (fun _ _ _ h => h) (by kernel_rfl) ?_ ?_; rotate_left 5; (focus rfl); (focus rfl); (focus rfl); (focus (first | rfl | (go_simp; done))); (focus (intro w' hSw; (try dsimp only at hSw); go_simp; (try with_reducible rfl); done)); (try simp only [Act.put, List.setIfInBounds_toArray, List.set_cons_zero, List.set_cons_succ]))
                        | (refine seq_skipG (g := ?_) (d := ?_) (b := ?_) (u := ?_) ?_ ?_ ?_ ?_ (fun _ _ _ h => h) (by kernel_rfl) ?_; rotate_left 4; (focus rfl); (focus rfl); (focus rfl); (focus (first | rfl | (go_simp; done))); (try simp only [Act.put, List.setIfInBounds_toArray, List.set_cons_zero, List.set_cons_succ])))
                      refine seq_done (by kernel_rfl) ?_
                      go_wp2_with fail
                      go_roundw
                      case rel => exact ⟨q + 1, by omega, by go_num, HBR.out⟩
                      case measure => simp [intOf]; omega
                  · obtain rfl : m = q := by omega
                    go_wp2_with fail
                    go_roundw
                    case rel => exact ⟨k + 1, by omega, by go_num, HLR.out⟩
                    case measure => simp [intOf]; omega
              · obtain rfl : n = k := by omega
                go_wp2_with fail
                refine (awake_any _).mono ?_
                rintro e w9 ⟨rfl, hbx⟩
                have HB9 := Lib.hid (HLO.out.bel.trans (hbx.mono HLO.out.bel.size))
                clear hbx
                go_wp2_with fail
                go_ret
                exact ⟨rfl, HB9.out⟩
end Go.Proofs.YtodckaioeomccaaGreat
