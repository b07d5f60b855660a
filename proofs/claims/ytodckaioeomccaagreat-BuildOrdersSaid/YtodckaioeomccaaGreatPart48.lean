/- The walk of the program's Order. -/
import Derived.Test.YtodckaioeomccaaGreatPart10
import Derived.Test.YtodckaioeomccaaGreatPart44
import Derived.Laws.EntriesVeiled
namespace Go.Proofs.YtodckaioeomccaaGreat
open Go.RowKit Go.Proofs.OrdS
set_option linter.unusedVariables false
set_option linter.unusedSimpArgs false
theorem has_snoc (l : List ByteArray) (n : ByteArray) : (fun t => decide (t = n) || has l t) = has (l ++ [n]) := by
  funext t
  unfold has
  rw [List.any_append]
  simp only [List.any_cons, List.any_nil, Bool.or_false]
  rw [Bool.or_comm]
  congr 1
  rw [Bool.eq_iff_iff, decide_eq_true_iff, decide_eq_true_iff]
  exact ⟨fun h => h.symm, fun h => h.symm⟩
theorem find_goO {xs : List StepD} {out : List ByteArray} {k : Nat} {x : StepD} (h : xs.find? (readyB out) = some x) : goO xs (k + 1) out = goO xs k (out ++ [x.name]) := by
  simp only [goO, h]
theorem find_goN {xs : List StepD} {out : List ByteArray} {k : Nat} (h : xs.find? (readyB out) = none) : goO xs (k + 1) out = none := by
  simp only [goO, h]
/-- What the rounds leave: the names that are done, in their own row behind the box. -/
structure OutIs (w W : World) (ob : Nat) (v : Value) (out : List ByteArray) : Prop where
  own : OwnB W (ob + 2) v out
  box : Boxed W ob 99 v
  fn : Boxed W (ob + 1) 221 (.func (.func 139) #[] #[.pointer (some ⟨ob, 0, none⟩)])
  bel : Below w.heap.size w W
  le : w.heap.size ≤ ob
theorem OutIs.below {w W W' : World} {ob : Nat} {v : Value} {out : List ByteArray} (h : OutIs w W ob v out) (hb : Below W.heap.size W W') : OutIs w W' ob v out :=
  ⟨World.ownsRow.kept (row := none) h.own ⟨hb.os, hb.tape, hb.output, hb.size, fun j hj _ => hb.block j hj⟩ (by cases hv : v.ownBlock <;> simp), (hb.block ob h.box.lt).trans h.box, (hb.block _ h.fn.lt).trans h.fn, h.bel.trans (hb.mono h.bel.size), h.le⟩
theorem OutIs.push {w W W' : World} {ob : Nat} {v v' : Value} {out : List ByteArray} {y : ByteArray} (h : OutIs w W ob v out) (hg : W.grownBy W' v.ownBlock) (ho : OwnB W' (ob + 2) v' (out ++ [y])) : OutIs w (W'.setCell ⟨ob, 0, none⟩ v') ob v' (out ++ [y]) := by
  have hne : ∀ k, k < ob + 2 → some k ≠ v.ownBlock := fun k hk e => by have := (World.ownsRow.lt h.own k e.symm).1; omega
  have hs := set1_grown W' ob 0 v'
  have hb2 : Boxed W' ob 99 v := h.box.kept hg (hne _ (by omega))
  refine ⟨World.ownsRow.kept ho hs (.inr fun e => by have := (World.ownsRow.lt ho ob e).1; omega), hb2.set v', (h.fn.kept hg (hne _ (by omega))).other (by omega) v', ?_, h.le⟩
  exact (h.bel.grown hg h.bel.size (fun g hg' => by have := (World.ownsRow.lt h.own g hg').1; have := h.le; omega)).setCell (p := ⟨ob, 0, none⟩) h.le v'
set_option maxRecDepth 100000 in
set_option maxHeartbeats 8000000 in
theorem order_any (v : Value) (xs : List StepD) (w : World) (h : RdT w v xs) (hwf : ∀ x ∈ xs, StepWf x) :
    Calls Tryz.prog 49 #[v] w fun e w' => (∃ v', e = .returned (.tuple #[v', .int .i64 (ordE xs).1]) ∧ RdB w' v' (ordE xs).2) ∧ Below w.heap.size w w' := by
  have HV := Lib.hid h
  obtain ⟨A, n, cap, rfl, hn, hcap, hmax, hcm, hc⟩ := h.open_
  by_cases h32 : 32 < n
  · have hb : (32 : Int) < (n : Int) := by omega
    have HE : Hid (ordE xs = (4, [])) := by show _ = _; unfold ordE; rw [if_pos (by omega)]
    rw [HE.out]
    clear h hc hn hcm HE
    go_enter Tryz.func49, Tryz.ntmps49
    go_wp2_with fail
    go_ret2
    exact ⟨⟨_, rfl, Rd.none_ _ _ _⟩, Below.refl _ _⟩
  · have hb : ¬ (32 : Int) < (n : Int) := by omega
    have HC := Lib.hid hc
    have HWF := Lib.hid hwf
    have HNS := Lib.hid (fun k x hx => @nameE_step xs k x hx)
    have HNT := Lib.hid (fun k x hx => @names_take xs k x hx)
    have HN := Lib.hid hn
    have HE0 : Hid (∀ e, nameE [] xs = e → e ≠ 0 → ordE xs = (e, [])) := fun e he hne => by unfold ordE; rw [if_neg (by omega), if_pos (by rw [he]; exact hne), he]
    clear h hc hn hcm hwf
    have s1 : (w.alloc (.map #[] 0)).heap.size = w.heap.size + 1 := by simp
    have HS0 : Hid (SetIs ((w.alloc (.map #[] 0)).alloc (.cells #[.map (some w.heap.size)] 220)) w.heap.size 0 (has [])) := (SetIs.made w).same (by rw [Below.heap_alloc _ _ _ (by omega)])
    have HM0 : Hid (Boxed ((w.alloc (.map #[] 0)).alloc (.cells #[.map (some w.heap.size)] 220)) (w.heap.size + 1) 220 (.map (some w.heap.size))) := by
      have := Boxed.new (w.alloc (.map #[] 0)) 220 (.map (some w.heap.size))
      rw [s1] at this; exact this
    have HB0 : Hid (Below w.heap.size w ((w.alloc (.map #[] 0)).alloc (.cells #[.map (some w.heap.size)] 220))) := ((Below.refl _ _).alloc (Nat.le_refl _) _).alloc (by omega) _
    clear s1
    have hmm := @run_makeMap Tryz.prog
    go_enter Tryz.func49, Tryz.ntmps49
    go_wp2_with fail
    clear hmm
    go_loopw [19] (fun iv wr => ∃ (k : Nat), k ≤ n ∧ iv = .int .i64 (k : Int) ∧ Hid (SetIs wr w.heap.size k (has (names (xs.take k)))) ∧ Hid (Boxed wr (w.heap.size + 1) 220 (.map (some w.heap.size))) ∧ Hid (nameE [] xs = nameE (names (xs.take k)) (xs.drop k)) ∧ Hid (Below w.heap.size w wr)) (fun iv _ => n - (intOf iv).toNat)
    case atStart => exact ⟨0, Nat.zero_le _, rfl, HS0.out, HM0.out, rfl, HB0.out⟩
    case round =>
      clear HS0 HM0 HB0
      obtain ⟨k, hk, rfl, HS, HM, HNE, HB⟩ := hrel
      have cb := HM.out.cell
      by_cases hlt : k < n
      · obtain ⟨b, off, x, f, rfl, hbw, hx, hcx, hcf, hrf⟩ := HC.out k hlt
        have c1 := (HB.out.cell (p := ⟨b, off + k * 2, none⟩) hbw).trans hcx
        have c2 := (HB.out.cell (p := ⟨b, off + k * 2 + 1, none⟩) hbw).trans hcf
        have HST := Lib.hid (HNS.out k x hx)
        have HXX := Lib.hid hx
        obtain ⟨Af, cf, rfl, _⟩ := hrf.at_
        have HX1 := Lib.hid (HWF.out x (List.mem_of_getElem? hx)).name
        have hee := strEq x.name ⟨#[]⟩
        by_cases h0 : x.name.size = 0
        · have hq : x.name = ⟨#[]⟩ := by
            cases hxn : x.name with | mk a => rw [hxn] at h0; congr 1; exact Array.size_eq_zero_iff.1 h0
          have HR : Hid (ordE xs = (1, [])) := HE0.out 1 (by rw [HNE.out, HST.out, if_pos h0]) (by decide)
          rw [hq] at c1
          have HBX : Hid (Below w.heap.size w (wr.alloc (.cells #[.string ⟨#[]⟩, .slice Af x.after.length cf] 101))) := HB.out.alloc HB.out.size _
          clear hee h0 hcx hcf hrf hx hbw hq HX1
          clear HNS HNT HST
          go_wp2_with fail
          go_ret2
          rw [HR.out]
          exact ⟨⟨_, rfl, Rd.none_ _ _ _⟩, HBX.out⟩
        · have hq : ¬ x.name = ⟨#[]⟩ := fun e => h0 (by rw [e]; rfl)
          rw [decide_eq_false hq] at hee
          have he1 : (x.name.toList == []) = false := by
            have e0 : (⟨#[]⟩ : ByteArray).toList = [] := by rw [Lib.toList_data]
            rw [← e0]; exact hee
          have he2 : ¬ x.name.toList = [] := fun e => by rw [e] at he1; cases he1
          rw [if_neg h0] at HST
          have HSA : Hid (SetIs (wr.alloc (.cells #[.string x.name, .slice Af x.after.length cf] 101)) w.heap.size k (has (names (xs.take k)))) := HS.out.same (Below.heap_alloc _ _ _ HS.out.lt)
          have HMA := Lib.hid (HM.out.alloc (.cells #[.string x.name, .slice Af x.after.length cf] 101))
          have HBA : Hid (Below w.heap.size w (wr.alloc (.cells #[.string x.name, .slice Af x.after.length cf] 101))) := HB.out.alloc HB.out.size _
          have hlk := HSA.out.look HX1.out
          have cb2 := HMA.out.cell
          clear cb
          obtain ⟨hs, hhs⟩ : ∃ z, z = has (names (xs.take k)) x.name := ⟨_, rfl⟩
          rw [← hhs] at hlk HST
          clear h0 hcx hcf hrf hx hbw hq hee hhs
          cases hs with
          | true =>
            have HR : Hid (ordE xs = (8, [])) := HE0.out 8 (by rw [HNE.out, HST.out, if_pos rfl]) (by decide)
            clear HNS HNT HST HSA
            go_wp2_with fail
            go_ret2
            rw [HR.out]
            exact ⟨⟨_, rfl, Rd.none_ _ _ _⟩, HBA.out⟩
          | false =>
            have HNE1 : Hid (nameE [] xs = nameE (names (xs.take (k + 1))) (xs.drop (k + 1))) := by
              show _ = _; rw [HNE.out, HST.out, if_neg (by decide)]
            have HTK := Lib.hid (HNT.out k x HXX.out)
            obtain ⟨wu, hru, hsu, hgu⟩ := HSA.out.add HX1.out (by omega)
            rw [has_snoc] at hsu
            have HSU : Hid (SetIs wu w.heap.size (k + 1) (has (names (xs.take (k + 1))))) := by rw [HTK.out]; exact hsu
            have HMU : Hid (Boxed wu (w.heap.size + 1) 220 (.map (some w.heap.size))) := HMA.out.kept hgu (by simp)
            have HBU : Hid (Below w.heap.size w wu) := HBA.out.grown hgu HBA.out.size (fun g hg => by have := Option.some.inj hg; omega)
            clear hsu hgu HST HSA HTK
            go_wp2_with fail
            go_roundw
            case rel => exact ⟨k + 1, by omega, by go_num, HSU.out, HMU.out, HNE1.out, HBU.out⟩
            case measure => simp [intOf]; omega
      · obtain rfl : n = k := by omega
        have HZ : Hid (nameE [] xs = 0) := by
          show _ = _
          rw [HNE.out, List.drop_of_length_le (by rw [HN.out]; exact Nat.le_refl _)]; rfl
        have HTF : Hid (xs.take n = xs) := List.take_of_length_le (by rw [HN.out]; exact Nat.le_refl _)
        rw [HTF.out] at HS
        have HE5 : Hid (∀ (k : Nat) (x : StepD), xs[k]? = some x → (x.after.any fun a => !has (names xs) a) = true → ordE xs = (5, [])) := fun k x hx hy => by
          unfold ordE
          rw [if_neg (by have := HN.out; omega), if_neg (fun h => h HZ.out), if_pos]
          unfold aftB
          rw [List.any_eq_true]
          exact ⟨x, List.mem_of_getElem? hx, hy⟩
        clear HNE HTF HE0 HNS HNT
        clear cb
        go_wp2_with fail
        obtain ⟨wl, hwl⟩ : ∃ wl : World, wl = wr := ⟨_, rfl⟩
        subst hwl
        go_loopw [39] (fun iv wr => ∃ (k : Nat), k ≤ n ∧ iv = .int .i64 (k : Int) ∧ Hid (SetIs wr w.heap.size n (has (names xs))) ∧ Hid (Boxed wr (w.heap.size + 1) 220 (.map (some w.heap.size))) ∧ Hid (∀ j, j < k → ∀ x, xs[j]? = some x → (x.after.any fun a => !has (names xs) a) = false) ∧ Hid (Below w.heap.size w wr)) (fun iv _ => n - (intOf iv).toNat)
        case atStart => exact ⟨0, Nat.zero_le _, rfl, HS.out, HM.out, fun j hj => absurd hj (by omega), HB.out⟩
        case round =>
          clear HS HM HB
          obtain ⟨k, hk, rfl, HS, HM, HK, HB⟩ := hrel
          by_cases hlt : k < n
          · obtain ⟨b, off, x, f, rfl, hbw, hx, hcx, hcf, hrf⟩ := HC.out k hlt
            have c1 := (HB.out.cell (p := ⟨b, off + k * 2, none⟩) hbw).trans hcx
            have c2 := (HB.out.cell (p := ⟨b, off + k * 2 + 1, none⟩) hbw).trans hcf
            have HXX := Lib.hid hx
            have hrf1 := hrf.below HB.out
            obtain ⟨Af, cf, rfl, _⟩ := hrf.at_
            have hBX : Below wr.heap.size wr (wr.alloc (.cells #[.string x.name, .slice Af x.after.length cf] 101)) := (Below.refl _ _).alloc (Nat.le_refl _) _
            have HCA := Lib.hid (unk_any _ x.after (w.heap.size + 1) w.heap.size n (has (names xs)) _ (hrf1.below hBX) (HWF.out x (List.mem_of_getElem? hx)).after (HM.out.alloc _).cell (HS.out.same (hBX.block _ HS.out.lt)))
            have HBX := Lib.hid hBX
            obtain ⟨q, hq⟩ : ∃ q, q = (x.after.any fun a => !has (names xs) a) := ⟨_, rfl⟩
            rw [← hq] at HCA
            have HQ := Lib.hid hq
            clear hq hrf hrf1 hBX hcx hcf hx hbw
            go_wp2_with fail
            refine HCA.out.mono ?_
            rintro e w1 ⟨rfl, hb1⟩
            have HB1 : Hid (Below wr.heap.size wr w1) := HBX.out.trans (hb1.mono HBX.out.size)
            clear hb1 HCA HBX
            cases q with
            | true =>
              have HR := Lib.hid (HE5.out k x HXX.out HQ.out.symm)
              go_wp2_with fail
              go_ret2
              rw [HR.out]
              exact ⟨⟨_, rfl, Rd.none_ _ _ _⟩, HB.out.trans (HB1.out.mono HB.out.size)⟩
            | false =>
              have HK1 : Hid (∀ j, j < k + 1 → ∀ x, xs[j]? = some x → (x.after.any fun a => !has (names xs) a) = false) := fun j hj y hy => by
                rcases Nat.lt_or_ge j k with h | h
                · exact HK.out j h y hy
                · obtain rfl : j = k := by omega
                  obtain rfl := Option.some.inj (HXX.out.symm.trans hy)
                  exact HQ.out.symm
              have HS1 : Hid (SetIs w1 w.heap.size n (has (names xs))) := HS.out.same (HB1.out.block _ HS.out.lt)
              have HM1 : Hid (Boxed w1 (w.heap.size + 1) 220 (.map (some w.heap.size))) := (HB1.out.block _ HM.out.lt).trans HM.out
              have HB2 : Hid (Below w.heap.size w w1) := HB.out.trans (HB1.out.mono HB.out.size)
              go_wp2_with fail
              go_roundw
              case rel => exact ⟨k + 1, by omega, by go_num, HS1.out, HM1.out, HK1.out, HB2.out⟩
              case measure => simp [intOf]; omega
          · obtain rfl : n = k := by omega
            have h2 : ¬ aftB (names xs) xs = true := fun h => by
              unfold aftB at h
              obtain ⟨x, hx, h3⟩ := List.any_eq_true.1 h
              obtain ⟨j, hj, rfl⟩ := List.mem_iff_getElem.1 hx
              rw [HK.out j (by rw [← HN.out]; exact hj) _ (List.getElem?_eq_getElem hj)] at h3
              cases h3
            have HGO : Hid (∀ r, goO xs n [] = some r → ordE xs = (0, r)) := fun r hr => by
              unfold ordE
              rw [if_neg (by have := HN.out; omega), if_neg (fun h => h HZ.out), if_neg h2, HN.out, hr]
            have HGN : Hid (goO xs n [] = none → ordE xs = (7, [])) := fun hr => by
              unfold ordE
              rw [if_neg (by have := HN.out; omega), if_neg (fun h => h HZ.out), if_neg h2, HN.out, hr]
            clear h2
            obtain ⟨ob, hob⟩ : ∃ ob, ob = wr.heap.size := ⟨_, rfl⟩
            have HO0 : Hid (OutIs w ((wr.alloc (.cells #[.slice none 0 0] 99)).alloc (.cells #[.func (.func 139) #[] #[.pointer (some ⟨wr.heap.size, 0, none⟩)]] 221)) wr.heap.size (.slice none 0 0) []) := by
              have s1 : (wr.alloc (.cells #[.slice none 0 0] 99)).heap.size = wr.heap.size + 1 := by simp
              refine ⟨OwnB.nil _ _, (Boxed.new wr 99 (.slice none 0 0)).alloc _, ?_, (HB.out.alloc HB.out.size _).alloc (by have := HB.out.size; omega) _, HB.out.size⟩
              have := Boxed.new (wr.alloc (.cells #[.slice none 0 0] 99)) 221 (.func (.func 139) #[] #[.pointer (some ⟨wr.heap.size, 0, none⟩)])
              rw [s1] at this; exact this
            clear HK HE5 HS HM HZ
            go_wp2_with fail
            obtain ⟨wo, hwo⟩ : ∃ wo : World, wo = wr := ⟨_, rfl⟩
            subst hwo
            go_loopw [] (fun wr => ∃ (out : List ByteArray) (A : Option Addr) (m c : Nat), m ≤ n ∧ Hid (out.length = m) ∧ Hid (OutIs w wr wo.heap.size (.slice A m c) out) ∧ Hid (goO xs n [] = goO xs (n - m) out)) (fun wr => n - lenV ((wr.cell? ⟨wo.heap.size, 0, none⟩).getD (.bool false)))
            case atStart => exact ⟨[], none, 0, 0, Nat.zero_le _, rfl, HO0.out, rfl⟩
            case round =>
              clear HO0 HB
              obtain ⟨out, Ao, m, co, hmn, HM, HO, HG⟩ := hrel
              have cb := HO.out.box.cell
              by_cases hlt : m < n
              · have HSK := Lib.hid (seek_any _ xs (wo.heap.size + 1) wo.heap.size _ out wr (HV.out.below HO.out.bel) HO.out.fn.cell cb HO.out.own.rd)
                go_wp2_with fail
                refine HSK.out.mono ?_
                rintro e w1 ⟨⟨fd, rfl, hfd⟩, hb1⟩
                have HO1 := Lib.hid (HO.out.below hb1)
                have HFD := Lib.hid hfd
                have HMS : Hid (lenV ((wr.cell? ⟨wo.heap.size, 0, none⟩).getD (.bool false)) = m) := by show _ = _; rw [cb]; rfl
                clear cb hfd hb1 HSK HO
                by_cases hneg : fd < 0
                · have HR : Hid (ordE xs = (7, [])) := by
                    refine HGN.out ?_
                    rcases HFD.out with ⟨_, hf⟩ | ⟨q, _, h, _⟩
                    · rw [HG.out, show n - m = (n - m - 1) + 1 by omega, find_goN hf]
                    · omega
                  go_wp2_with fail
                  go_ret2
                  rw [HR.out]
                  exact ⟨⟨_, rfl, Rd.none_ _ _ _⟩, HO1.out.bel⟩
                · obtain ⟨q, x, rfl, hx, hfi⟩ : ∃ (q : Nat) (x : StepD), fd = (q : Int) ∧ xs[q]? = some x ∧ xs.find? (readyB out) = some x := by
                    rcases HFD.out with ⟨h, _⟩ | h
                    · omega
                    · exact h
                  have hqn : q < n := by have := (List.getElem?_eq_some_iff.1 hx).1; have := HN.out; omega
                  obtain ⟨b, off, x', f, rfl, hbw, hx', hcx, hcf, hrf⟩ := HC.out q hqn
                  obtain rfl := Option.some.inj (hx.symm.trans hx')
                  have HG1 : Hid (goO xs n [] = goO xs (n - (m + 1)) (out ++ [x.name])) := by
                    show _ = _
                    rw [HG.out, show n - m = (n - (m + 1)) + 1 by omega, find_goO hfi]
                  have HL1 : Hid ((out ++ [x.name]).length = m + 1) := by show _ = _; rw [List.length_append, HM.out]; rfl
                  obtain ⟨i0, hi0, hz0, hz1, hz2⟩ := info_parts info9
                  have hwq : IntKind.i64.wrap (q : Int) = (q : Int) := IntWalk.i64_in _ (by omega)
                  obtain ⟨W5, hW5⟩ : ∃ W, W = w1.drew := ⟨_, rfl⟩
                  have hb5 : Below w1.heap.size w1 W5 := by rw [hW5]; exact (Below.refl _ _).drew
                  have HO5 := Lib.hid (HO1.out.below hb5)
                  have HB6 : Hid (Below W5.heap.size W5 (W5.alloc (.cells #[.string x.name] 9))) := (Below.refl _ _).alloc (Nat.le_refl _) _
                  have HO6 := Lib.hid (HO5.out.below HB6.out)
                  have HC5 := Lib.hid HO5.out.box.cell
                  have HC6 := Lib.hid HO6.out.box.cell
                  have HX5 : Hid (W5.cell? ⟨b, off + q * 2, none⟩ = some (.string x.name)) := (HO5.out.bel.cell (p := ⟨b, off + q * 2, none⟩) hbw).trans hcx
                  have HX6 : Hid ((W5.alloc (.cells #[.string x.name] 9)).cell? ⟨b, off + q * 2, none⟩ = some (.string x.name)) := (HO6.out.bel.cell (p := ⟨b, off + q * 2, none⟩) hbw).trans hcx
                  have HBW := Lib.hid hbw
                  have HCX := Lib.hid hcx
                  have HOW : Hid ((W5.alloc (.cells #[.string x.name] 9)).ownsRow (wo.heap.size + 2) 9 1 (.slice Ao m co) m (out.map Value.string)) := by
                    have := HO6.out.own
                    unfold OwnB at this
                    rw [HM.out] at this; exact this
                  have HBS : Hid (wo.heap.size + 2 ≤ (W5.alloc (.cells #[.string x.name] 9)).heap.size) := HO6.out.fn.lt
                  clear hcx hcf hrf hx hx' hbw hfi hb5 HFD HO1
                  go_wp2_with fail
                  refine seq_start (S := fun w' => w'.cell? ⟨b, off + q * 2, none⟩ = some (.string x.name)) (by kernel_rfl) (by kernel_rfl) (by rw [← hW5]; exact HX5.out) ?_
                  rw [← hW5]
                  clear hW5
                  repeat (refine seq_swap ?_; first
                    | (refine seq_take0 (v := ?_) ?_ (fun _ _ _ h => h) (by kernel_rfl) ?_ ?_; rotate_left; (focus rfl); (focus (intro w' hSw; (try dsimp only at hSw); go_simp; (try with_reducible rfl); done)); (try simp only [Act.put, List.setIfInBounds_toArray, List.set_cons_zero, List.set_cons_succ]))
                    | (refine seq_takeG (v := ?_) (g := ?_) (d := ?_) (b := ?_) (u := ?_) ?_ ?_ ?_ ?_ (fun _ _ _ h => h) (by kernel_rfl) ?_ ?_; rotate_left 5; (focus rfl); (focus rfl); (focus rfl); (focus (first | rfl | (go_simp; done))); (focus (intro w' hSw; (try dsimp only at hSw); go_simp; (try with_reducible rfl); done)); (try simp only [Act.put, List.setIfInBounds_toArray, List.set_cons_zero, List.set_cons_succ]))
                    | (refine seq_skipG (g := ?_) (d := ?_) (b := ?_) (u := ?_) ?_ ?_ ?_ ?_ (fun _ _ _ h => h) (by kernel_rfl) ?_; rotate_left 4; (focus rfl); (focus rfl); (focus rfl); (focus (first | rfl | (go_simp; done))); (try simp only [Act.put, List.setIfInBounds_toArray, List.set_cons_zero, List.set_cons_succ])))
                  refine seq_both ?_ ?_ ?_ ?_ ?_
                  · kernel_rfl
                  · rfl
                  · rfl
                  focus
                    intro K9 hK9
                    have c2 := HC5.out
                    go_simp
                    clear c2
                    refine hK9.out _ _ (by exact HX5.out) ?_
                    clear hK9 K9
                    (try simp only [Act.put, List.setIfInBounds_toArray, List.set_cons_zero, List.set_cons_succ])
                    refine seq_op (by kernel_rfl) (by rfl) (fun K9 hK9 => ?_)
                    go_simp
                    refine hK9.out _ _ (by exact HX6.out) ?_
                    clear hK9 K9
                    (try simp only [Act.put, List.setIfInBounds_toArray, List.set_cons_zero, List.set_cons_succ])
                  rotate_left
                  focus
                    intro K9 hK9
                    go_simp
                    refine hK9.out _ _ (by exact HX6.out) ?_
                    clear hK9 K9
                    (try simp only [Act.put, List.setIfInBounds_toArray, List.set_cons_zero, List.set_cons_succ])
                    refine seq_op (by kernel_rfl) (by rfl) (fun K9 hK9 => ?_)
                    have c2 := HC6.out
                    go_simp
                    clear c2
                    refine hK9.out _ _ (by exact HX6.out) ?_
                    clear hK9 K9
                    (try simp only [Act.put, List.setIfInBounds_toArray, List.set_cons_zero, List.set_cons_succ])
                  all_goals
                    refine seq_op (by kernel_rfl) (by rfl) (fun K9 hK9 => ?_)
                    refine op_append_own rfl _ _ 99 rfl (wo.heap.size + 2) 9 i0 (.string ⟨#[]⟩) 1 16 Tryz.underlying99 hi0 hz0 hz1 hz2 rfl (by decide) (.slice Ao m co) m (out.map Value.string) (by rfl) HOW.out ⟨W5.heap.size, 0, none⟩ 1 1 [.string x.name] (by rfl) rfl (cells_new W5 #[.string x.name] 9 (0, 0)) (fun u hu => by rw [List.mem_singleton.1 hu]; rfl) (by unfold maxLen; omega) (by omega) HBS.out ?_
                    intro v' w7 hown hgr hfr
                    obtain ⟨A7, c7, rfl⟩ := ownsRow_slice hown
                    have HOP : Hid (OutIs w (w7.setCell ⟨wo.heap.size, 0, none⟩ (.slice A7 (m + 1) c7)) wo.heap.size (.slice A7 (m + 1) c7) (out ++ [x.name])) := HO6.out.push hgr (by
                      unfold OwnB
                      rw [HL1.out, List.map_append]; exact hown)
                    have hne : ∀ k, k < wo.heap.size + 2 → some k ≠ (Value.slice Ao m co).ownBlock := fun k hk e => by have := (World.ownsRow.lt HOW.out k e.symm).1; omega
                    have HC7 : Hid (Boxed w7 wo.heap.size 99 (.slice Ao m co)) := HO6.out.box.kept hgr (hne _ (by omega))
                    have HX7 : Hid (w7.cell? ⟨b, off + q * 2, none⟩ = some (.string x.name)) := (HO6.out.bel.grown hgr HO6.out.bel.size (fun g hg' => by have := (World.ownsRow.lt HO6.out.own g hg').1; have := HO6.out.le; omega)).cell (p := ⟨b, off + q * 2, none⟩) HBW.out |>.trans HCX.out
                    have HX8 : Hid ((w7.setCell ⟨wo.heap.size, 0, none⟩ (.slice A7 (m + 1) c7)).cell? ⟨b, off + q * 2, none⟩ = some (.string x.name)) := (HOP.out.bel.cell (p := ⟨b, off + q * 2, none⟩) HBW.out).trans HCX.out
                    clear hown hgr hfr hne
                    refine hK9.out _ _ (by exact HX7.out) ?_
                    clear hK9 K9
                    (try simp only [Act.put, List.setIfInBounds_toArray, List.set_cons_zero, List.set_cons_succ])
                    refine seq_op (by kernel_rfl) (by rfl) (fun K9 hK9 => ?_)
                    have c9 := HC7.out.cell
                    have f9 := HC7.out.frozen
                    go_simp
                    clear c9 f9
                    refine hK9.out _ _ (by exact HX8.out) ?_
                    clear hK9 K9
                    (try simp only [Act.put, List.setIfInBounds_toArray, List.set_cons_zero, List.set_cons_succ])
                    refine seq_done (by kernel_rfl) ?_
                    have HM8 : Hid (lenV (((w7.setCell ⟨wo.heap.size, 0, none⟩ (.slice A7 (m + 1) c7)).cell? ⟨wo.heap.size, 0, none⟩).getD (.bool false)) = m + 1) := by show _ = _; rw [HOP.out.box.cell]; rfl
                    go_wp2_with fail
                    go_roundw
                    case rel => exact ⟨out ++ [x.name], A7, m + 1, c7, by omega, HL1.out, HOP.out, HG1.out⟩
                    case measure => rw [HM8.out, HMS.out]; omega
              · obtain rfl : n = m := by omega
                have HR : Hid (ordE xs = (0, out)) := HGO.out out (by rw [HG.out, Nat.sub_self]; rfl)
                go_wp2_with fail
                go_ret2
                rw [HR.out]
                exact ⟨⟨_, rfl, HO.out.own.rd⟩, HO.out.bel⟩
end Go.Proofs.YtodckaioeomccaaGreat
