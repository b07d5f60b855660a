/- The reference's Right. Walks of the reference's upward and Bound. -/
import Derived.Test.YtogccnngdfancaaGreatPart04
namespace Go.Proofs.YtogccnngdfancaaGreat
open Go.RowKit
set_option linter.unusedVariables false
set_option linter.unusedSimpArgs false
set_option maxRecDepth 100000 in
set_option maxHeartbeats 2000000 in
theorem rRight_any (v : Value) (d : WorksD) (S : Nat → Prop) (w : World) (hv : WkV w S v d) :
    Calls Tryz.prog 26 #[v] w fun e w' => e = .returned (.int .i64 (wErr d)) ∧ Below w.heap.size w w' := by
  obtain ⟨vc, vn, vm, rfl, h1, h2, h3⟩ := hv.lt
  obtain ⟨Ac, nc, cc, rfl, hnc, -, hmc, hcc⟩ := h1.open_
  obtain ⟨An, nn, cn, rfl, hnn, -, hmn, hcn⟩ := h2.open_
  obtain ⟨Am, nm, cm, rfl, hnm, -, hmm, hcm⟩ := h3.open_
  have HW : Hid (wErr d = if d.presses < 1 ∨ 8 < d.presses ∨ d.change < 0 ∨ 1000 < d.change then 1 else if nc ≠ nn ∨ nc ≠ nm ∨ 8 < nc then 4 else if okUp d nc = false then 1 else roomErr 64 d.need) := by unfold wErr Hid; rw [hnc, hnn, hnm]
  obtain ⟨P, hP⟩ : ∃ P, P = d.presses := ⟨_, rfl⟩
  obtain ⟨C, hC⟩ : ∃ C, C = d.change := ⟨_, rfl⟩
  rw [← hP, ← hC] at HW ⊢
  obtain ⟨W1, hW1⟩ : ∃ W1, W1 = w.alloc (.cells #[.int .i64 P, .int .i64 C, .slice Ac nc cc, .slice An nn cn, .slice Am nm cm] 40) := ⟨_, rfl⟩
  have hm1 := heap_alloc_new w (.cells #[.int .i64 P, .int .i64 C, .slice Ac nc cc, .slice An nn cn, .slice Am nm cm] 40)
  have hb1 : Below w.heap.size w W1 := by rw [hW1]; exact (Below.refl _ w).alloc (Nat.le_refl _) _
  rw [← hW1] at hm1
  have x0 : W1.cell? ⟨w.heap.size, 0, none⟩ = some (.int .i64 P) := cell_of_row W1 _ 0 _ _ _ hm1
  have x1 : W1.cell? ⟨w.heap.size, 1, none⟩ = some (.int .i64 C) := cell_of_row W1 _ 1 _ _ _ hm1
  have x2 : W1.cell? ⟨w.heap.size, 2, none⟩ = some (.slice Ac nc cc) := cell_of_row W1 _ 2 _ _ _ hm1
  have x3 : W1.cell? ⟨w.heap.size, 3, none⟩ = some (.slice An nn cn) := cell_of_row W1 _ 3 _ _ _ hm1
  have x4 : W1.cell? ⟨w.heap.size, 4, none⟩ = some (.slice Am nm cm) := cell_of_row W1 _ 4 _ _ _ hm1
  have HW1 := Lib.hid hW1
  have HB1 := Lib.hid hb1
  have HCC := Lib.hid hcc
  have HCN := Lib.hid hcn
  have HCM := Lib.hid hcm
  have HNC := Lib.hid hnc
  have HNN := Lib.hid hnn
  have HNM := Lib.hid hnm
  clear hP hC hW1 hm1 hb1 hcc hcn hcm hnc hnn hnm h1 h2 h3 hv
  have hcase : ((P < 1 ∨ (1 ≤ P ∧ 8 < P) ∨ (1 ≤ P ∧ P ≤ 8 ∧ C < 0) ∨ (1 ≤ P ∧ P ≤ 8 ∧ 0 ≤ C ∧ 1000 < C)) ∧ wErr d = 1) ∨
      ((1 ≤ P ∧ P ≤ 8 ∧ 0 ≤ C ∧ C ≤ 1000) ∧ ((nc ≠ nn ∨ (nc = nn ∧ nc ≠ nm) ∨ (nc = nn ∧ nc = nm ∧ 8 < nc)) ∧ wErr d = 4)) ∨
      ((1 ≤ P ∧ P ≤ 8 ∧ 0 ≤ C ∧ C ≤ 1000) ∧ (nc = nn ∧ nc = nm ∧ nc ≤ 8) ∧ wErr d = if okUp d nc = false then 1 else roomErr 64 d.need) := by
    by_cases a : P < 1 ∨ 8 < P ∨ C < 0 ∨ 1000 < C
    · refine .inl ⟨by omega, ?_⟩
      rw [HW.out, if_pos a]
    · by_cases b : nc ≠ nn ∨ nc ≠ nm ∨ 8 < nc
      · refine .inr (.inl ⟨by omega, by omega, ?_⟩)
        rw [HW.out, if_neg a, if_pos b]
      · refine .inr (.inr ⟨by omega, by omega, ?_⟩)
        rw [HW.out, if_neg a, if_neg b]
  clear HW
  rcases hcase with ⟨h, hr⟩ | ⟨⟨a1, a2, a3, a4⟩, h, hr⟩ | ⟨⟨a1, a2, a3, a4⟩, ⟨rfl, rfl, h8⟩, hr⟩
  · have HR := Lib.hid hr
    clear hr
    rcases h with h | ⟨h1, h2⟩ | ⟨h1, h2, h3⟩ | ⟨h1, h2, h3, h4⟩
    all_goals
      go_enter Tryz.func26, Tryz.ntmps26
      go_wp2_with fail
      rw [← HW1.out]
      go_wp2_with fail
      go_ret
      exact ⟨by rw [HR.out]; rfl, HB1.out⟩
  · have HR := Lib.hid hr
    clear hr
    rcases h with h | ⟨h1, h2⟩ | ⟨h1, h2, h3⟩
    · have t1 : ((nc : Int) != (nn : Int)) = true := by rw [bne_iff_ne]; omega
      have t2 : (nc != nn) = true := by rw [bne_iff_ne]; omega
      go_enter Tryz.func26, Tryz.ntmps26
      go_wp2_with fail
      rw [← HW1.out]
      go_wp2_with fail
      go_ret
      exact ⟨by rw [HR.out]; rfl, HB1.out⟩
    · subst h1
      have t1 : ((nc : Int) != (nm : Int)) = true := by rw [bne_iff_ne]; omega
      have t2 : (nc != nm) = true := by rw [bne_iff_ne]; omega
      go_enter Tryz.func26, Tryz.ntmps26
      go_wp2_with fail
      rw [← HW1.out]
      go_wp2_with fail
      go_ret
      exact ⟨by rw [HR.out]; rfl, HB1.out⟩
    · subst h1
      subst h2
      have t3 : (8 : Int) < (nc : Int) := by omega
      go_enter Tryz.func26, Tryz.ntmps26
      go_wp2_with fail
      rw [← HW1.out]
      go_wp2_with fail
      go_ret
      exact ⟨by rw [HR.out]; rfl, HB1.out⟩
  · have HR := Lib.hid hr
    have h8' : ¬ ((8 : Int) < (nc : Int)) := by omega
    clear hr
    go_enter Tryz.func26, Tryz.ntmps26
    go_wp2_with fail
    rw [← HW1.out]
    go_wp2_with fail
    have HRR : Hid (okUp d nc = false → wErr d = 1) := fun h => by rw [HR.out, if_pos h]
    have HRS : Hid (okUp d nc = true → wErr d = roomErr 64 d.need) := fun h => by rw [HR.out, if_neg (by rw [h]; simp)]
    clear HR
    go_loop [4, 5] (fun av iv => ∃ (i : Nat) (a : Int), i ≤ nc ∧ iv = .int .i64 (i : Int) ∧ av = .int .i64 a ∧ 0 ≤ a ∧ a ≤ 128 ∧ okUp d i = true ∧ ((a ≤ 64 ∧ roomErr 64 d.need = roomErr (64 - a) (d.need.drop i)) ∨ (64 < a ∧ roomErr 64 d.need = 4))) (fun _ iv => nc - (intOf iv).toNat)
    case atStart => exact ⟨0, 0, Nat.zero_le _, rfl, rfl, by omega, by omega, rfl, .inl ⟨by omega, rfl⟩⟩
    case round =>
      obtain ⟨i, a, hi, rfl, rfl, a0, a128, hup, hro⟩ := hrel
      have HUP := Lib.hid hup
      have HRO := Lib.hid hro
      clear hup hro
      by_cases hlt : i < nc
      · obtain ⟨b1, o1, c, hA1, _, hc, hcl1⟩ := HCC.out i hlt
        obtain ⟨b2, o2, n, hA2, _, hn, hcl2⟩ := HCN.out i hlt
        obtain ⟨b3, o3, m, hA3, _, hm, hcl3⟩ := HCM.out i hlt
        cases hA1
        cases hA2
        cases hA3
        have y1 := (HB1.out.cell (p := ⟨b1, _, none⟩) (World.block_lt_of_cell? w _ hcl1)).trans hcl1
        have y2 := (HB1.out.cell (p := ⟨b2, _, none⟩) (World.block_lt_of_cell? w _ hcl2)).trans hcl2
        have y3 := (HB1.out.cell (p := ⟨b3, _, none⟩) (World.block_lt_of_cell? w _ hcl3)).trans hcl3
        have hok : okK d i = (decide (1 ≤ c) && (decide (c ≤ 1000) && (decide (0 ≤ n) && decide (1 ≤ m)))) := by
          unfold okK cureOf needOf mouldOf
          rw [Int.toNat_natCast, at_of hc, at_of hn, at_of hm]
        have hdrop : d.need.drop i = n :: d.need.drop (i + 1) := by rw [List.drop_eq_getElem_cons (List.getElem?_eq_some_iff.1 hn).1, (List.getElem?_eq_some_iff.1 hn).2]
        have hw : ((c < 1 ∨ (1 ≤ c ∧ 1000 < c) ∨ (1 ≤ c ∧ c ≤ 1000 ∧ n < 0) ∨ (1 ≤ c ∧ c ≤ 1000 ∧ 0 ≤ n ∧ m < 1)) ∧ wErr d = 1) ∨ ((1 ≤ c ∧ c ≤ 1000 ∧ 0 ≤ n ∧ 1 ≤ m) ∧ okUp d (i + 1) = true) := by
          by_cases a : 1 ≤ c ∧ c ≤ 1000 ∧ 0 ≤ n ∧ 1 ≤ m
          · refine .inr ⟨a, ?_⟩
            rw [okUp_succ, HUP.out, hok]
            simp [a]
          · refine .inl ⟨by omega, ?_⟩
            have hf : okK d i = false := by rw [hok]; simp; omega
            exact HRR.out (okUp_no hf hlt)
        have hlti : (i : Int) < (nc : Int) := by omega
        have HNX : Hid (∀ a', ((64 < n ∨ 64 < a) ∧ a' = 65) ∨ (n ≤ 64 ∧ a ≤ 64 ∧ a' = a + n) → 0 ≤ n → 0 ≤ a' ∧ a' ≤ 128 ∧ ((a' ≤ 64 ∧ roomErr 64 d.need = roomErr (64 - a') (d.need.drop (i + 1))) ∨ (64 < a' ∧ roomErr 64 d.need = 4))) := fun a' h hn0 => by
          have hro := HRO.out
          rw [hdrop] at hro
          simp only [roomErr] at hro
          rcases h with ⟨h, rfl⟩ | ⟨h1, h2, rfl⟩
          · refine ⟨by omega, by omega, .inr ⟨by omega, ?_⟩⟩
            rcases hro with ⟨k1, k2⟩ | ⟨k1, k2⟩
            · rw [k2, if_pos (by omega)]
            · exact k2
          · rcases hro with ⟨k1, k2⟩ | ⟨k1, k2⟩
            · by_cases k3 : 64 - a < n
              · exact ⟨by omega, by omega, .inr ⟨by omega, by rw [k2, if_pos k3]⟩⟩
              · exact ⟨by omega, by omega, .inl ⟨by omega, by rw [k2, if_neg k3, show 64 - (a + n) = 64 - a - n by omega]⟩⟩
            · omega
        clear hc hn hm hok hcl1 hcl2 hcl3 hdrop
        rcases hw with ⟨h, hr⟩ | ⟨⟨k1, k2, k3, k4⟩, hu⟩
        · have HRX := Lib.hid hr
          clear hr
          rcases h with h | ⟨k1, k2⟩ | ⟨k1, k2, k3⟩ | ⟨k1, k2, k3, k4⟩
          all_goals
            go_wp2_with fail
            go_ret
            exact ⟨by rw [HRX.out]; rfl, HB1.out⟩
        · have HU := Lib.hid hu
          clear hu
          by_cases q1 : 64 < n
          · have HX := Lib.hid (HNX.out 65 (.inl ⟨.inl q1, rfl⟩) k3)
            go_wp2_with fail
            go_round
            case rel => exact ⟨i + 1, 65, by omega, by go_num, rfl, HX.out.1, HX.out.2.1, HU.out, HX.out.2.2⟩
            case measure => simp [intOf]; omega
          · by_cases q2 : 64 < a
            · have HX := Lib.hid (HNX.out 65 (.inl ⟨.inr q2, rfl⟩) k3)
              go_wp2_with fail
              go_round
              case rel => exact ⟨i + 1, 65, by omega, by go_num, rfl, HX.out.1, HX.out.2.1, HU.out, HX.out.2.2⟩
              case measure => simp [intOf]; omega
            · have HX := Lib.hid (HNX.out (a + n) (.inr ⟨by omega, by omega, rfl⟩) k3)
              go_wp2_with fail
              go_round
              case rel => exact ⟨i + 1, a + n, by omega, by go_num, rfl, HX.out.1, HX.out.2.1, HU.out, HX.out.2.2⟩
              case measure => simp [intOf]; omega
      · have hin : i = nc := by omega
        have hlti : ¬ ((i : Int) < (nc : Int)) := by omega
        have hres : wErr d = if 64 < a then 4 else 0 := by
          rw [HRS.out (by rw [← hin]; exact HUP.out)]
          have hd : d.need.drop i = [] := by rw [hin]; exact List.drop_of_length_le (by have := HNN.out; omega)
          rcases HRO.out with ⟨k1, k2⟩ | ⟨k1, k2⟩
          · rw [k2, hd, if_neg (by omega)]; rfl
          · rw [k2, if_pos k1]
        have HX := Lib.hid hres
        clear hres hin
        by_cases q : 64 < a
        · have HY : Hid (wErr d = 4) := by show _ = _; rw [HX.out, if_pos q]
          go_wp2_with fail
          go_ret
          exact ⟨by rw [HY.out]; rfl, HB1.out⟩
        · have HY : Hid (wErr d = 0) := by show _ = _; rw [HX.out, if_neg q]
          go_wp2_with fail
          go_ret
          exact ⟨by rw [HY.out]; rfl, HB1.out⟩
end Go.Proofs.YtogccnngdfancaaGreat
namespace Go.Proofs.YtogccnngdfancaaGreat
open Go.RowKit
set_option linter.unusedVariables false
set_option linter.unusedSimpArgs false
theorem rup_any (a b : Int) (w : World) (ha : 0 ≤ a) (ha2 : a ≤ 1000000000) (hb : 1 ≤ b) (hb2 : b ≤ 1000000000) :
    Calls Tryz.prog 27 #[.int .i64 a, .int .i64 b] w fun e w' => e = .returned (.int .i64 (upZ a b)) ∧ w = w' := by
  have hne : ¬ (b = 0) := by omega
  have h0 : 0 ≤ a + b - 1 := by omega
  go_enter Tryz.func27, Tryz.ntmps27
  go_wp2_with fail
  go_ret
  refine ⟨?_, rfl⟩
  rfl
set_option maxRecDepth 100000 in
set_option maxHeartbeats 8000000 in
theorem rBound_any (v : Value) (d : WorksD) (S : Nat → Prop) (w : World) (hv : WkV w S v d) :
    Calls Tryz.prog 10 #[v] w fun e w' => e = .returned (.tuple #[.int .i64 (if wErr d = 0 then boundW d else 0), .int .i64 (wErr d)]) ∧ Below w.heap.size w w' := by
  have HCH := Lib.hid (fun w' (h : Below w.heap.size w w') => rRight_any v d S w' (hv.below h))
  obtain ⟨vc, vn, vm, rfl, h1, h2, h3⟩ := hv.lt
  obtain ⟨Ac, nc, cc, rfl, hnc, -, hmc, hcc⟩ := h1.open_
  obtain ⟨An, nn, cn, rfl, hnn, -, hmn, hcn⟩ := h2.open_
  obtain ⟨Am, nm, cm, rfl, hnm, -, hmm, hcm⟩ := h3.open_
  obtain ⟨we, hwe⟩ : ∃ we, we = wErr d := ⟨_, rfl⟩
  rw [← hwe] at HCH ⊢
  obtain ⟨bo, hbo⟩ : ∃ bo, bo = (if we = 0 then boundW d else 0) := ⟨_, rfl⟩
  rw [← hbo]
  have HBO := Lib.hid hbo
  obtain ⟨W1, hW1⟩ : ∃ W1, W1 = w.alloc (.cells #[.int .i64 d.presses, .int .i64 d.change, .slice Ac nc cc, .slice An nn cn, .slice Am nm cm] 40) := ⟨_, rfl⟩
  have hm1 := heap_alloc_new w (.cells #[.int .i64 d.presses, .int .i64 d.change, .slice Ac nc cc, .slice An nn cn, .slice Am nm cm] 40)
  have hb1 : Below w.heap.size w W1 := by rw [hW1]; exact (Below.refl _ w).alloc (Nat.le_refl _) _
  rw [← hW1] at hm1
  have x0 : W1.cell? ⟨w.heap.size, 0, none⟩ = some (.int .i64 d.presses) := cell_of_row W1 _ 0 _ _ _ hm1
  have x1 : W1.cell? ⟨w.heap.size, 1, none⟩ = some (.int .i64 d.change) := cell_of_row W1 _ 1 _ _ _ hm1
  have x2 : W1.cell? ⟨w.heap.size, 2, none⟩ = some (.slice Ac nc cc) := cell_of_row W1 _ 2 _ _ _ hm1
  have x3 : W1.cell? ⟨w.heap.size, 3, none⟩ = some (.slice An nn cn) := cell_of_row W1 _ 3 _ _ _ hm1
  have x4 : W1.cell? ⟨w.heap.size, 4, none⟩ = some (.slice Am nm cm) := cell_of_row W1 _ 4 _ _ _ hm1
  have HW1 := Lib.hid hW1
  have HB1 := Lib.hid hb1
  have HM1 := Lib.hid hm1
  have HCC := Lib.hid hcc
  have HCN := Lib.hid hcn
  have HCM := Lib.hid hcm
  have HNC := Lib.hid hnc
  have HNN := Lib.hid hnn
  have HNM := Lib.hid hnm
  have HWE := Lib.hid hwe
  clear hW1 hm1 hb1 hcc hcn hcm hnc hnn hnm h1 h2 h3 hv hwe hbo
  by_cases hz : we = 0
  · subst hz
    have hg := wgood_of HWE.out.symm
    have hnn' : nn = nc := by have := HNN.out; have := HNC.out; have := hg.ok.n1; omega
    have hnm' : nm = nc := by have := HNM.out; have := HNC.out; have := hg.ok.n2; omega
    subst hnn'
    subst hnm'
    have HG := Lib.hid hg
    have hp1 := hg.ok.p1
    have hp8 := hg.ok.p8
    have hc0 := hg.ok.c0
    have hc1 := hg.ok.c1
    have hn8 : nm ≤ 8 := by have := hg.ok.n8; have := HNC.out; omega
    clear hg
    have HB0 : Hid (bo = boundW d) := by show _ = _; rw [HBO.out, if_pos rfl]
    go_enter Tryz.func10, Tryz.ntmps10
    go_wp2_with fail
    rw [← HW1.out]
    refine (HCH.out W1 HB1.out).mono ?_
    rintro e w2 ⟨rfl, hb2⟩
    have HB2 := Lib.hid (HB1.out.trans (hb2.mono HB1.out.size))
    have hm2 := (hb2.block _ (Array.getElem?_eq_some_iff.1 HM1.out).1).trans HM1.out
    have y0 : w2.cell? ⟨w.heap.size, 0, none⟩ = some (.int .i64 d.presses) := cell_of_row w2 _ 0 _ _ _ hm2
    have y1 : w2.cell? ⟨w.heap.size, 1, none⟩ = some (.int .i64 d.change) := cell_of_row w2 _ 1 _ _ _ hm2
    have y2 : w2.cell? ⟨w.heap.size, 2, none⟩ = some (.slice Ac nm cc) := cell_of_row w2 _ 2 _ _ _ hm2
    have HM2 := Lib.hid hm2
    clear hb2 x0 x1 x2 x3 x4 hm2
    go_wp2_with fail
    clear y0 y1 y2
    go_loopw [5, 6, 7, 8] (fun ov kv nv iv wr => ∃ (i : Nat) (o k n : Int), i ≤ nm ∧ iv = .int .i64 (i : Int) ∧ ov = .int .i64 o ∧ kv = .int .i64 k ∧ nv = .int .i64 n ∧ o = boundK d i ∧ k = sumR i (fun k => cureOf d k * needOf d k) ∧ n = sumR i (fun k => if 0 < needOf d k then 1 else 0) ∧ Below w2.heap.size w2 wr) (fun _ _ _ iv _ => nm - (intOf iv).toNat)
    case atStart => exact ⟨0, 0, 0, 0, Nat.zero_le _, rfl, rfl, rfl, rfl, rfl, rfl, rfl, Below.refl _ _⟩
    case round =>
      obtain ⟨i, o, k, n, hi, rfl, rfl, rfl, rfl, ho, hk, hn, hbel⟩ := hrel
      have HBR := Lib.hid (HB2.out.trans (hbel.mono HB2.out.size))
      have hmr := (hbel.block _ (Array.getElem?_eq_some_iff.1 HM2.out).1).trans HM2.out
      have y0 : wr.cell? ⟨w.heap.size, 0, none⟩ = some (.int .i64 d.presses) := cell_of_row wr _ 0 _ _ _ hmr
      have y1 : wr.cell? ⟨w.heap.size, 1, none⟩ = some (.int .i64 d.change) := cell_of_row wr _ 1 _ _ _ hmr
      have y2 : wr.cell? ⟨w.heap.size, 2, none⟩ = some (.slice Ac nm cc) := cell_of_row wr _ 2 _ _ _ hmr
      have y3 : wr.cell? ⟨w.heap.size, 3, none⟩ = some (.slice An nm cn) := cell_of_row wr _ 3 _ _ _ hmr
      have y4 : wr.cell? ⟨w.heap.size, 4, none⟩ = some (.slice Am nm cm) := cell_of_row wr _ 4 _ _ _ hmr
      have HBEL := Lib.hid hbel
      have hob := boundK_bd HG.out i (by have := HNC.out; omega)
      have hkb := work_bd HG.out i (by have := HNC.out; omega)
      have hnb := kinds_bd (d := d) i
      rw [← ho] at hob
      rw [← hk] at hkb
      rw [← hn] at hnb
      obtain ⟨o0, o1⟩ := hob
      obtain ⟨k0, k1⟩ := hkb
      obtain ⟨n0, n1⟩ := hnb
      have k2 : k ≤ 512000 := by omega
      have HO := Lib.hid ho
      have HK := Lib.hid hk
      have HN := Lib.hid hn
      clear hbel hmr ho hk hn k1
      by_cases hlt : i < nm
      · obtain ⟨b1, f1, c, hA1, ⟨_, hl1⟩, hc, hcl1⟩ := HCC.out i hlt
        obtain ⟨b2, f2, q, hA2, ⟨_, hl2⟩, hq, hcl2⟩ := HCN.out i hlt
        obtain ⟨b3, f3, m, hA3, ⟨_, hl3⟩, hm, hcl3⟩ := HCM.out i hlt
        cases hA1
        cases hA2
        cases hA3
        have hcv : cureOf d i = c := by unfold cureOf; rw [Int.toNat_natCast, at_of hc]
        have hqv : needOf d i = q := by unfold needOf; rw [Int.toNat_natCast, at_of hq]
        have hmv : mouldOf d i = m := by unfold mouldOf; rw [Int.toNat_natCast, at_of hm]
        have hil : i < d.cure.length := by have := HNC.out; omega
        have g1 := HG.out.ok.cure i hil
        have g2 := HG.out.ok.need i hil
        have g3 := HG.out.n64 i hil
        have g4 := HG.out.ok.mould i hil
        rw [hcv] at g1
        rw [hqv] at g2 g3
        rw [hmv] at g4
        obtain ⟨g5, g6⟩ := g1
        have z1 := (HBR.out.cell (p := ⟨b1, _, none⟩) hl1).trans hcl1
        have z2 := (HBR.out.cell (p := ⟨b2, _, none⟩) hl2).trans hcl2
        have z3 := (HBR.out.cell (p := ⟨b3, _, none⟩) hl3).trans hcl3
        have hK : boundK d (i + 1) = max o (c * upZ q (min m d.presses)) := by rw [HO.out, ← hcv, ← hqv, ← hmv]; rfl
        have hS : sumR (i + 1) (fun k => cureOf d k * needOf d k) = k + c * q := by rw [HK.out, ← hcv, ← hqv]; rfl
        have hT : sumR (i + 1) (fun k => if 0 < needOf d k then 1 else 0) = n + if 0 < q then 1 else 0 := by rw [HN.out, ← hqv]; rfl
        obtain ⟨mm, hmm'⟩ : ∃ mm, mm = min m d.presses := ⟨_, rfl⟩
        have hminE : (if d.presses < m then d.presses else m) = mm := by rw [hmm']; split <;> omega
        have hmm1 : 1 ≤ mm := by omega
        have hmm8 : mm ≤ 8 := by omega
        rw [← hmm'] at hK
        have hub := up_bd g2 hmm1
        have HUP := Lib.hid (fun w' => rup_any q mm w' g2 (by omega) hmm1 (by omega))
        obtain ⟨u, hu⟩ : ∃ u, u = upZ q mm := ⟨_, rfl⟩
        rw [← hu] at hub hK HUP
        have hcu := mul_bd (a := c) (b := u) (x := 1000) (y := 64) (by omega) g6 hub.1 (by omega)
        have hcq := mul_bd (a := c) (b := q) (x := 1000) (y := 64) (by omega) g6 g2 g3
        have HKK := Lib.hid hK
        have HSS := Lib.hid hS
        have HTT := Lib.hid hT
        have HMM := Lib.hid hmm'
        obtain ⟨hcu0, hcu1⟩ := hcu
        obtain ⟨o2, ho2⟩ : ∃ o2, o2 = max o (c * u) := ⟨_, rfl⟩
        have hmaxE : (if o < c * u then c * u else o) = o2 := by rw [ho2]; split <;> omega
        have HO2 : Hid (o2 = boundK d (i + 1)) := by show _ = _; rw [ho2, HKK.out]
        obtain ⟨hcq0, hcq1⟩ := hcq
        obtain ⟨hu0, hu1⟩ := hub
        have hlti : (i : Int) < (nm : Int) := by omega
        have hi0 : (0 : Int) ≤ (i : Int) := by omega
        have hw1 : IntKind.i64.wrap (c * u) = c * u := IntWalk.i64_in _ (by omega)
        clear hc hq hm hcl1 hcl2 hcl3 hcv hqv hmv hK hS hT hmm' hu ho2
        go_wp2_with fail
        refine seq_start (S := fun w' => w'.cell? ⟨w.heap.size, 0, none⟩ = some (.int .i64 d.presses) ∧ w'.cell? ⟨w.heap.size, 2, none⟩ = some (.slice (some ⟨b1, f1, none⟩) nm cc) ∧ w'.cell? ⟨w.heap.size, 3, none⟩ = some (.slice (some ⟨b2, f2, none⟩) nm cn) ∧ w'.cell? ⟨w.heap.size, 4, none⟩ = some (.slice (some ⟨b3, f3, none⟩) nm cm) ∧ w'.cell? ⟨b1, f1 + i, none⟩ = some (.int .i64 c) ∧ w'.cell? ⟨b2, f2 + i, none⟩ = some (.int .i64 q) ∧ w'.cell? ⟨b3, f3 + i, none⟩ = some (.int .i64 m)) (by kernel_rfl) (by kernel_rfl) (by exact ⟨y0, y2, y3, y4, z1, z2, z3⟩) ?_
        repeat (first
          | (refine seq_take0 (v := ?_) ?_ (fun _ _ _ h => h) (by kernel_rfl) ?_ ?_; rotate_left; (focus rfl); (focus (intro w' hSw; (try dsimp only at hSw); go_simp; (try with_reducible rfl); done)); (try simp only [Act.put, List.setIfInBounds_toArray, List.set_cons_zero, List.set_cons_succ]))
          | (refine seq_takeG (v := ?_) (g := ?_) (d := ?_) (b := ?_) (u := ?_) ?_ ?_ ?_ ?_ (fun _ _ _ h => h) (by kernel_rfl) ?_ ?_; rotate_left 5; (focus rfl); (focus rfl); (focus rfl); (focus (first | rfl | (go_simp; done))); (focus (intro w' hSw; (try dsimp only at hSw); go_simp; (try with_reducible rfl); done)); (try simp only [Act.put, List.setIfInBounds_toArray, List.set_cons_zero, List.set_cons_succ]))
          | (refine seq_skipG (g := ?_) (d := ?_) (b := ?_) (u := ?_) ?_ ?_ ?_ ?_ (fun _ _ _ h => h) (by kernel_rfl) ?_; rotate_left 4; (focus rfl); (focus rfl); (focus rfl); (focus (first | rfl | (go_simp; done))); (try simp only [Act.put, List.setIfInBounds_toArray, List.set_cons_zero, List.set_cons_succ])))
        refine seq_op (by kernel_rfl) (by rfl) (fun K hK => ?_)
        go_simp
        refine (HUP.out _).mono ?_
        rintro e w' ⟨rfl, rfl⟩
        refine hK.out _ _ ⟨y0, y2, y3, y4, z1, z2, z3⟩ ?_
        clear hK K
        repeat (first
          | (refine seq_take0 (v := ?_) ?_ (fun _ _ _ h => h) (by kernel_rfl) ?_ ?_; rotate_left; (focus rfl); (focus (intro w' hSw; (try dsimp only at hSw); go_simp; (try with_reducible rfl); done)); (try simp only [Act.put, List.setIfInBounds_toArray, List.set_cons_zero, List.set_cons_succ]))
          | (refine seq_takeG (v := ?_) (g := ?_) (d := ?_) (b := ?_) (u := ?_) ?_ ?_ ?_ ?_ (fun _ _ _ h => h) (by kernel_rfl) ?_ ?_; rotate_left 5; (focus rfl); (focus rfl); (focus rfl); (focus (first | rfl | (go_simp; done))); (focus (intro w' hSw; (try dsimp only at hSw); go_simp; (try with_reducible rfl); done)); (try simp only [Act.put, List.setIfInBounds_toArray, List.set_cons_zero, List.set_cons_succ]))
          | (refine seq_skipG (g := ?_) (d := ?_) (b := ?_) (u := ?_) ?_ ?_ ?_ ?_ (fun _ _ _ h => h) (by kernel_rfl) ?_; rotate_left 4; (focus rfl); (focus rfl); (focus rfl); (focus (first | rfl | (go_simp; done))); (try simp only [Act.put, List.setIfInBounds_toArray, List.set_cons_zero, List.set_cons_succ])))
        refine seq_done (by kernel_rfl) ?_
        have hw2 : IntKind.i64.wrap (q * c) = q * c := IntWalk.i64_in _ (by rw [Int.mul_comm q c]; omega)
        have hw3 : IntKind.i64.wrap (k + q * c) = k + q * c := IntWalk.i64_in _ (by rw [Int.mul_comm q c]; omega)
        go_wp2_with fail
        refine seq_start (S := fun w' => w'.cell? ⟨w.heap.size, 0, none⟩ = some (.int .i64 d.presses) ∧ w'.cell? ⟨w.heap.size, 2, none⟩ = some (.slice (some ⟨b1, f1, none⟩) nm cc) ∧ w'.cell? ⟨w.heap.size, 3, none⟩ = some (.slice (some ⟨b2, f2, none⟩) nm cn) ∧ w'.cell? ⟨w.heap.size, 4, none⟩ = some (.slice (some ⟨b3, f3, none⟩) nm cm) ∧ w'.cell? ⟨b1, f1 + i, none⟩ = some (.int .i64 c) ∧ w'.cell? ⟨b2, f2 + i, none⟩ = some (.int .i64 q) ∧ w'.cell? ⟨b3, f3 + i, none⟩ = some (.int .i64 m)) (by kernel_rfl) (by kernel_rfl) (by exact ⟨y0, y2, y3, y4, z1, z2, z3⟩) ?_
        repeat (first
          | (refine seq_take0 (v := ?_) ?_ (fun _ _ _ h => h) (by kernel_rfl) ?_ ?_; rotate_left; (focus rfl); (focus (intro w' hSw; (try dsimp only at hSw); go_simp; (try with_reducible rfl); done)); (try simp only [Act.put, List.setIfInBounds_toArray, List.set_cons_zero, List.set_cons_succ]))
          | (refine seq_takeG (v := ?_) (g := ?_) (d := ?_) (b := ?_) (u := ?_) ?_ ?_ ?_ ?_ (fun _ _ _ h => h) (by kernel_rfl) ?_ ?_; rotate_left 5; (focus rfl); (focus rfl); (focus rfl); (focus (first | rfl | (go_simp; done))); (focus (intro w' hSw; (try dsimp only at hSw); go_simp; (try with_reducible rfl); done)); (try simp only [Act.put, List.setIfInBounds_toArray, List.set_cons_zero, List.set_cons_succ]))
          | (refine seq_skipG (g := ?_) (d := ?_) (b := ?_) (u := ?_) ?_ ?_ ?_ ?_ (fun _ _ _ h => h) (by kernel_rfl) ?_; rotate_left 4; (focus rfl); (focus rfl); (focus rfl); (focus (first | rfl | (go_simp; done))); (try simp only [Act.put, List.setIfInBounds_toArray, List.set_cons_zero, List.set_cons_succ])))
        refine seq_done (by kernel_rfl) ?_
        have HBD : Hid (Below w2.heap.size w2 wr.drew.drew) := HBEL.out.drew.drew
        have hcqw : c * q ≤ 64000 := by omega
        clear hminE hmaxE hw1 hw2 hw3
        by_cases hq0 : 0 < q
        · have HTT2 : Hid (n + 1 = sumR (i + 1) (fun k => if 0 < needOf d k then 1 else 0)) := by show _ = _; rw [HTT.out, if_pos hq0]
          go_wp2_with fail
          go_roundw
          case rel => exact ⟨i + 1, o2, _, _, by omega, by go_num, rfl, rfl, rfl, HO2.out, (by rw [HSS.out, Int.mul_comm]), HTT2.out, HBD.out⟩
          case measure => simp [intOf]; omega
        · have HTT2 : Hid (n = sumR (i + 1) (fun k => if 0 < needOf d k then 1 else 0)) := by show _ = _; rw [HTT.out, if_neg hq0, Int.add_zero]
          go_wp2_with fail
          go_roundw
          case rel => exact ⟨i + 1, o2, _, _, by omega, by go_num, rfl, rfl, rfl, HO2.out, (by rw [HSS.out, Int.mul_comm]), HTT2.out, HBD.out⟩
          case measure => simp [intOf]; omega
      · have hin : i = nm := by omega
        have hlen : d.cure.length = nm := HNC.out
        have HO3 : Hid (o = boundK d d.cure.length) := by show _ = _; rw [hlen, ← hin]; exact HO.out
        have HK3 : Hid (k = workOf d) := by show _ = _; unfold workOf; rw [hlen, ← hin]; exact HK.out
        have HN3 : Hid (n = kindsOf d) := by show _ = _; unfold kindsOf; rw [hlen, ← hin]; exact HN.out
        obtain ⟨x, hx⟩ : ∃ x, x = max (n - d.presses) 0 := ⟨_, rfl⟩
        have hx0 : 0 ≤ x := by omega
        have hx8 : x ≤ 8 := by omega
        have hcx := mul_bd (a := d.change) (b := x) (x := 1000) (y := 8) hc0 hc1 hx0 hx8
        obtain ⟨hcx0, hcx1⟩ := hcx
        have hub := up_bd (a := k + d.change * x) (b := d.presses) (by omega) hp1
        have HUP := Lib.hid (fun w' => rup_any (k + d.change * x) d.presses w' (by omega) (by omega) hp1 (by omega))
        have HRES : Hid (bo = max o (upZ (k + d.change * x) d.presses)) := by
          show _ = _
          rw [HB0.out]
          unfold boundW
          rw [← HO3.out, ← HK3.out, ← HN3.out, ← hx]
        obtain ⟨z, hz⟩ : ∃ z, z = n - d.presses := ⟨_, rfl⟩
        have hnz : n - d.presses = z := hz.symm
        have hxz : x = max z 0 := by rw [hx, hz]
        obtain ⟨u2, hu2⟩ : ∃ u2, u2 = upZ (k + d.change * x) d.presses := ⟨_, rfl⟩
        rw [← hu2] at HUP HRES
        have HU2 : Hid ((if o < u2 then u2 else o) = bo) := by show _ = _; rw [HRES.out]; split <;> omega
        have hlti : ¬ ((i : Int) < (nm : Int)) := by omega
        clear hx hin hlen hub HO HK HN hu2 hz
        by_cases h0 : 0 < z
        · obtain rfl : x = z := by omega
          clear hxz
          go_wp2_with fail
          refine (HUP.out _).mono ?_
          rintro e w' ⟨rfl, rfl⟩
          have hm2 := HU2.out
          go_wp2_with fail
          go_ret2
          exact ⟨rfl, HBR.out⟩
        · obtain rfl : x = 0 := by omega
          rw [Int.mul_zero, Int.add_zero] at HUP
          clear hxz
          go_wp2_with fail
          refine (HUP.out _).mono ?_
          rintro e w' ⟨rfl, rfl⟩
          have hm2 := HU2.out
          go_wp2_with fail
          go_ret2
          exact ⟨rfl, HBR.out⟩
  · have hz' : (we != 0) = true := by rw [bne_iff_ne]; exact hz
    have HZ : Hid (bo = 0) := by show bo = 0; rw [HBO.out, if_neg hz]
    clear hz
    go_enter Tryz.func10, Tryz.ntmps10
    go_wp2_with fail
    rw [← HW1.out]
    refine (HCH.out W1 HB1.out).mono ?_
    rintro e w2 ⟨rfl, hb2⟩
    have HB2 := Lib.hid (HB1.out.trans (hb2.mono HB1.out.size))
    clear hb2 x0 x1 x2 x3 x4
    go_wp2_with fail
    go_ret2
    exact ⟨by rw [HZ.out]; rfl, HB2.out⟩
end Go.Proofs.YtogccnngdfancaaGreat
