/- The reference's Right. -/
import Derived.Test.YtogccnngdfancaaBd
namespace Go.Proofs.Ytogccnngdfancaa
open Go.RowKit
set_option linter.unusedVariables false
set_option linter.unusedSimpArgs false
set_option maxRecDepth 100000 in
set_option maxHeartbeats 2000000 in
theorem right_any (v : Value) (d : WorksD) (S : Nat → Prop) (w : World) (hv : WkV w S v d) :
    Calls Try.prog 20 #[v] w fun e w' => e = .returned (.int .i64 (wErr d)) ∧ Below w.heap.size w w' := by
  obtain ⟨vc, vn, vm, rfl, h1, h2, h3⟩ := hv.lt
  obtain ⟨Ac, nc, cc, rfl, hnc, -, hmc, hcc⟩ := h1.open_
  obtain ⟨An, nn, cn, rfl, hnn, -, hmn, hcn⟩ := h2.open_
  obtain ⟨Am, nm, cm, rfl, hnm, -, hmm, hcm⟩ := h3.open_
  have HW : Hid (wErr d = if d.presses < 1 ∨ 8 < d.presses ∨ d.change < 0 ∨ 1000 < d.change then 1 else if nc ≠ nn ∨ nc ≠ nm ∨ 8 < nc then 4 else if okUp d nc = false then 1 else roomErr 64 d.need) := by unfold wErr Hid; rw [hnc, hnn, hnm]
  obtain ⟨P, hP⟩ : ∃ P, P = d.presses := ⟨_, rfl⟩
  obtain ⟨C, hC⟩ : ∃ C, C = d.change := ⟨_, rfl⟩
  rw [← hP, ← hC] at HW ⊢
  obtain ⟨W1, hW1⟩ : ∃ W1, W1 = w.alloc (.cells #[.int .i64 P, .int .i64 C, .slice Ac nc cc, .slice An nn cn, .slice Am nm cm] 35) := ⟨_, rfl⟩
  have hm1 := heap_alloc_new w (.cells #[.int .i64 P, .int .i64 C, .slice Ac nc cc, .slice An nn cn, .slice Am nm cm] 35)
  have hb1 : Below w.heap.size w W1 := by rw [hW1]; exact (Below.refl _ w).alloc (Nat.le_refl _) _
  rw [← hW1] at hm1
  have x0 : W1.cell? ⟨w.heap.size, 0, none⟩ = some (.int .i64 P) := cell_of_row W1 _ 0 _ _ _ hm1
  have x1 : W1.cell? ⟨w.heap.size, 1, none⟩ = some (.int .i64 C) := cell_of_row W1 _ 1 _ _ _ hm1
  have x2 : W1.cell? ⟨w.heap.size, 2, none⟩ = some (.slice Ac nc cc) := cell_of_row W1 _ 2 _ _ _ hm1
  have x3 : W1.cell? ⟨w.heap.size, 3, none⟩ = some (.slice An nn cn) := cell_of_row W1 _ 3 _ _ _ hm1
  have x4 : W1.cell? ⟨w.heap.size, 4, none⟩ = some (.slice Am nm cm) := cell_of_row W1 _ 4 _ _ _ hm1
  have HW1 := Lib.hid hW1
  have HB1 := Lib.hid hb1
  have HCC := Lib.hid hcc
  have HCN := Lib.hid hcn
  have HCM := Lib.hid hcm
  have HNC := Lib.hid hnc
  have HNN := Lib.hid hnn
  have HNM := Lib.hid hnm
  clear hP hC hW1 hm1 hb1 hcc hcn hcm hnc hnn hnm h1 h2 h3 hv
  have hcase : ((P < 1 ∨ (1 ≤ P ∧ 8 < P) ∨ (1 ≤ P ∧ P ≤ 8 ∧ C < 0) ∨ (1 ≤ P ∧ P ≤ 8 ∧ 0 ≤ C ∧ 1000 < C)) ∧ wErr d = 1) ∨
      ((1 ≤ P ∧ P ≤ 8 ∧ 0 ≤ C ∧ C ≤ 1000) ∧ ((nc ≠ nn ∨ (nc = nn ∧ nc ≠ nm) ∨ (nc = nn ∧ nc = nm ∧ 8 < nc)) ∧ wErr d = 4)) ∨
      ((1 ≤ P ∧ P ≤ 8 ∧ 0 ≤ C ∧ C ≤ 1000) ∧ (nc = nn ∧ nc = nm ∧ nc ≤ 8) ∧ wErr d = if okUp d nc = false then 1 else roomErr 64 d.need) := by
    by_cases a : P < 1 ∨ 8 < P ∨ C < 0 ∨ 1000 < C
    · refine .inl ⟨by omega, ?_⟩
      rw [HW.out, if_pos a]
    · by_cases b : nc ≠ nn ∨ nc ≠ nm ∨ 8 < nc
      · refine .inr (.inl ⟨by omega, by omega, ?_⟩)
        rw [HW.out, if_neg a, if_pos b]
      · refine .inr (.inr ⟨by omega, by omega, ?_⟩)
        rw [HW.out, if_neg a, if_neg b]
  clear HW
  rcases hcase with ⟨h, hr⟩ | ⟨⟨a1, a2, a3, a4⟩, h, hr⟩ | ⟨⟨a1, a2, a3, a4⟩, ⟨rfl, rfl, h8⟩, hr⟩
  · have HR := Lib.hid hr
    clear hr
    rcases h with h | ⟨h1, h2⟩ | ⟨h1, h2, h3⟩ | ⟨h1, h2, h3, h4⟩
    all_goals
      go_enter Try.func20, Try.ntmps20
      go_wp2_with fail
      rw [← HW1.out]
      go_wp2_with fail
      go_ret
      exact ⟨by rw [HR.out]; rfl, HB1.out⟩
  · have HR := Lib.hid hr
    clear hr
    rcases h with h | ⟨h1, h2⟩ | ⟨h1, h2, h3⟩
    · have t1 : ((nc : Int) != (nn : Int)) = true := by rw [bne_iff_ne]; omega
      have t2 : (nc != nn) = true := by rw [bne_iff_ne]; omega
      go_enter Try.func20, Try.ntmps20
      go_wp2_with fail
      rw [← HW1.out]
      go_wp2_with fail
      go_ret
      exact ⟨by rw [HR.out]; rfl, HB1.out⟩
    · subst h1
      have t1 : ((nc : Int) != (nm : Int)) = true := by rw [bne_iff_ne]; omega
      have t2 : (nc != nm) = true := by rw [bne_iff_ne]; omega
      go_enter Try.func20, Try.ntmps20
      go_wp2_with fail
      rw [← HW1.out]
      go_wp2_with fail
      go_ret
      exact ⟨by rw [HR.out]; rfl, HB1.out⟩
    · subst h1
      subst h2
      have t3 : (8 : Int) < (nc : Int) := by omega
      go_enter Try.func20, Try.ntmps20
      go_wp2_with fail
      rw [← HW1.out]
      go_wp2_with fail
      go_ret
      exact ⟨by rw [HR.out]; rfl, HB1.out⟩
  · have HR := Lib.hid hr
    have h8' : ¬ ((8 : Int) < (nc : Int)) := by omega
    clear hr
    go_enter Try.func20, Try.ntmps20
    go_wp2_with fail
    rw [← HW1.out]
    go_wp2_with fail
    have HRR : Hid (okUp d nc = false → wErr d = 1) := fun h => by rw [HR.out, if_pos h]
    have HRS : Hid (okUp d nc = true → wErr d = roomErr 64 d.need) := fun h => by rw [HR.out, if_neg (by rw [h]; simp)]
    clear HR
    go_loop [4, 5] (fun av iv => ∃ (i : Nat) (a : Int), i ≤ nc ∧ iv = .int .i64 (i : Int) ∧ av = .int .i64 a ∧ 0 ≤ a ∧ a ≤ 128 ∧ okUp d i = true ∧ ((a ≤ 64 ∧ roomErr 64 d.need = roomErr (64 - a) (d.need.drop i)) ∨ (64 < a ∧ roomErr 64 d.need = 4))) (fun _ iv => nc - (intOf iv).toNat)
    case atStart => exact ⟨0, 0, Nat.zero_le _, rfl, rfl, by omega, by omega, rfl, .inl ⟨by omega, rfl⟩⟩
    case round =>
      obtain ⟨i, a, hi, rfl, rfl, a0, a128, hup, hro⟩ := hrel
      have HUP := Lib.hid hup
      have HRO := Lib.hid hro
      clear hup hro
      by_cases hlt : i < nc
      · obtain ⟨b1, o1, c, hA1, _, hc, hcl1⟩ := HCC.out i hlt
        obtain ⟨b2, o2, n, hA2, _, hn, hcl2⟩ := HCN.out i hlt
        obtain ⟨b3, o3, m, hA3, _, hm, hcl3⟩ := HCM.out i hlt
        cases hA1
        cases hA2
        cases hA3
        have y1 := (HB1.out.cell (p := ⟨b1, _, none⟩) (World.block_lt_of_cell? w _ hcl1)).trans hcl1
        have y2 := (HB1.out.cell (p := ⟨b2, _, none⟩) (World.block_lt_of_cell? w _ hcl2)).trans hcl2
        have y3 := (HB1.out.cell (p := ⟨b3, _, none⟩) (World.block_lt_of_cell? w _ hcl3)).trans hcl3
        have hok : okK d i = (decide (1 ≤ c) && (decide (c ≤ 1000) && (decide (0 ≤ n) && decide (1 ≤ m)))) := by
          unfold okK cureOf needOf mouldOf
          rw [Int.toNat_natCast, at_of hc, at_of hn, at_of hm]
        have hdrop : d.need.drop i = n :: d.need.drop (i + 1) := by rw [List.drop_eq_getElem_cons (List.getElem?_eq_some_iff.1 hn).1, (List.getElem?_eq_some_iff.1 hn).2]
        have hw : ((c < 1 ∨ (1 ≤ c ∧ 1000 < c) ∨ (1 ≤ c ∧ c ≤ 1000 ∧ n < 0) ∨ (1 ≤ c ∧ c ≤ 1000 ∧ 0 ≤ n ∧ m < 1)) ∧ wErr d = 1) ∨ ((1 ≤ c ∧ c ≤ 1000 ∧ 0 ≤ n ∧ 1 ≤ m) ∧ okUp d (i + 1) = true) := by
          by_cases a : 1 ≤ c ∧ c ≤ 1000 ∧ 0 ≤ n ∧ 1 ≤ m
          · refine .inr ⟨a, ?_⟩
            rw [okUp_succ, HUP.out, hok]
            simp [a]
          · refine .inl ⟨by omega, ?_⟩
            have hf : okK d i = false := by rw [hok]; simp; omega
            exact HRR.out (okUp_no hf hlt)
        have hlti : (i : Int) < (nc : Int) := by omega
        have HNX : Hid (∀ a', ((64 < n ∨ 64 < a) ∧ a' = 65) ∨ (n ≤ 64 ∧ a ≤ 64 ∧ a' = a + n) → 0 ≤ n → 0 ≤ a' ∧ a' ≤ 128 ∧ ((a' ≤ 64 ∧ roomErr 64 d.need = roomErr (64 - a') (d.need.drop (i + 1))) ∨ (64 < a' ∧ roomErr 64 d.need = 4))) := fun a' h hn0 => by
          have hro := HRO.out
          rw [hdrop] at hro
          simp only [roomErr] at hro
          rcases h with ⟨h, rfl⟩ | ⟨h1, h2, rfl⟩
          · refine ⟨by omega, by omega, .inr ⟨by omega, ?_⟩⟩
            rcases hro with ⟨k1, k2⟩ | ⟨k1, k2⟩
            · rw [k2, if_pos (by omega)]
            · exact k2
          · rcases hro with ⟨k1, k2⟩ | ⟨k1, k2⟩
            · by_cases k3 : 64 - a < n
              · exact ⟨by omega, by omega, .inr ⟨by omega, by rw [k2, if_pos k3]⟩⟩
              · exact ⟨by omega, by omega, .inl ⟨by omega, by rw [k2, if_neg k3, show 64 - (a + n) = 64 - a - n by omega]⟩⟩
            · omega
        clear hc hn hm hok hcl1 hcl2 hcl3 hdrop
        rcases hw with ⟨h, hr⟩ | ⟨⟨k1, k2, k3, k4⟩, hu⟩
        · have HRX := Lib.hid hr
          clear hr
          rcases h with h | ⟨k1, k2⟩ | ⟨k1, k2, k3⟩ | ⟨k1, k2, k3, k4⟩
          all_goals
            go_wp2_with fail
            go_ret
            exact ⟨by rw [HRX.out]; rfl, HB1.out⟩
        · have HU := Lib.hid hu
          clear hu
          by_cases q1 : 64 < n
          · have HX := Lib.hid (HNX.out 65 (.inl ⟨.inl q1, rfl⟩) k3)
            go_wp2_with fail
            go_round
            case rel => exact ⟨i + 1, 65, by omega, by go_num, rfl, HX.out.1, HX.out.2.1, HU.out, HX.out.2.2⟩
            case measure => simp [intOf]; omega
          · by_cases q2 : 64 < a
            · have HX := Lib.hid (HNX.out 65 (.inl ⟨.inr q2, rfl⟩) k3)
              go_wp2_with fail
              go_round
              case rel => exact ⟨i + 1, 65, by omega, by go_num, rfl, HX.out.1, HX.out.2.1, HU.out, HX.out.2.2⟩
              case measure => simp [intOf]; omega
            · have HX := Lib.hid (HNX.out (a + n) (.inr ⟨by omega, by omega, rfl⟩) k3)
              go_wp2_with fail
              go_round
              case rel => exact ⟨i + 1, a + n, by omega, by go_num, rfl, HX.out.1, HX.out.2.1, HU.out, HX.out.2.2⟩
              case measure => simp [intOf]; omega
      · have hin : i = nc := by omega
        have hlti : ¬ ((i : Int) < (nc : Int)) := by omega
        have hres : wErr d = if 64 < a then 4 else 0 := by
          rw [HRS.out (by rw [← hin]; exact HUP.out)]
          have hd : d.need.drop i = [] := by rw [hin]; exact List.drop_of_length_le (by have := HNN.out; omega)
          rcases HRO.out with ⟨k1, k2⟩ | ⟨k1, k2⟩
          · rw [k2, hd, if_neg (by omega)]; rfl
          · rw [k2, if_pos k1]
        have HX := Lib.hid hres
        clear hres hin
        by_cases q : 64 < a
        · have HY : Hid (wErr d = 4) := by show _ = _; rw [HX.out, if_pos q]
          go_wp2_with fail
          go_ret
          exact ⟨by rw [HY.out]; rfl, HB1.out⟩
        · have HY : Hid (wErr d = 0) := by show _ = _; rw [HX.out, if_neg q]
          go_wp2_with fail
          go_ret
          exact ⟨by rw [HY.out]; rfl, HB1.out⟩
end Go.Proofs.Ytogccnngdfancaa
