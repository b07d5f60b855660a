/- The walk of the check of works. -/
import Derived.Test.YtogccnngdfancaaRun
namespace Go.Proofs.Ytogccnngdfancaa
open Go.RowKit
set_option linter.unusedVariables false
set_option linter.unusedSimpArgs false
def okK (d : WorksD) (k : Nat) : Bool := decide (1 ≤ cureOf d k) && (decide (cureOf d k ≤ 1000) && (decide (0 ≤ needOf d k) && decide (1 ≤ mouldOf d k)))
def okUp (d : WorksD) (n : Nat) : Bool := (List.range n).all (okK d)
theorem okUp_succ (d : WorksD) (n : Nat) : okUp d (n + 1) = (okUp d n && okK d n) := by unfold okUp; rw [List.range_succ, List.all_append]; simp
theorem okUp_no {d : WorksD} {k : Nat} (h : okK d k = false) : ∀ {n : Nat}, k < n → okUp d n = false
  | 0, hk => absurd hk (by omega)
  | n + 1, hk => by
    rw [okUp_succ]
    by_cases e : k = n
    · subst e; rw [h]; simp
    · rw [okUp_no h (by omega)]; rfl
def roomErr (r : Int) : List Int → Int
  | [] => 0
  | n :: l => if r < n then 4 else roomErr (r - n) l
def wErr (d : WorksD) : Int :=
  if d.presses < 1 ∨ 8 < d.presses ∨ d.change < 0 ∨ 1000 < d.change then 1
  else if d.cure.length ≠ d.need.length ∨ d.cure.length ≠ d.moulds.length ∨ 8 < d.cure.length then 4
  else if okUp d d.cure.length = false then 1
  else roomErr 64 d.need
theorem at_of {l : List Int} {k : Nat} {x : Int} (h : l[k]? = some x) : l.getD k 0 = x := by rw [List.getD_eq_getElem?_getD, h]; rfl
set_option maxRecDepth 100000 in
set_option maxHeartbeats 2000000 in
theorem wcheck_any (v : Value) (d : WorksD) (S : Nat → Prop) (w : World) (hv : WkV w S v d) :
    Calls Try.prog 17 #[v] w fun e w' => e = .returned (.int .i64 (wErr d)) ∧ Below w.heap.size w w' := by
  obtain ⟨vc, vn, vm, rfl, h1, h2, h3⟩ := hv.lt
  obtain ⟨Ac, nc, cc, rfl, hnc, -, hmc, hcc⟩ := h1.open_
  obtain ⟨An, nn, cn, rfl, hnn, -, hmn, hcn⟩ := h2.open_
  obtain ⟨Am, nm, cm, rfl, hnm, -, hmm, hcm⟩ := h3.open_
  have HW : Hid (wErr d = if d.presses < 1 ∨ 8 < d.presses ∨ d.change < 0 ∨ 1000 < d.change then 1 else if nc ≠ nn ∨ nc ≠ nm ∨ 8 < nc then 4 else if okUp d nc = false then 1 else roomErr 64 d.need) := by unfold wErr Hid; rw [hnc, hnn, hnm]
  obtain ⟨P, hP⟩ : ∃ P, P = d.presses := ⟨_, rfl⟩
  obtain ⟨C, hC⟩ : ∃ C, C = d.change := ⟨_, rfl⟩
  rw [← hP, ← hC] at HW ⊢
  obtain ⟨W1, hW1⟩ : ∃ W1, W1 = w.alloc (.cells #[.int .i64 P, .int .i64 C, .slice Ac nc cc, .slice An nn cn, .slice Am nm cm] 31) := ⟨_, rfl⟩
  have hm1 := heap_alloc_new w (.cells #[.int .i64 P, .int .i64 C, .slice Ac nc cc, .slice An nn cn, .slice Am nm cm] 31)
  have hb1 : Below w.heap.size w W1 := by rw [hW1]; exact (Below.refl _ w).alloc (Nat.le_refl _) _
  rw [← hW1] at hm1
  have x0 : W1.cell? ⟨w.heap.size, 0, none⟩ = some (.int .i64 P) := cell_of_row W1 _ 0 _ _ _ hm1
  have x1 : W1.cell? ⟨w.heap.size, 1, none⟩ = some (.int .i64 C) := cell_of_row W1 _ 1 _ _ _ hm1
  have x2 : W1.cell? ⟨w.heap.size, 2, none⟩ = some (.slice Ac nc cc) := cell_of_row W1 _ 2 _ _ _ hm1
  have x3 : W1.cell? ⟨w.heap.size, 3, none⟩ = some (.slice An nn cn) := cell_of_row W1 _ 3 _ _ _ hm1
  have x4 : W1.cell? ⟨w.heap.size, 4, none⟩ = some (.slice Am nm cm) := cell_of_row W1 _ 4 _ _ _ hm1
  have HW1 := Lib.hid hW1
  have HB1 := Lib.hid hb1
  have HCC := Lib.hid hcc
  have HCN := Lib.hid hcn
  have HCM := Lib.hid hcm
  have HNC := Lib.hid hnc
  have HNN := Lib.hid hnn
  have HNM := Lib.hid hnm
  clear hP hC hW1 hm1 hb1 hcc hcn hcm hnc hnn hnm h1 h2 h3 hv
  have hcase : ((P < 1 ∨ (1 ≤ P ∧ 8 < P) ∨ (1 ≤ P ∧ P ≤ 8 ∧ C < 0) ∨ (1 ≤ P ∧ P ≤ 8 ∧ 0 ≤ C ∧ 1000 < C)) ∧ wErr d = 1) ∨
      ((1 ≤ P ∧ P ≤ 8 ∧ 0 ≤ C ∧ C ≤ 1000) ∧ ((nc ≠ nn ∨ (nc = nn ∧ nc ≠ nm) ∨ (nc = nn ∧ nc = nm ∧ 8 < nc)) ∧ wErr d = 4)) ∨
      ((1 ≤ P ∧ P ≤ 8 ∧ 0 ≤ C ∧ C ≤ 1000) ∧ (nc = nn ∧ nc = nm ∧ nc ≤ 8) ∧ wErr d = if okUp d nc = false then 1 else roomErr 64 d.need) := by
    by_cases a : P < 1 ∨ 8 < P ∨ C < 0 ∨ 1000 < C
    · refine .inl ⟨by omega, ?_⟩
      rw [HW.out, if_pos a]
    · by_cases b : nc ≠ nn ∨ nc ≠ nm ∨ 8 < nc
      · refine .inr (.inl ⟨by omega, by omega, ?_⟩)
        rw [HW.out, if_neg a, if_pos b]
      · refine .inr (.inr ⟨by omega, by omega, ?_⟩)
        rw [HW.out, if_neg a, if_neg b]
  clear HW
  rcases hcase with ⟨h, hr⟩ | ⟨⟨a1, a2, a3, a4⟩, h, hr⟩ | ⟨⟨a1, a2, a3, a4⟩, ⟨rfl, rfl, h8⟩, hr⟩
  · have HR := Lib.hid hr
    clear hr
    rcases h with h | ⟨h1, h2⟩ | ⟨h1, h2, h3⟩ | ⟨h1, h2, h3, h4⟩
    all_goals
      go_enter Try.func17, Try.ntmps17
      go_wp2_with fail
      rw [← HW1.out]
      go_wp2_with fail
      go_ret
      exact ⟨by rw [HR.out]; rfl, HB1.out⟩
  · have HR := Lib.hid hr
    clear hr
    rcases h with h | ⟨h1, h2⟩ | ⟨h1, h2, h3⟩
    · have t1 : ((nc : Int) != (nn : Int)) = true := by rw [bne_iff_ne]; omega
      have t2 : (nc != nn) = true := by rw [bne_iff_ne]; omega
      go_enter Try.func17, Try.ntmps17
      go_wp2_with fail
      rw [← HW1.out]
      go_wp2_with fail
      go_ret
      exact ⟨by rw [HR.out]; rfl, HB1.out⟩
    · subst h1
      have t1 : ((nc : Int) != (nm : Int)) = true := by rw [bne_iff_ne]; omega
      have t2 : (nc != nm) = true := by rw [bne_iff_ne]; omega
      go_enter Try.func17, Try.ntmps17
      go_wp2_with fail
      rw [← HW1.out]
      go_wp2_with fail
      go_ret
      exact ⟨by rw [HR.out]; rfl, HB1.out⟩
    · subst h1
      subst h2
      have t3 : (8 : Int) < (nc : Int) := by omega
      go_enter Try.func17, Try.ntmps17
      go_wp2_with fail
      rw [← HW1.out]
      go_wp2_with fail
      go_ret
      exact ⟨by rw [HR.out]; rfl, HB1.out⟩
  · have HR := Lib.hid hr
    have h8' : ¬ ((8 : Int) < (nc : Int)) := by omega
    clear hr
    go_enter Try.func17, Try.ntmps17
    go_wp2_with fail
    rw [← HW1.out]
    go_wp2_with fail
    go_loop [53] (fun iv => ∃ i : Nat, i ≤ nc ∧ iv = .int .i64 (i : Int) ∧ okUp d i = true) (fun iv => nc - (intOf iv).toNat)
    case atStart => exact ⟨0, Nat.zero_le _, rfl, rfl⟩
    case round =>
      obtain ⟨i, hi, rfl, hup⟩ := hrel
      have HUP := Lib.hid hup
      clear hup
      by_cases hlt : i < nc
      · obtain ⟨b1, o1, c, hA1, _, hc, hcl1⟩ := HCC.out i hlt
        obtain ⟨b2, o2, n, hA2, _, hn, hcl2⟩ := HCN.out i hlt
        obtain ⟨b3, o3, m, hA3, _, hm, hcl3⟩ := HCM.out i hlt
        cases hA1
        cases hA2
        cases hA3
        have y1 := (HB1.out.cell (p := ⟨b1, _, none⟩) (World.block_lt_of_cell? w _ hcl1)).trans hcl1
        have y2 := (HB1.out.cell (p := ⟨b2, _, none⟩) (World.block_lt_of_cell? w _ hcl2)).trans hcl2
        have y3 := (HB1.out.cell (p := ⟨b3, _, none⟩) (World.block_lt_of_cell? w _ hcl3)).trans hcl3
        have hok : okK d i = (decide (1 ≤ c) && (decide (c ≤ 1000) && (decide (0 ≤ n) && decide (1 ≤ m)))) := by
          unfold okK cureOf needOf mouldOf
          rw [Int.toNat_natCast, at_of hc, at_of hn, at_of hm]
        have hw : ((c < 1 ∨ (1 ≤ c ∧ 1000 < c) ∨ (1 ≤ c ∧ c ≤ 1000 ∧ n < 0) ∨ (1 ≤ c ∧ c ≤ 1000 ∧ 0 ≤ n ∧ m < 1)) ∧ wErr d = 1) ∨ ((1 ≤ c ∧ c ≤ 1000 ∧ 0 ≤ n ∧ 1 ≤ m) ∧ okUp d (i + 1) = true) := by
          by_cases a : 1 ≤ c ∧ c ≤ 1000 ∧ 0 ≤ n ∧ 1 ≤ m
          · refine .inr ⟨a, ?_⟩
            rw [okUp_succ, HUP.out, hok]
            simp [a]
          · refine .inl ⟨by omega, ?_⟩
            have hf : okK d i = false := by rw [hok]; simp; omega
            rw [HR.out, if_pos (okUp_no hf hlt)]
        have hlti : (i : Int) < (nc : Int) := by omega
        clear hc hn hm hok hcl1 hcl2 hcl3
        rcases hw with ⟨h, hr⟩ | ⟨⟨k1, k2, k3, k4⟩, hu⟩
        · have HRR := Lib.hid hr
          clear hr
          rcases h with h | ⟨k1, k2⟩ | ⟨k1, k2, k3⟩ | ⟨k1, k2, k3, k4⟩
          all_goals
            go_wp2_with fail
            go_ret
            exact ⟨by rw [HRR.out]; rfl, HB1.out⟩
        · have HU := Lib.hid hu
          clear hu
          go_wp2_with fail
          go_round
          case rel => exact ⟨i + 1, by omega, by go_num, HU.out⟩
          case measure => simp [intOf]; omega
      · have HRR : Hid (wErr d = roomErr 64 d.need) := by
          have hin : i = nc := by omega
          show _ = _
          rw [HR.out, if_neg (by rw [← hin, HUP.out]; simp)]
        have hlti : ¬ ((i : Int) < (nc : Int)) := by omega
        have HN0 : Hid (∀ k n, d.need[k]? = some n → k < nc → 0 ≤ n) := fun k n hn hk => by
          have hin : i = nc := by omega
          cases hq : okK d k with
          | false => have := okUp_no hq hk; rw [← hin, HUP.out] at this; cases this
          | true =>
            unfold okK needOf at hq
            rw [Int.toNat_natCast, at_of hn] at hq
            simp only [Bool.and_eq_true, decide_eq_true_eq] at hq
            exact hq.2.2.1
        clear HR HUP
        go_wp2_with fail
        go_loop [5, 84] (fun rv iv => ∃ (k : Nat) (r : Int), k ≤ nc ∧ iv = .int .i64 (k : Int) ∧ rv = .int .i64 r ∧ 0 ≤ r ∧ r ≤ 64 ∧ wErr d = roomErr r (d.need.drop k)) (fun _ iv => nc - (intOf iv).toNat)
        case atStart => exact ⟨0, 64, Nat.zero_le _, rfl, rfl, by omega, by omega, HRR.out⟩
        case round =>
          obtain ⟨k, r, hk, rfl, rfl, r0, r64, hr⟩ := hrel
          by_cases hltk : k < nc
          · obtain ⟨b2, o2, n, hA2, _, hn, hcl2⟩ := HCN.out k hltk
            cases hA2
            have y2 := (HB1.out.cell (p := ⟨b2, _, none⟩) (World.block_lt_of_cell? w _ hcl2)).trans hcl2
            rw [List.drop_eq_getElem_cons (List.getElem?_eq_some_iff.1 hn).1, (List.getElem?_eq_some_iff.1 hn).2] at hr
            simp only [roomErr] at hr
            have hlk : (k : Int) < (nc : Int) := by omega
            have hn0 := HN0.out k n hn hltk
            clear hcl2 hn
            by_cases hrn : r < n
            · rw [if_pos hrn] at hr
              have HR := Lib.hid hr
              clear hr
              go_wp2_with fail
              go_ret
              exact ⟨by rw [HR.out]; rfl, HB1.out⟩
            · rw [if_neg hrn] at hr
              have HR := Lib.hid hr
              clear hr
              go_wp2_with fail
              go_round
              case rel => exact ⟨k + 1, r - n, by omega, by go_num, rfl, by omega, by omega, HR.out⟩
              case measure => simp [intOf]; omega
          · have hkn : d.need.drop k = [] := List.drop_eq_nil_of_le (by have := HNN.out; omega)
            rw [hkn] at hr
            have HR := Lib.hid hr
            have hlk : ¬ ((k : Int) < (nc : Int)) := by omega
            clear hr hkn
            go_wp2_with fail
            go_ret
            exact ⟨by rw [HR.out]; rfl, HB1.out⟩
end Go.Proofs.Ytogccnngdfancaa
