/- The walk of the statement PlantBounds. -/
import Derived.Test.YtogccnngdfancaaJobsB
import Derived.Test.YtogccnngdfancaaPlanW
import Derived.Test.YtogccnngdfancaaAwake
namespace Go.Proofs.Ytogccnngdfancaa
open Go.RowKit
set_option linter.unusedVariables false
set_option linter.unusedSimpArgs false
theorem flat_start : ∀ (l : List JobD) (i : Nat) (s : Int), ∃ l' : List JobD, l'.length = l.length ∧ (l.flatMap jobC).set (i * 3 + 2) (.int .i64 s) = l'.flatMap jobC
  | [], i, s => ⟨[], rfl, by simp⟩
  | x :: l, 0, s => ⟨⟨x.press, x.kind, s⟩ :: l, rfl, by simp [jobC]⟩
  | x :: l, i + 1, s => by
    obtain ⟨l', h1, h2⟩ := flat_start l i s
    refine ⟨x :: l', by simp [h1], ?_⟩
    rw [show (i + 1) * 3 + 2 = i * 3 + 2 + 3 by omega]
    simp only [List.flatMap_cons]
    rw [← h2]
    simp only [jobC, List.cons_append, List.nil_append, List.set_cons_succ]
set_option maxRecDepth 100000 in
set_option maxHeartbeats 16000000 in
theorem bounds_any (v vl vt : Value) (d : WorksD) (jl : List JobD) (late : List Int) (tn : Nat) (S : Nat → Prop) (w : World) (hv : WkV w S v d) (hjl : RdK 3 jobC w S vl jl) (hlt : Rd (Value.int .u16) w S vt late) (hlw : ∀ z ∈ late, 0 ≤ z ∧ z ≤ 65535) (ht1 : tn ≤ 255) :
    Calls Try.prog 4 #[v, vl, vt, .int .u8 (tn : Int)] w fun e w' => e = .returned (.bool true) ∧ Below w.heap.size w w' := by
  obtain ⟨i0, hi0, hz0, hz1, hz2⟩ := info_parts info38
  have HV := Lib.hid hv
  have HJL := Lib.hid hjl
  have HLW := Lib.hid hlw
  obtain ⟨vc, vn, vm, rfl, q1, q2, q3⟩ := hv.lt
  obtain ⟨Ac, nc, cc, rfl, hnc, -, hmc, hcc⟩ := q1.open_
  obtain ⟨An, nn, cn, rfl, -, -, -, -⟩ := q2.open_
  obtain ⟨Am, nm, cm, rfl, -, -, -, -⟩ := q3.open_
  obtain ⟨Aj, nj, cj, rfl, hnj, hcj, hmj, -⟩ := hjl.open_
  obtain ⟨At, nt, ct, rfl, hnt, -, hmt, hct⟩ := hlt.lt.open_
  have HCC := Lib.hid hcc
  have HCT := Lib.hid hct
  have HNJ := Lib.hid hnj
  have HNT := Lib.hid hnt
  obtain ⟨W1, hW1⟩ : ∃ W1, W1 = w.alloc (.cells #[.int .i64 d.presses, .int .i64 d.change, .slice Ac nc cc, (.slice An nn cn), (.slice Am nm cm)] 24) := ⟨_, rfl⟩
  have hm1 := heap_alloc_new w (.cells #[.int .i64 d.presses, .int .i64 d.change, .slice Ac nc cc, (.slice An nn cn), (.slice Am nm cm)] 24)
  have hb1 : Below w.heap.size w W1 := by rw [hW1]; exact (Below.refl _ w).alloc (Nat.le_refl _) _
  rw [← hW1] at hm1
  have HSZ : Hid (W1.heap.size = w.heap.size + 1) := by show _ = _; rw [hW1]; simp
  have HCELL : Hid (∀ w', Below W1.heap.size W1 w' → w'.cell? ⟨w.heap.size, 0, none⟩ = some (.int .i64 d.presses) ∧ w'.cell? ⟨w.heap.size, 1, none⟩ = some (.int .i64 d.change) ∧ w'.cell? ⟨w.heap.size, 2, none⟩ = some (.slice Ac nc cc) ∧ w'.cell? ⟨w.heap.size, 3, none⟩ = some (.slice An nn cn) ∧ w'.cell? ⟨w.heap.size, 4, none⟩ = some (.slice Am nm cm)) := fun w' hb => by
    have k0 := (hb.block _ (by have := HSZ.out; omega)).trans hm1
    exact ⟨cell_of_row w' _ 0 _ _ _ k0, cell_of_row w' _ 1 _ _ _ k0, cell_of_row w' _ 2 _ _ _ k0, cell_of_row w' _ 3 _ _ _ k0, cell_of_row w' _ 4 _ _ _ k0⟩
  obtain ⟨x0, x1, x2, x3, x4⟩ := HCELL.out W1 (Below.refl _ _)
  have HW1 := Lib.hid hW1
  have HB1 := Lib.hid hb1
  have HSL := Lib.hid (fun w' (h : Below W1.heap.size W1 w') => slight_any _ d S w' (HV.out.below (HB1.out.trans (h.mono HB1.out.size))))
  obtain ⟨sl, hsl⟩ : ∃ sl, sl = slB d := ⟨_, rfl⟩
  rw [← hsl] at HSL
  clear hW1 hm1 hb1 hcc hct hnc hnj hnt q1 q2 q3 hv hjl hlt hsl hlw
  by_cases hall : sl = true ∧ nj ≤ 70 ∧ nt ≤ 70
  · obtain ⟨rfl, h70, h71⟩ := hall
    have h70i : (nj : Int) ≤ 70 := by omega
    have h71i : (nt : Int) ≤ 70 := by omega
    go_enter Try.func4, Try.ntmps4
    go_wp2_with fail
    rw [← HW1.out]
    refine (HSL.out W1 (Below.refl _ _)).mono ?_
    rintro e w2 ⟨rfl, hb2⟩
    have HB2' := Lib.hid hb2
    clear hb2 x0 x1 x2 x3 x4
    obtain ⟨x0, x1, x2, x3, x4⟩ := HCELL.out w2 HB2'.out
    go_wp2_with fail
    clear x0 x1 x2 x3 x4
    go_loopw [44] (fun iv wr => ∃ i : Nat, i ≤ nc ∧ iv = .int .i64 (i : Int) ∧ Below W1.heap.size W1 wr) (fun iv _ => nc - (intOf iv).toNat)
    case atStart => exact ⟨0, Nat.zero_le _, rfl, HB2'.out⟩
    case round =>
      clear HB2'
      obtain ⟨i, hi, rfl, hbel⟩ := hrel
      have HBEL := Lib.hid hbel
      have HBR := Lib.hid (HB1.out.trans (hbel.mono HB1.out.size))
      clear hbel
      by_cases hlt : i < nc
      · obtain ⟨b1, f1, c, rfl, ⟨_, hl1⟩, hc, hcl1⟩ := HCC.out i hlt
        have k1 := (HBR.out.cell (p := ⟨b1, _, none⟩) hl1).trans hcl1
        have hli : (i : Int) < (nc : Int) := by omega
        clear hc hcl1
        by_cases h60 : 60 < c
        · go_wp2_with fail
          refine (awake_any wr).mono ?_
          rintro e w3 ⟨rfl, hb3⟩
          have HB3 := Lib.hid (HBR.out.trans (hb3.mono HBR.out.size))
          clear hb3
          go_wp2_with fail
          go_ret
          exact ⟨rfl, HB3.out⟩
        · go_wp2_with fail
          go_roundw
          case rel => exact ⟨i + 1, by omega, by go_num, HBEL.out⟩
          case measure => simp [intOf]; omega
      · have hli : ¬ ((i : Int) < (nc : Int)) := by omega
        obtain ⟨x0, x1, x2, x3, x4⟩ := HCELL.out wr HBEL.out
        clear hlt
        obtain ⟨wo, rfl⟩ : ∃ wo, wo = wr := ⟨_, rfl⟩
        obtain ⟨we, hwe⟩ : ∃ we, we = wErr d := ⟨_, rfl⟩
        have HPB := Lib.hid (fun w' (h : Below w.heap.size w w') => Bound_any _ d S w' (HV.out.below h))
        have HPP := Lib.hid (fun w' (h : Below w.heap.size w w') => Plan_any _ d S w' (HV.out.below h))
        rw [← hwe] at HPB HPP
        obtain ⟨bo, hbo⟩ : ∃ bo, bo = (if we = 0 then boundW d else 0) := ⟨_, rfl⟩
        rw [← hbo] at HPB
        have HEB : Hid (∀ l, chkE d l = 0 → bo ≤ endE d l) := fun l h => by
          have h1 := (chkE_zero.1 h).1
          rw [hbo, hwe, if_pos h1]; unfold endE; rw [if_pos h]; exact end_bound h
        obtain ⟨pl, hpl⟩ : ∃ pl, pl = planL d := ⟨_, rfl⟩
        rw [← hpl] at HPP
        have hpn : pl.length ≤ 64 := by
          rw [hpl]; unfold planL; split
          · exact (plan_valid ‹_›).1
          · simp
        have HPN := Lib.hid hpn
        clear hwe hbo hpl hpn
        go_wp2_with fail
        obtain ⟨W2, hW2⟩ : ∃ W2, W2 = wo.alloc (.cells #[.int .i64 d.presses, .int .i64 d.change, .slice Ac nc cc, (.slice An nn cn), (.slice Am nm cm)] 31) := ⟨_, rfl⟩
        have hm2 := heap_alloc_new wo (.cells #[.int .i64 d.presses, .int .i64 d.change, .slice Ac nc cc, (.slice An nn cn), (.slice Am nm cm)] 31)
        have HB2 : Hid (Below wo.heap.size wo W2) := by rw [hW2]; exact (Below.refl _ wo).alloc (Nat.le_refl _) _
        rw [← hW2] at hm2
        have HSZ2 : Hid (W2.heap.size = wo.heap.size + 1) := by show _ = _; rw [hW2]; simp
        have HC2 : Hid (∀ w', Below W2.heap.size W2 w' → w'.cell? ⟨wo.heap.size, 0, none⟩ = some (.int .i64 d.presses) ∧ w'.cell? ⟨wo.heap.size, 1, none⟩ = some (.int .i64 d.change) ∧ w'.cell? ⟨wo.heap.size, 2, none⟩ = some (.slice Ac nc cc) ∧ w'.cell? ⟨wo.heap.size, 3, none⟩ = some (.slice An nn cn) ∧ w'.cell? ⟨wo.heap.size, 4, none⟩ = some (.slice Am nm cm)) := fun w' hb => by
          have k0 := (hb.block _ (by have := HSZ2.out; omega)).trans hm2
          exact ⟨cell_of_row w' _ 0 _ _ _ k0, cell_of_row w' _ 1 _ _ _ k0, cell_of_row w' _ 2 _ _ _ k0, cell_of_row w' _ 3 _ _ _ k0, cell_of_row w' _ 4 _ _ _ k0⟩
        have HBW2 := Lib.hid (HBR.out.trans (HB2.out.mono HBR.out.size))
        rw [← hW2]
        clear hW2 hm2 x0 x1 x2 x3 x4
        obtain ⟨x0, x1, x2, x3, x4⟩ := HC2.out W2 (Below.refl _ _)
        refine (HPB.out W2 HBW2.out).mono ?_
        rintro e w3 ⟨rfl, hb3⟩
        have HB3 := Lib.hid hb3
        have HBW3 := Lib.hid (HBW2.out.trans (hb3.mono HBW2.out.size))
        clear hb3 x0 x1 x2 x3 x4
        obtain ⟨x0, x1, x2, x3, x4⟩ := HC2.out w3 HB3.out
        go_wp2_with fail
        refine (HPP.out w3 HBW3.out).mono ?_
        rintro e w4 ⟨⟨v4, rfl, ho4⟩, hb4⟩
        have HB4 := Lib.hid (HB3.out.trans (hb4.mono HB3.out.size))
        have HBW4 := Lib.hid (HBW3.out.trans (hb4.mono HBW3.out.size))
        obtain ⟨n, hn⟩ : ∃ n, n = pl.length := ⟨_, rfl⟩
        have HN64 : Hid (n ≤ 64) := by show _ ≤ _; rw [hn]; exact HPN.out
        have ho4' : w4.ownsRow W2.heap.size 38 3 v4 n (pl.flatMap jobC) := by rw [hn]; exact ownsRow_mono ho4 HB3.out.size
        obtain ⟨A4, c4, rfl⟩ := ownsRow_slice ho4'
        have HO4 := Lib.hid ho4'
        have HPN2 : Hid (pl.length = n) := hn.symm
        clear hb4 ho4 ho4' hn x0 x1 x2 x3 x4
        go_wp2_with fail
        have hn64 := HN64.out
        have HPL0 : Hid (Below W2.heap.size W2 w4) := HB4.out
        go_loopw [68] (fun iv wr => ∃ (i : Nat) (l' : List JobD), i ≤ n ∧ iv = .int .i64 (i : Int) ∧ Hid (l'.length = n) ∧ wr.ownsRow W2.heap.size 38 3 (.slice A4 n c4) n (l'.flatMap jobC) ∧ Below W2.heap.size W2 wr) (fun iv _ => n - (intOf iv).toNat)
        case atStart => exact ⟨0, pl, Nat.zero_le _, rfl, HPN2.out, HO4.out, HPL0.out⟩
        case round =>
          clear HO4 HPL0 HPN2 HB4 HBW4
          obtain ⟨i, l1, hi, rfl, HL1, hown, hbel⟩ := hrel
          have HOWN := Lib.hid hown
          have HBEL := Lib.hid hbel
          have HBW := Lib.hid (HBW2.out.trans (hbel.mono HBW2.out.size))
          clear hbel
          by_cases hlt : i < n
          · have hli : (i : Int) < (n : Int) := by omega
            have hi0 : (0 : Int) ≤ (i : Int) := by omega
            by_cases hnt : nt = 0
            · have hnti : ¬ ((nt : Int) > 0) := by omega
              subst hnt
              clear hown
              go_wp2_with fail
              go_roundw
              case rel => exact ⟨i + 1, l1, by omega, by go_num, HL1.out, HOWN.out, HBEL.out⟩
              case measure => simp [intOf]; omega
            · have hnti : (nt : Int) > 0 := by omega
              rcases hown.2 with ⟨h', hz'⟩ | ⟨g, cap', cur, h', hgb, hg, hnc', hcm', _⟩
              · exact absurd hz' (by omega)
              · simp only [Value.slice.injEq] at h'
                obtain ⟨rfl, _, rfl⟩ := h'
                obtain ⟨r, hr⟩ : ∃ r, r = i % nt := ⟨_, rfl⟩
                have hrlt : r < nt := by rw [hr]; exact Nat.mod_lt _ (by omega)
                obtain ⟨bt, ft, z, rfl, ⟨_, hlz⟩, hz, hcz⟩ := HCT.out r hrlt
                have hzb := HLW.out z (List.mem_of_getElem? hz)
                obtain ⟨hzb0, hzb1⟩ := hzb
                have hx : l1[i]? = some (l1[i]'(by have := HL1.out; omega)) := List.getElem?_eq_getElem _
                obtain ⟨x, hxe⟩ : ∃ x, x = l1[i]'(by have := HL1.out; omega) := ⟨_, rfl⟩
                rw [← hxe] at hx
                have c2 : wr.cell? ⟨g, i * 3 + 2, none⟩ = some (.int .i64 x.start) := (HOWN.out.cellAt (i * 3 + 2) (by omega)).trans (flat_at (f := jobC) (k := 3) jobC_len l1 i x hx 2 _ rfl)
                have cz := (HBW.out.cell (p := ⟨bt, _, none⟩) hlz).trans hcz
                have hfr := HOWN.out.frozenAt (i * 3 + 2)
                have hrem : ((i : Int)).tmod (nt : Int) = (r : Int) := by rw [hr, Int.tmod_eq_emod_of_nonneg (by omega)]; omega
                have hr0 : (0 : Int) ≤ (r : Int) := by omega
                have hrnt : (r : Int) < (nt : Int) := by omega
                have hwz : IntKind.i64.wrap z = z := IntWalk.i64_in _ (by omega)
                obtain ⟨xp, xk, xs⟩ := x
                simp only [] at c2
                obtain ⟨q, hq⟩ : ∃ q, q = IntKind.i64.wrap (xs + z) := ⟨_, rfl⟩
                have hwq : IntKind.i64.wrap (xs + z) = q := hq.symm
                obtain ⟨l2, e1, e2⟩ := flat_start l1 i q
                have hT := (HOWN.out.stored (i * 3 + 2) (.int .i64 q)).1
                rw [e2] at hT
                have HT : Hid ((wr.setCell ⟨g, i * 3 + 2, none⟩ (.int .i64 q)).drew.ownsRow W2.heap.size 38 3 (.slice (some ⟨g, 0, none⟩) n c4) n (l2.flatMap jobC)) := hT
                have HL2 : Hid (l2.length = n) := e1.trans HL1.out
                have HGB := Lib.hid hgb
                have hnt0 : 0 < nt := by omega
                clear hown hx hxe hr hz hcz hlz hq e1 e2 hT hg hgb hnc' hcm' HL1 hnt
                go_wp2_with fail
                go_region
                all_goals
                  clear c2 cz hfr
                  go_wp2_with fail
                  go_roundw
                  case rel => exact ⟨i + 1, l2, by omega, by go_num, HL2.out, HT.out, (HBEL.out.setCell HGB.out _).drew⟩
                  case measure => simp [intOf]; omega
          · have hli : ¬ ((i : Int) < (n : Int)) := by omega
            have HJC := Lib.hid (jobs_any _ jl S wr (HJL.out.below jobC_0 HBW.out) (by rw [HNJ.out]; omega))
            have HR1 : Hid (RdK 3 jobC wr (W2.heap.size ≤ ·) (.slice A4 n c4) l1) := RdK.of_own jobC_len HOWN.out HL1.out
            clear hown hlt HOWN HCT HLW HCC HPP HPB
            unfold JobsPost at HJC
            go_wp2_with fail
            refine HJC.out.mono ?_
            rintro e w6 ⟨va, vb, rfl, hra, hrb, hb6⟩
            have HR1b : Hid (RdK 3 jobC w6 (W2.heap.size ≤ ·) (.slice A4 n c4) l1) := HR1.out.below jobC_0 hb6
            have HRA := Lib.hid hra
            obtain ⟨Aa, na, ca, rfl, hna, _, _, _⟩ := hra.open_
            obtain rfl : nj = na := HNJ.out.symm.trans hna
            have HB6 := Lib.hid (HBEL.out.trans (hb6.mono HBEL.out.size))
            clear hra hrb hb6 hna HR1 HJC
            obtain ⟨W7, hW7⟩ : ∃ W7, W7 = w6.alloc (.cells #[.slice A4 n c4, .slice Aa nj ca] 27) := ⟨_, rfl⟩
            have hm7 := heap_alloc_new w6 (.cells #[.slice A4 n c4, .slice Aa nj ca] 27)
            have hb7 : Below w6.heap.size w6 W7 := by rw [hW7]; exact (Below.refl _ w6).alloc (Nat.le_refl _) _
            rw [← hW7] at hm7
            have HSZ7 : Hid (w6.heap.size < W7.heap.size) := by show _ < _; rw [hW7]; simp
            have HB7 := Lib.hid (HB6.out.trans (hb7.mono HB6.out.size))
            have HSEL : Hid (∀ k : Nat, k < 2 → ∃ (A : Option Addr) (m c : Nat) (t : List JobD), (∀ w', Below W7.heap.size W7 w' → w'.cell? ⟨w6.heap.size, k, none⟩ = some (.slice A m c)) ∧ t.length = m ∧ m ≤ 70 ∧ ∀ w', Below W7.heap.size W7 w' → ∃ T, RdK 3 jobC w' T (.slice A m c) t) := fun k hk => by
              rcases (by omega : k = 0 ∨ k = 1) with rfl | rfl
              · refine ⟨A4, n, c4, l1, fun w' h => cell_of_row w' _ 0 _ _ _ ((h.block _ HSZ7.out).trans hm7), HL1.out, by omega, fun w' h => ⟨_, (HR1b.out.below jobC_0 hb7).below jobC_0 h⟩⟩
              · refine ⟨Aa, nj, ca, jl, fun w' h => cell_of_row w' _ 1 _ _ _ ((h.block _ HSZ7.out).trans hm7), HNJ.out, by omega, fun w' h => ⟨_, (HRA.out.below jobC_0 hb7).below jobC_0 h⟩⟩
            have HW7 := Lib.hid hW7
            clear hW7 hm7 hb7 HR1b HRA HL1
            go_wp2_with fail
            rw [← HW7.out]
            go_loopw [100] (fun iv wr' => ∃ k : Nat, k ≤ 2 ∧ iv = .int .i64 (k : Int) ∧ Below W7.heap.size W7 wr') (fun iv _ => 2 - (intOf iv).toNat)
            case atStart => exact ⟨0, by omega, rfl, Below.refl _ _⟩
            case round =>
              obtain ⟨k, hk, rfl, hbk⟩ := hrel
              have HBK := Lib.hid hbk
              have HBK2 := Lib.hid (HB7.out.trans (hbk.mono HB7.out.size))
              have HBKW := Lib.hid (HBW2.out.trans (HBK2.out.mono HBW2.out.size))
              clear hbk
              by_cases hk2 : k < 2
              · have hki : (k : Int) < 2 := by omega
                obtain ⟨A, m, c, t, hcell, htl, hm70, hrd⟩ := HSEL.out k hk2
                have HTL := Lib.hid htl
                have HRD := Lib.hid hrd
                have y0 := hcell wr HBK.out
                have HEC := Lib.hid (fun w' (h : Below W7.heap.size W7 w') (h2 : Below w.heap.size w w') => (hrd w' h).elim fun T hT => End_any _ _ d t S T w' (HV.out.below h2) hT (by rw [htl]; omega))
                obtain ⟨en, hen⟩ : ∃ en, en = endE d t := ⟨_, rfl⟩
                obtain ⟨ce, hce⟩ : ∃ ce, ce = chkE d t := ⟨_, rfl⟩
                unfold EndPost at HEC
                rw [← hen, ← hce] at HEC
                have HEN := Lib.hid hen
                have HCE := Lib.hid hce
                have HGE : Hid (ce = 0 → bo ≤ en) := fun h => by rw [hen]; exact HEB.out t (by rw [← hce]; exact h)
                clear hcell htl hrd hen hce
                obtain ⟨x0, x1, x2, x3, x4⟩ := HC2.out wr HBK2.out
                go_wp2_with fail
                refine (HEC.out wr HBK.out HBKW.out).mono ?_
                rintro e w8 ⟨rfl, hb8⟩
                have HB8 := Lib.hid (HBK.out.trans (hb8.mono HBK.out.size))
                have HB8W2 := Lib.hid (HBK2.out.trans (hb8.mono HBK2.out.size))
                have HB8W := Lib.hid (HBKW.out.trans (hb8.mono HBKW.out.size))
                clear hb8 x0 x1 x2 x3 x4 y0 HEC
                by_cases hc0 : ce = 0
                focus
                  have hge := HGE.out hc0
                  have hgb : decide (en < bo) = false := decide_eq_false (by omega)
                  have hcb : (ce == 0) = true := by simp [hc0]
                  have HC0 : Hid (chkE d t = 0) := by show _ = _; rw [← HCE.out]; exact hc0
                  have HCB : Hid ((chkE d (turnL t tn) == 0) = true) := by
                    show _ = _
                    have := (chk_perm (d := d) (turnL_perm t tn)).2 HC0.out
                    rw [this]; rfl
                  clear hc0 hge
                rotate_left
                focus
                  have hcb : (ce == 0) = false := by simp [hc0]
                  have HCB : Hid ((chkE d (turnL t tn) == 0) = false) := by
                    show _ = _
                    cases e : (chkE d (turnL t tn) == 0) with
                    | false => rfl
                    | true => exact absurd ((chk_perm (d := d) (turnL_perm t tn)).1 (by simpa using e)) (by rw [← HCE.out]; exact hc0)
                  clear hc0
                all_goals
                  go_wp2_with fail
                  go_loopw [119, 23] (fun iv tv wr' => ∃ (i : Nat), i ≤ m ∧ iv = .int .i64 (i : Int) ∧ wr'.ownsRow w8.heap.size 38 3 tv i (((turnL t tn).take i).flatMap jobC) ∧ Below w8.heap.size w8 wr') (fun iv _ _ => m - (intOf iv).toNat)
                  case atStart => exact ⟨0, Nat.zero_le _, rfl, World.ownsRow_nil _ _ _ _, Below.refl _ _⟩
                  case round =>
                    obtain ⟨i, hi, rfl, hown, hbq⟩ := hrel
                    obtain ⟨At', ct', rfl⟩ := ownsRow_slice hown
                    have HOWN := Lib.hid hown
                    have HBQ := Lib.hid hbq
                    have HBQ7 := Lib.hid (HB8.out.trans (hbq.mono HB8.out.size))
                    have HBQ2 := Lib.hid (HB8W2.out.trans (hbq.mono HB8W2.out.size))
                    have HBQW := Lib.hid (HB8W.out.trans (hbq.mono HB8W.out.size))
                    clear hown hbq
                    by_cases hlt : i < m
                    · have hli : (i : Int) < (m : Int) := by omega
                      obtain ⟨j, hj⟩ : ∃ j, j = m - 1 - (i + tn) % m := ⟨_, rfl⟩
                      have hmod : (i + tn) % m < m := Nat.mod_lt _ (by omega)
                      have hjm : j < m := by omega
                      have hji : (m : Int) - 1 - ((i : Int) + (tn : Int)) % (m : Int) = (j : Int) := by
                        have : ((i : Int) + (tn : Int)) % (m : Int) = (((i + tn) % m : Nat) : Int) := by rw [Int.natCast_emod, Int.natCast_add]
                        omega
                      obtain ⟨T, hT⟩ := HRD.out wr HBQ7.out
                      obtain ⟨A', m', c', he, _, _, _, h3⟩ := hT.open_
                      simp only [Value.slice.injEq] at he
                      obtain ⟨rfl, rfl, rfl⟩ := he
                      obtain ⟨b, off, x, rfl, _, hx, hcell⟩ := h3 j hjm
                      have d0 : wr.cell? ⟨b, off + j * 3, none⟩ = some (.int .i64 x.press) := hcell 0 _ rfl
                      have d1 : wr.cell? ⟨b, off + j * 3 + 1, none⟩ = some (.int .i64 x.kind) := hcell 1 _ rfl
                      have d2 : wr.cell? ⟨b, off + j * 3 + 2, none⟩ = some (.int .i64 x.start) := hcell 2 _ rfl
                      have hget : (turnL t tn)[i]? = some x := by rw [turnL_get (by rw [HTL.out]; exact hlt), HTL.out, ← hj]; exact hx
                      have HF : Hid (((turnL t tn).take (i + 1)).flatMap jobC = ((turnL t tn).take i).flatMap jobC ++ jobC x) := flat_snoc hget
                      obtain ⟨cs, hcs⟩ : ∃ cs, cs = ((turnL t tn).take i).flatMap jobC := ⟨_, rfl⟩
                      rw [← hcs] at HF HOWN
                      obtain ⟨xp, xk, xs⟩ := x
                      simp only [] at d0 d1 d2
                      have hj0 : (0 : Int) ≤ (j : Int) := by omega
                      have hjmi : (j : Int) < (m : Int) := by omega
                      clear hT h3 hx hcell hget hcs hj hmod
                      go_wp2_with (at_builtin; refine wpList_append_own_at _ rfl _ _ 27 rfl w8.heap.size 38 i0 (.agg #[.int .i64 0, .int .i64 0, .int .i64 0]) 3 24 Try.underlying27 hi0 hz0 hz1 hz2 rfl (by decide) _ _ _ rfl (HOWN.out.alloc _) ⟨wr.heap.size, 0, none⟩ 1 1 [.int .i64 xp, .int .i64 xk, .int .i64 xs] rfl rfl (cells_new wr #[.int .i64 xp, .int .i64 xk, .int .i64 xs] 38 (0, 0)) (by intro u hu; simp at hu; rcases hu with rfl | rfl | rfl <;> rfl) (by unfold maxLen; omega) (by omega) (by have := HBQ.out.size; simp; omega) ?_; intro v9 w9 hown9 hg9 _ hf9; have HO9 := Lib.hid hown9; have HB9 : Hid (Below w8.heap.size w8 w9) := (HBQ.out.alloc HBQ.out.size _).grown hg9 (by have := HBQ.out.size; simp; omega) (fun k hk => (HOWN.out.lt k hk).1); clear hown9 hg9 hf9 d0 d1 d2)
                      go_roundw
                      case rel => exact ⟨i + 1, by omega, by go_num, by rw [HF.out]; exact HO9.out, HB9.out⟩
                      case measure => simp [intOf]; omega
                    · have hli : ¬ ((i : Int) < (m : Int)) := by omega
                      have him : i = m := by omega
                      have hrt : RdK 3 jobC wr (w8.heap.size ≤ ·) (.slice At' i ct') (turnL t tn) := RdK.of_own jobC_len (by have := HOWN.out; rwa [List.take_of_length_le (by rw [turnL_len, HTL.out]; omega)] at this) (by rw [turnL_len, HTL.out, him])
                      have HEC2 := Lib.hid (End_any _ _ d (turnL t tn) S _ wr (HV.out.below HBQW.out) hrt (by rw [turnL_len, HTL.out]; omega))
                      unfold EndPost at HEC2
                      rw [endE_perm (turnL_perm t tn), ← HEN.out] at HEC2
                      obtain ⟨c2, hc2⟩ : ∃ c2, c2 = chkE d (turnL t tn) := ⟨_, rfl⟩
                      rw [← hc2] at HEC2
                      have hcc2 := HCB.out
                      rw [← hc2] at hcc2
                      obtain ⟨x0, x1, x2, x3, x4⟩ := HC2.out wr HBQ2.out
                      clear hrt him hc2
                      go_wp2_with fail
                      refine HEC2.out.mono ?_
                      rintro e wa ⟨rfl, hba⟩
                      have HBA := Lib.hid (HBQ7.out.trans (hba.mono HBQ7.out.size))
                      clear hba x0 x1 x2 x3 x4
                      go_wp2_with fail
                      go_roundw
                      case rel => exact ⟨k + 1, by omega, by go_num, HBA.out⟩
                      case measure => simp [intOf]; omega
              · have hki : ¬ ((k : Int) < 2) := by omega
                go_wp2_with fail
                refine (awake_any wr).mono ?_
                rintro e wa ⟨rfl, hba⟩
                have HBA := Lib.hid (HBKW.out.trans (hba.mono HBKW.out.size))
                clear hba
                go_wp2_with fail
                go_ret
                exact ⟨rfl, HBA.out⟩
  · have hor : sl = false ∨ (sl = true ∧ 70 < nj) ∨ (sl = true ∧ nj ≤ 70 ∧ 70 < nt) := by
      cases sl with
      | false => exact .inl rfl
      | true =>
        by_cases h : nj ≤ 70
        · exact .inr (.inr ⟨rfl, h, by have : ¬ nt ≤ 70 := fun h2 => hall ⟨rfl, h, h2⟩; omega⟩)
        · exact .inr (.inl ⟨rfl, by omega⟩)
    clear hall
    rcases hor with rfl | ⟨rfl, h1⟩ | ⟨rfl, h1, h2⟩
    all_goals
      try have h1i : (70 : Int) < (nj : Int) := by omega
      try have h1j : (nj : Int) ≤ 70 := by omega
      try have h2i : (70 : Int) < (nt : Int) := by omega
      go_enter Try.func4, Try.ntmps4
      go_wp2_with fail
      rw [← HW1.out]
      refine (HSL.out W1 (Below.refl _ _)).mono ?_
      rintro e w2 ⟨rfl, hb2⟩
      have HB2 := Lib.hid (HB1.out.trans (hb2.mono HB1.out.size))
      clear hb2 x0 x1 x2 x3 x4
      go_wp2_with fail
      refine (awake_any w2).mono ?_
      rintro e w3 ⟨rfl, hb3⟩
      have HB3 := Lib.hid (HB2.out.trans (hb3.mono HB2.out.size))
      clear hb3
      go_wp2_with fail
      go_ret
      exact ⟨rfl, HB3.out⟩
end Go.Proofs.Ytogccnngdfancaa
