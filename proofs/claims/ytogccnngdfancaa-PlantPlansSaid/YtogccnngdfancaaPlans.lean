/- The walk of the statement PlantPlans. -/
import Derived.Test.YtogccnngdfancaaEnds
import Derived.Test.YtogccnngdfancaaPlanW
import Derived.Test.YtogccnngdfancaaRPlan
import Derived.Test.YtogccnngdfancaaAwake
namespace Go.Proofs.Ytogccnngdfancaa
open Go.RowKit
set_option linter.unusedVariables false
set_option linter.unusedSimpArgs false
set_option maxRecDepth 100000 in
set_option maxHeartbeats 8000000 in
theorem plans_any (v : Value) (d : WorksD) (S : Nat → Prop) (w : World) (hv : WkV w S v d) :
    Calls Try.prog 3 #[v] w fun e w' => e = .returned (.bool true) ∧ Below w.heap.size w w' := by
  have HV := Lib.hid hv
  obtain ⟨vc, vn, vm, rfl, q1, q2, q3⟩ := hv.lt
  obtain ⟨Ac, nc, cc, rfl, hnc, -, hmc, hcc⟩ := q1.open_
  have HCC := Lib.hid hcc
  obtain ⟨W1, hW1⟩ : ∃ W1, W1 = w.alloc (.cells #[.int .i64 d.presses, .int .i64 d.change, .slice Ac nc cc, vn, vm] 24) := ⟨_, rfl⟩
  have hm1 := heap_alloc_new w (.cells #[.int .i64 d.presses, .int .i64 d.change, .slice Ac nc cc, vn, vm] 24)
  have hb1 : Below w.heap.size w W1 := by rw [hW1]; exact (Below.refl _ w).alloc (Nat.le_refl _) _
  rw [← hW1] at hm1
  have HSZ : Hid (W1.heap.size = w.heap.size + 1) := by show _ = _; rw [hW1]; simp
  have HCELL : Hid (∀ w', Below W1.heap.size W1 w' → w'.cell? ⟨w.heap.size, 0, none⟩ = some (.int .i64 d.presses) ∧ w'.cell? ⟨w.heap.size, 1, none⟩ = some (.int .i64 d.change) ∧ w'.cell? ⟨w.heap.size, 2, none⟩ = some (.slice Ac nc cc) ∧ w'.cell? ⟨w.heap.size, 3, none⟩ = some vn ∧ w'.cell? ⟨w.heap.size, 4, none⟩ = some vm) := fun w' hb => by
    have k0 := (hb.block _ (by have := HSZ.out; omega)).trans hm1
    exact ⟨cell_of_row w' _ 0 _ _ _ k0, cell_of_row w' _ 1 _ _ _ k0, cell_of_row w' _ 2 _ _ _ k0, cell_of_row w' _ 3 _ _ _ k0, cell_of_row w' _ 4 _ _ _ k0⟩
  obtain ⟨x0, x1, x2, x3, x4⟩ := HCELL.out W1 (Below.refl _ _)
  have HW1 := Lib.hid hW1
  have HB1 := Lib.hid hb1
  have HSL := Lib.hid (fun w' (h : Below W1.heap.size W1 w') => slight_any _ d S w' (HV.out.below (HB1.out.trans (h.mono HB1.out.size))))
  obtain ⟨sl, hsl⟩ : ∃ sl, sl = slB d := ⟨_, rfl⟩
  rw [← hsl] at HSL
  clear hW1 hm1 hb1 hcc hnc q1 q2 q3 hv hsl
  cases sl with
  | false =>
    go_enter Try.func3, Try.ntmps3
    go_wp2_with fail
    rw [← HW1.out]
    refine (HSL.out W1 (Below.refl _ _)).mono ?_
    rintro e w2 ⟨rfl, hb2⟩
    have HB2 := Lib.hid (HB1.out.trans (hb2.mono HB1.out.size))
    clear hb2 x0 x1 x2 x3 x4
    go_wp2_with fail
    refine (awake_any w2).mono ?_
    rintro e w3 ⟨rfl, hb3⟩
    have HB3 := Lib.hid (HB2.out.trans (hb3.mono HB2.out.size))
    clear hb3
    go_wp2_with fail
    go_ret
    exact ⟨rfl, HB3.out⟩
  | true =>
    go_enter Try.func3, Try.ntmps3
    go_wp2_with fail
    rw [← HW1.out]
    refine (HSL.out W1 (Below.refl _ _)).mono ?_
    rintro e w2 ⟨rfl, hb2⟩
    have HB2' := Lib.hid hb2
    clear hb2 x0 x1 x2 x3 x4
    obtain ⟨x0, x1, x2, x3, x4⟩ := HCELL.out w2 HB2'.out
    go_wp2_with fail
    clear x0 x1 x2 x3 x4
    go_loopw [19] (fun iv wr => ∃ i : Nat, i ≤ nc ∧ iv = .int .i64 (i : Int) ∧ Below W1.heap.size W1 wr) (fun iv _ => nc - (intOf iv).toNat)
    case atStart => exact ⟨0, Nat.zero_le _, rfl, HB2'.out⟩
    case round =>
      clear HB2'
      obtain ⟨i, hi, rfl, hbel⟩ := hrel
      have HBEL := Lib.hid hbel
      have HBR := Lib.hid (HB1.out.trans (hbel.mono HB1.out.size))
      clear hbel
      by_cases hlt : i < nc
      · obtain ⟨b1, f1, c, rfl, ⟨_, hl1⟩, hc, hcl1⟩ := HCC.out i hlt
        have k1 := (HBR.out.cell (p := ⟨b1, _, none⟩) hl1).trans hcl1
        have hli : (i : Int) < (nc : Int) := by omega
        clear hc hcl1
        by_cases h60 : 60 < c ∧ c ≤ 1000
        · obtain ⟨h60, h61⟩ := h60
          go_wp2_with fail
          refine (awake_any wr).mono ?_
          rintro e w3 ⟨rfl, hb3⟩
          have HB3 := Lib.hid (HBR.out.trans (hb3.mono HBR.out.size))
          clear hb3
          go_wp2_with fail
          go_ret
          exact ⟨rfl, HB3.out⟩
        · have hor : c ≤ 60 ∨ (60 < c ∧ 1000 < c) := by omega
          clear h60
          rcases hor with h60 | ⟨h60, h61⟩
          all_goals
            go_wp2_with fail
            go_roundw
            case rel => exact ⟨i + 1, by omega, by go_num, HBEL.out⟩
            case measure => simp [intOf]; omega
      · have hli : ¬ ((i : Int) < (nc : Int)) := by omega
        have HP1 := Lib.hid (fun w' (h : Below W1.heap.size W1 w') => Plan_any _ d S w' (HV.out.below (HB1.out.trans (h.mono HB1.out.size))))
        have HP2 := Lib.hid (fun w' (h : Below W1.heap.size W1 w') => RPlan_any _ d S w' (HV.out.below (HB1.out.trans (h.mono HB1.out.size))))
        obtain ⟨x0, x1, x2, x3, x4⟩ := HCELL.out wr HBEL.out
        clear hlt
        obtain ⟨we, hwe⟩ : ∃ we, we = wErr d := ⟨_, rfl⟩
        rw [← hwe] at HP1 HP2
        have HWE := Lib.hid hwe
        obtain ⟨pl, hpl⟩ : ∃ pl, pl = planL d := ⟨_, rfl⟩
        rw [← hpl] at HP1 HP2
        have HPL := Lib.hid hpl
        clear hwe hpl
        go_wp2_with fail
        refine (HP1.out wr HBEL.out).mono ?_
        rintro e w3 ⟨⟨v3, rfl, ho3⟩, hb3⟩
        have HB3 := Lib.hid (HBEL.out.trans (hb3.mono HBEL.out.size))
        obtain ⟨n, hn⟩ : ∃ n, n = pl.length := ⟨_, rfl⟩
        have hr3 : RdK 3 jobC w3 (wr.heap.size ≤ ·) v3 pl := RdK.of_own (fun _ => rfl) ho3 rfl
        rw [← hn] at ho3
        obtain ⟨A3, c3, rfl⟩ := ownsRow_slice ho3
        have HR3 := Lib.hid hr3
        have HN := Lib.hid hn
        obtain ⟨y0, y1, y2, y3, y4⟩ := HCELL.out w3 HB3.out
        clear x0 x1 x2 x3 x4 hb3 ho3 hr3 hn
        go_wp2_with fail
        refine (HP2.out w3 HB3.out).mono ?_
        rintro e w4 ⟨⟨v4, rfl, ho4⟩, hb4⟩
        have HB4 := Lib.hid (HB3.out.trans (hb4.mono HB3.out.size))
        have HR3b : Hid (RdK 3 jobC w4 (wr.heap.size ≤ ·) (.slice A3 n c3) pl) := HR3.out.below jobC_0 hb4
        have hr4 : RdK 3 jobC w4 (w3.heap.size ≤ ·) v4 pl := RdK.of_own (fun _ => rfl) ho4 rfl
        rw [← HN.out] at ho4
        obtain ⟨A4, c4, rfl⟩ := ownsRow_slice ho4
        have HR4 := Lib.hid hr4
        clear y0 y1 y2 y3 y4 hb4 ho4 hr4
        go_wp2_with fail
        have HLL : Hid (n ≤ 64) := by
          show n ≤ 64
          rw [HN.out, HPL.out]; unfold planL
          split
          · exact (plan_valid ‹_›).1
          · simp
        have hn64 := HLL.out
        go_loopw [53] (fun iv wr' => ∃ i : Nat, i ≤ n ∧ iv = .int .i64 (i : Int) ∧ Below w4.heap.size w4 wr') (fun iv _ => n - (intOf iv).toNat)
        case atStart => exact ⟨0, Nat.zero_le _, rfl, Below.refl _ _⟩
        case round =>
          obtain ⟨i, hi, rfl, hbq⟩ := hrel
          have HBQ := Lib.hid hbq
          have HB5 := Lib.hid (HB4.out.trans (hbq.mono HB4.out.size))
          have HB6 := Lib.hid (HB1.out.trans (HB5.out.mono HB1.out.size))
          clear hbq
          by_cases hlt : i < n
          · obtain ⟨A', n', cp', he, hn', _, _, h3⟩ := (HR3b.out.lt jobC_0).open_
            simp only [Value.slice.injEq] at he
            obtain ⟨rfl, rfl, rfl⟩ := he
            obtain ⟨b, off, x, rfl, ⟨_, hbl⟩, hx, hcell⟩ := h3 i hlt
            obtain ⟨A', n', cp', he, hn', _, _, h4⟩ := (HR4.out.lt jobC_0).open_
            simp only [Value.slice.injEq] at he
            obtain ⟨rfl, rfl, rfl⟩ := he
            obtain ⟨b', off', x', rfl, ⟨_, hbl'⟩, hx', hcell'⟩ := h4 i hlt
            obtain rfl : x = x' := Option.some.inj (hx.symm.trans hx')
            have HCL : Hid (∀ w', Below w4.heap.size w4 w' → (w'.cell? ⟨b, off + i * 3, none⟩ = some (.int .i64 x.press) ∧ w'.cell? ⟨b, off + i * 3 + 1, none⟩ = some (.int .i64 x.kind) ∧ w'.cell? ⟨b, off + i * 3 + 2, none⟩ = some (.int .i64 x.start)) ∧ (w'.cell? ⟨b', off' + i * 3, none⟩ = some (.int .i64 x.press) ∧ w'.cell? ⟨b', off' + i * 3 + 1, none⟩ = some (.int .i64 x.kind) ∧ w'.cell? ⟨b', off' + i * 3 + 2, none⟩ = some (.int .i64 x.start))) := fun w' h =>
              ⟨⟨(h.cell (p := ⟨b, _, none⟩) hbl).trans (hcell 0 _ rfl), (h.cell (p := ⟨b, _, none⟩) hbl).trans (hcell 1 _ rfl), (h.cell (p := ⟨b, _, none⟩) hbl).trans (hcell 2 _ rfl)⟩, (h.cell (p := ⟨b', _, none⟩) hbl').trans (hcell' 0 _ rfl), (h.cell (p := ⟨b', _, none⟩) hbl').trans (hcell' 1 _ rfl), (h.cell (p := ⟨b', _, none⟩) hbl').trans (hcell' 2 _ rfl)⟩
            have HBD : Hid (Below w4.heap.size w4 wr.drew) := HBQ.out.drew
            have hli : (i : Int) < (n : Int) := by omega
            have hi0 : (0 : Int) ≤ (i : Int) := by omega
            clear hx hx' hcell hcell' h3 h4 hn'
            obtain ⟨xp, xk, xs⟩ := x
            simp only [] at HCL
            go_wp2_with fail
            refine seq_start (S := fun w' => (w'.cell? ⟨b, off + i * 3, none⟩ = some (.int .i64 xp) ∧ w'.cell? ⟨b, off + i * 3 + 1, none⟩ = some (.int .i64 xk) ∧ w'.cell? ⟨b, off + i * 3 + 2, none⟩ = some (.int .i64 xs)) ∧ (w'.cell? ⟨b', off' + i * 3, none⟩ = some (.int .i64 xp) ∧ w'.cell? ⟨b', off' + i * 3 + 1, none⟩ = some (.int .i64 xk) ∧ w'.cell? ⟨b', off' + i * 3 + 2, none⟩ = some (.int .i64 xs))) (by kernel_rfl) (by kernel_rfl) (by exact HCL.out _ HBD.out) ?_
            repeat (first
              | (refine seq_take0 (v := ?_) ?_ (fun _ _ _ h => h) (by kernel_rfl) ?_ ?_; rotate_left; (focus rfl); (focus (intro w' hSw; (try dsimp only at hSw); go_simp; (try with_reducible rfl); done)); (try simp only [Act.put, List.setIfInBounds_toArray, List.set_cons_zero, List.set_cons_succ]))
              | (refine seq_takeG (v := ?_) (g := ?_) (d := ?_) (b := ?_) (u := ?_) ?_ ?_ ?_ ?_ (fun _ _ _ h => h) (by kernel_rfl) ?_ ?_; rotate_left 5; (focus rfl); (focus rfl); (focus rfl); (focus (first | rfl | (go_simp; done))); (focus (intro w' hSw; (try dsimp only at hSw); go_simp; (try with_reducible rfl); done)); (try simp only [Act.put, List.setIfInBounds_toArray, List.set_cons_zero, List.set_cons_succ]))
              | (refine seq_skipG (g := ?_) (d := ?_) (b := ?_) (u := ?_) ?_ ?_ ?_ ?_ (fun _ _ _ h => h) (by kernel_rfl) ?_; rotate_left 4; (focus rfl); (focus rfl); (focus rfl); (focus (first | rfl | (go_simp; done))); (try simp only [Act.put, List.setIfInBounds_toArray, List.set_cons_zero, List.set_cons_succ])))
            refine seq_done (by kernel_rfl) ?_
            go_wp2_with fail
            go_roundw
            case rel => exact ⟨i + 1, by omega, by go_num, HBD.out⟩
            case measure => simp [intOf]; omega
          · have hli : ¬ ((i : Int) < (n : Int)) := by omega
            obtain ⟨x0, x1, x2, x3, x4⟩ := HCELL.out wr HB5.out
            by_cases hz : we = 0
            · subst hz
              have HPW : Hid (pl = planW d) := by show _ = _; rw [HPL.out]; unfold planL; rw [if_pos HWE.out.symm]
              have hck := plan_chk HWE.out.symm
              have hbd := end_bound hck
              rw [← HPW.out] at hck hbd
              have HR6 : Hid (∀ w', Below w4.heap.size w4 w' → ∃ T, RdK 3 jobC w' T (.slice A3 n c3) pl) := fun w' h => ⟨_, HR3b.out.below jobC_0 h⟩
              have HE1 := Lib.hid (fun w' (h : Below w4.heap.size w4 w') (h2 : Below w.heap.size w w') => End_any _ _ d pl S _ w' (HV.out.below h2) (HR3b.out.below jobC_0 h) (by rw [← HN.out]; omega))
              have HE2 := Lib.hid (fun w' (h2 : Below w.heap.size w w') => Bound_any _ d S w' (HV.out.below h2))
              have HE3 := Lib.hid (fun w' (h : Below w4.heap.size w4 w') (h2 : Below w.heap.size w w') => Check_any _ _ d pl S _ w' (HV.out.below h2) (HR3b.out.below jobC_0 h) (by rw [← HN.out]; omega))
              unfold EndPost endE at HE1
              unfold CheckPost at HE3
              rw [hck] at HE1 HE3
              rw [if_pos rfl] at HE1
              rw [← HWE.out, if_pos rfl] at HE2
              obtain ⟨en, hen⟩ : ∃ en, en = endMax d pl := ⟨_, rfl⟩
              obtain ⟨bo, hbo⟩ : ∃ bo, bo = boundW d := ⟨_, rfl⟩
              rw [← hen] at HE1 hbd
              rw [← hbo] at HE2 hbd
              clear hck hen hbo HR6
              go_wp2_with fail
              refine (HE1.out wr HBQ.out HB6.out).mono ?_
              rintro e w7 ⟨rfl, hb7⟩
              have HQ7 := Lib.hid (HBQ.out.trans (hb7.mono HBQ.out.size))
              have HB7 := Lib.hid (HB5.out.trans (hb7.mono HB5.out.size))
              have HB7' := Lib.hid (HB6.out.trans (hb7.mono HB6.out.size))
              clear hb7 x0 x1 x2 x3 x4
              obtain ⟨x0, x1, x2, x3, x4⟩ := HCELL.out w7 HB7.out
              go_wp2_with fail
              refine (HE2.out w7 HB7'.out).mono ?_
              rintro e w8 ⟨rfl, hb8⟩
              have HQ8 := Lib.hid (HQ7.out.trans (hb8.mono HQ7.out.size))
              have HB8 := Lib.hid (HB7.out.trans (hb8.mono HB7.out.size))
              have HB8' := Lib.hid (HB7'.out.trans (hb8.mono HB7'.out.size))
              clear hb8 x0 x1 x2 x3 x4
              obtain ⟨x0, x1, x2, x3, x4⟩ := HCELL.out w8 HB8.out
              go_wp2_with fail
              refine (HE3.out w8 HQ8.out HB8'.out).mono ?_
              rintro e w9 ⟨rfl, hb9⟩
              have HB9' := Lib.hid (HB8'.out.trans (hb9.mono HB8'.out.size))
              clear hb9 x0 x1 x2 x3 x4
              go_wp2_with fail
              refine (awake_any w9).mono ?_
              rintro e wa ⟨rfl, hba⟩
              have HBA := Lib.hid (HB9'.out.trans (hba.mono HB9'.out.size))
              clear hba
              go_wp2_with fail
              go_ret
              exact ⟨rfl, HBA.out⟩
            · have hzb : (we != 0) = true := by rw [bne_iff_ne]; exact hz
              clear hz
              go_wp2_with fail
              refine (awake_any wr).mono ?_
              rintro e w7 ⟨rfl, hb7⟩
              have HB7 := Lib.hid (HB6.out.trans (hb7.mono HB6.out.size))
              clear hb7
              go_wp2_with fail
              go_ret
              exact ⟨rfl, HB7.out⟩
end Go.Proofs.Ytogccnngdfancaa
