/- The walk of the reference's Count. -/
import Derived.Test.YtlanephpmoajiaaCount
import Derived.Test.YtlanephpmoajiaaCntB
import Derived.StillTailTactics
namespace Go.Proofs.Ytlanephpmoajiaa
open Go.RowKit
set_option linter.unusedVariables false
set_option linter.unusedSimpArgs false
theorem info88 : (Try.prog.info? 88).map (fun i => (i.zero, i.size, i.bytes)) = some (some (.agg #[.int .i64 0, .int .i64 0]), 2, 16) := by kernel_rfl
set_option maxRecDepth 100000 in
set_option maxHeartbeats 2000000 in
theorem rCount_any (v : Value) (s : StockD) (l : List ShiftD) (room : Int) (S : Nat → Prop) (w : World) (hv : RdK 5 shC w S v l) (hroom : -9223372036854775808 ≤ room ∧ room ≤ 9223372036854775807) :
    Calls Try.prog 42 #[.agg #[.int .i64 s.green, .int .i64 s.cured], v, .int .i64 room] w (CountPost w s l room) := by
  obtain ⟨i0, hi0, hz0, hz1, hz2⟩ := info_parts info88
  obtain ⟨A, n, cap, rfl, hn, hcap, hmax, hc⟩ := (hv.lt shC_0).open_
  have HC := Lib.hid hc
  have HN := Lib.hid hn
  obtain ⟨g0, c0⟩ := s
  simp only
  obtain ⟨W1, hW1⟩ : ∃ W1, W1 = w.alloc (.cells #[.int .i64 g0, .int .i64 c0] 88) := ⟨_, rfl⟩
  have hb1 : Below w.heap.size w W1 := by rw [hW1]; exact (Below.refl _ w).alloc (Nat.le_refl _) _
  have hm1 := heap_alloc_new w (.cells #[.int .i64 g0, .int .i64 c0] 88)
  rw [← hW1] at hm1
  have HW1 := Lib.hid hW1
  rcases Nat.lt_or_ge 64 n with hbig | hsm
  · have he : cntErr ⟨g0, c0⟩ l room = 4 := by unfold cntErr; rw [if_pos (by omega)]
    have HE := Lib.hid he
    clear he hn hc hv hW1 hm1
    go_enter Try.func42, Try.ntmps42
    go_wp2_with fail
    rw [← HW1.out]
    go_wp2_with fail
    go_ret2
    exact CountPost.bad HE.out (by decide) hb1
  · have hsz : W1.heap.size = w.heap.size + 1 := by rw [hW1]; simp
    have HAL := Lib.hid (refStock_any ⟨g0, c0⟩ W1)
    have x0 := cell_of_row W1 _ 0 _ _ _ hm1
    have x1 := cell_of_row W1 _ 1 _ _ _ hm1
    obtain ⟨q, hq⟩ : ∃ q, q = stOk ⟨g0, c0⟩ := ⟨_, rfl⟩
    rw [← hq] at HAL
    have HQ := Lib.hid hq
    cases q with
    | false =>
      have he : cntErr ⟨g0, c0⟩ l room = 1 := by unfold cntErr; rw [if_neg (by omega), if_pos HQ.out.symm]
      have HE := Lib.hid he
      clear he hn hc hv hW1 hm1 hsz hq
      go_enter Try.func42, Try.ntmps42
      go_wp2_with fail
      rw [← HW1.out]
      go_wp2_with fail
      refine HAL.out.mono ?_
      rintro e w3 ⟨rfl, hb3⟩
      go_wp2_with fail
      go_ret2
      exact CountPost.bad HE.out (by decide) (hb1.trans (hb3.mono hb1.size))
    | true =>
      have hst : CntW 88 88 w g0 c0 (.slice none 0 0) 0 ((cntList ⟨g0, c0⟩ l 0).flatMap stC) W1 := ⟨hm1, World.ownsRow_nil _ _ _ _, hb1⟩
      have HST := Lib.hid hst
      clear hn hc hv hW1 hm1 hsz hq hst
      go_enter Try.func42, Try.ntmps42
      go_wp2_with fail
      rw [← HW1.out]
      go_wp2_with fail
      refine HAL.out.mono ?_
      rintro e w3 ⟨rfl, hb3⟩
      have HST3 := Lib.hid (HST.out.below hb3)
      clear HST
      go_wp2_with fail
      clear x0 x1
      go_loopw [8, 9] (fun vo iv wr => ∃ k : Nat, k ≤ n ∧ iv = .int .i64 k ∧ CntTo ⟨g0, c0⟩ l room k ∧ ∃ g c, stAt ⟨g0, c0⟩ l k = ⟨g, c⟩ ∧ CntW 88 88 w g c vo k ((cntList ⟨g0, c0⟩ l k).flatMap stC) wr) (fun _ iv _ => n - (intOf iv).toNat)
      case atStart => exact ⟨0, Nat.zero_le _, rfl, CntTo.zero _ _ _, g0, c0, rfl, HST3.out⟩
      case round =>
        clear HST3
        obtain ⟨k, hk, rfl, hto, g, c, hgc, hT⟩ := hrel
        by_cases hlt : k < n
        · obtain ⟨b, off, x, rfl, ⟨_, hb⟩, hx, hcell⟩ := HC.out k hlt
          have d0 : wr.cell? ⟨b, off + k * 5, none⟩ = some (.int .i64 x.built) := (hT.bel.cell (p := ⟨b, _, none⟩) hb).trans (hcell 0 _ rfl)
          have d1 : wr.cell? ⟨b, off + k * 5 + 1, none⟩ = some (.int .i64 x.lost) := (hT.bel.cell (p := ⟨b, _, none⟩) hb).trans (hcell 1 _ rfl)
          have d2 : wr.cell? ⟨b, off + k * 5 + 2, none⟩ = some (.int .i64 x.cured) := (hT.bel.cell (p := ⟨b, _, none⟩) hb).trans (hcell 2 _ rfl)
          have d3 : wr.cell? ⟨b, off + k * 5 + 3, none⟩ = some (.int .i64 x.scrapped) := (hT.bel.cell (p := ⟨b, _, none⟩) hb).trans (hcell 3 _ rfl)
          have d4 : wr.cell? ⟨b, off + k * 5 + 4, none⟩ = some (.int .i64 x.shipped) := (hT.bel.cell (p := ⟨b, _, none⟩) hb).trans (hcell 4 _ rfl)
          have hnl : k < l.length := by have := HN.out; omega
          have hll : l.length ≤ 64 := by have := HN.out; omega
          have hbd := stAt_bounds HQ.out.symm hto.sh (Nat.le_of_lt hnl)
          rw [hgc] at hbd
          simp only at hbd
          have hg1 : -1000000000 ≤ g ∧ g ≤ 1000000000 := by omega
          have hc1 : -1000000000 ≤ c ∧ c ≤ 1000000000 := by omega
          have HSUC := Lib.hid (stAt_succ (s := ⟨g0, c0⟩) hx)
          rw [hgc] at HSUC
          have HTO := Lib.hid hto
          have HX := Lib.hid hx
          have HNL := Lib.hid hnl
          have HLL := Lib.hid hll
          have HCS : Hid ((cntList ⟨g0, c0⟩ l (k + 1)).flatMap stC = (cntList ⟨g0, c0⟩ l k).flatMap stC ++ stC (stAt ⟨g0, c0⟩ l (k + 1))) := by unfold Hid; rw [cntList_succ, flat_app]
          obtain ⟨cs, hcs⟩ : ∃ cs, cs = (cntList ⟨g0, c0⟩ l k).flatMap stC := ⟨_, rfl⟩
          rw [← hcs] at hT HCS
          obtain ⟨A1, cp1, rfl⟩ := ownsRow_slice hT.own
          obtain ⟨a0, a1, a2, a3, a4⟩ := x
          simp only at d0 d1 d2 d3 d4
          have HSH := Lib.hid (refShift_any ⟨a0, a1, a2, a3, a4⟩ wr)
          obtain ⟨p, hp⟩ : ∃ p, p = shOk ⟨a0, a1, a2, a3, a4⟩ := ⟨_, rfl⟩
          rw [← hp] at HSH
          have HP := Lib.hid hp
          have HT := Lib.hid hT
          have HBD := Lib.hid hbd
          have HGC := Lib.hid hgc
          clear hx hcell hcs hT hp hnl hll hgc hto hbd
          cases p with
          | false =>
            go_wp2_with (go_at_call 79; refine HSH.out.mono ?_; rintro e w4 ⟨rfl, hb4⟩)
            go_ret2
            exact CountPost.bad (cntErr_hit HLL.out HQ.out.symm HTO.out HNL.out (cntAt_bad HX.out HP.out.symm) (by decide)) (by decide) (HT.out.below hb4).bel
          | true =>
            have HAF : Hid (∀ W, Calls Try.prog 80 #[.agg #[.int .i64 g, .int .i64 c], .agg #[.int .i64 a0, .int .i64 a1, .int .i64 a2, .int .i64 a3, .int .i64 a4]] W fun e w' => e = .returned (.agg #[.int .i64 (stAfter ⟨g, c⟩ ⟨a0, a1, a2, a3, a4⟩).green, .int .i64 (stAfter ⟨g, c⟩ ⟨a0, a1, a2, a3, a4⟩).cured]) ∧ Below W.heap.size W w') :=
              fun W => refAfter_any ⟨g, c⟩ ⟨a0, a1, a2, a3, a4⟩ W hg1 hc1 HP.out.symm
            obtain ⟨g', hg'⟩ : ∃ g', g' = (stAfter ⟨g, c⟩ ⟨a0, a1, a2, a3, a4⟩).green := ⟨_, rfl⟩
            obtain ⟨c', hc'⟩ : ∃ c', c' = (stAfter ⟨g, c⟩ ⟨a0, a1, a2, a3, a4⟩).cured := ⟨_, rfl⟩
            rw [← hg', ← hc'] at HAF
            have HS1 : Hid (stAt ⟨g0, c0⟩ l (k + 1) = ⟨g', c'⟩) := by rw [HSUC.out, hg', hc']; exact rfl
            clear hg' hc' hg1 hc1
            rw [HS1.out] at HCS
            have D := stBad_cases room g' c'
            have hbk : b < wr.heap.size := by have := HT.out.bel.size; omega
            go_wp2_with (go_at_call 79; refine HSH.out.mono ?_; rintro e w4 ⟨rfl, hb4⟩; have hT4 := HT.out.below hb4; have z0 := cell_of_row w4 _ 0 _ _ _ hT4.box; have z1 := cell_of_row w4 _ 1 _ _ _ hT4.box; have z2 := (hb4.cell (p := ⟨b, off + k * 5, none⟩) hbk).trans d0; have z3 := (hb4.cell (p := ⟨b, off + k * 5 + 1, none⟩) hbk).trans d1; have z4 := (hb4.cell (p := ⟨b, off + k * 5 + 2, none⟩) hbk).trans d2; have z5 := (hb4.cell (p := ⟨b, off + k * 5 + 3, none⟩) hbk).trans d3; have z6 := (hb4.cell (p := ⟨b, off + k * 5 + 4, none⟩) hbk).trans d4; have HT4 := Lib.hid (hT4.below ((Below.refl _ w4).drew)); clear hT4)
            clear d0 d1 d2 d3 d4
            go_still_tail 5, (by kernel_rfl)
            change wpList _ _ _ _ _ w4.drew
            obtain ⟨w4d, hw4d⟩ : ∃ w4d, w4d = w4.drew := ⟨_, rfl⟩
            rw [← hw4d] at HT4 ⊢
            clear z0 z1 z2 z3 z4 z5 z6 hb4
            clear hw4d
            go_wp2_with fail
            refine (HAF.out _).mono ?_
            rintro e w5 ⟨rfl, hb5⟩
            have hT5 := HT4.out.below hb5
            have q0 := cell_of_row w5 _ 0 _ _ _ hT5.box
            have q1 := cell_of_row w5 _ 1 _ _ _ hT5.box
            have f0 := frozen_of_row w5 w.heap.size 0 _ _ hT5.box
            have f1 := frozen_of_row w5 w.heap.size 1 _ _ hT5.box
            have hT6 := hT5.store g' c'
            obtain ⟨w6, hw6⟩ : ∃ w6, w6 = ((w5.setCell ⟨w.heap.size, 0, none⟩ (.int .i64 g')).setCell ⟨w.heap.size, 1, none⟩ (.int .i64 c')) := ⟨_, rfl⟩
            rw [← hw6] at hT6
            have r0 := cell_of_row w6 _ 0 _ _ _ hT6.box
            have r1 := cell_of_row w6 _ 1 _ _ _ hT6.box
            have HW6 := Lib.hid hw6
            have HT6 := Lib.hid hT6
            clear hT5 hT6 hw6
            have HD := Lib.hid D
            clear D
            have hcut : ∀ W, Below w6.heap.size w6 W → Below w.heap.size w W := fun W h => (HT6.out.below h).bel
            have HCUT := Lib.hid hcut
            clear hcut
            rcases HD.out with ⟨h1, hs⟩ | ⟨h1, h2, hs⟩ | ⟨h1, h2, h3, hs⟩ | ⟨h1, h2, h3, hs⟩
            · have HS := Lib.hid hs
              clear HD hs
              go_wp2_with fail
              rw [← HW6.out]
              go_wp2_with fail
              go_ret2
              exact CountPost.bad (cntErr_hit HLL.out HQ.out.symm HTO.out HNL.out (cntAt_store HX.out HP.out.symm (by rw [HS1.out]; exact HS.out)) (by decide)) (by decide) HT6.out.bel
            · have HS := Lib.hid hs
              clear HD hs
              go_wp2_with fail
              rw [← HW6.out]
              go_wp2_with fail
              go_ret2
              exact CountPost.bad (cntErr_hit HLL.out HQ.out.symm HTO.out HNL.out (cntAt_store HX.out HP.out.symm (by rw [HS1.out]; exact HS.out)) (by decide)) (by decide) HT6.out.bel
            · have HS := Lib.hid hs
              clear HD hs
              go_wp2_with fail
              rw [← HW6.out]
              go_wp2_with fail
              go_ret2
              exact CountPost.bad (cntErr_hit HLL.out HQ.out.symm HTO.out HNL.out (cntAt_store HX.out HP.out.symm (by rw [HS1.out]; exact HS.out)) (by decide)) (by decide) HT6.out.bel
            · have HS := Lib.hid hs
              clear HD hs
              have hT6 := HT6.out
              rw [HW6.out] at hT6
              have hown := hT6.own
              have hsz6 := hT6.lt
              have hnew := cells_new ((w5.setCell ⟨w.heap.size, 0, none⟩ (.int .i64 g')).setCell ⟨w.heap.size, 1, none⟩ (.int .i64 c')) #[.int .i64 g', .int .i64 c'] 88 (0, 0)
              rw [show ((w5.setCell ⟨w.heap.size, 0, none⟩ (.int .i64 g')).setCell ⟨w.heap.size, 1, none⟩ (.int .i64 c')).heap.size = w5.heap.size from by simp] at hnew hsz6
              have HNEW := Lib.hid hnew
              have HT6' := Lib.hid hT6
              clear hnew hT6
              go_wp2_with (at_builtin; refine wpList_append_own _ rfl _ _ 85 rfl (w.heap.size + 1) 88 i0 (.agg #[.int .i64 0, .int .i64 0]) 2 16 Try.underlying85 hi0 hz0 hz1 hz2 rfl (by decide) _ k cs rfl (hown.alloc _) ⟨w5.heap.size, 0, none⟩ 1 1 [.int .i64 g', .int .i64 c'] rfl rfl HNEW.out (by intro u hu; simp at hu; rcases hu with rfl | rfl <;> rfl) (by unfold maxLen; omega) (by omega) (by simp; omega) ?_; intro v7 w7 hown7 hg7 _; obtain ⟨A7, c7, rfl⟩ := ownsRow_slice hown7; have hT7 := CntW.app HT6'.out ((Below.refl _ _).alloc (Nat.le_refl _) _) hown7 hg7; clear hown7 hg7)
              have HT7 := Lib.hid hT7
              clear hT7 hown
              go_roundw
              case rel => exact ⟨k + 1, by omega, by go_num, HTO.out.succ (cntAt_ok HX.out HP.out.symm (by rw [HS1.out]; exact HS.out)), g', c', HS1.out, by rw [HCS.out]; exact HT7.out⟩
              case measure => simp [intOf]; omega
        · have h1 : k = l.length := by have := HN.out; omega
          have HT := Lib.hid hT
          have HTO := Lib.hid hto
          have HK := Lib.hid h1
          clear hT hto hgc h1
          go_wp2_with fail
          go_ret2
          have hT := HT.out
          have hto := HTO.out
          rw [HK.out] at hT hto
          have he := cntErr_ok (by have := HN.out; omega) HQ.out.symm hto
          exact CountPost.good he ((RdK.of_own stC_len hT.own (cntList_len _ _ _)).mono fun b hb => by omega) hT.bel
end Go.Proofs.Ytlanephpmoajiaa
