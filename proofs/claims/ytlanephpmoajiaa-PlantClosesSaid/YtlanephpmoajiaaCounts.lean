/- The walk of the statement PlantCounts. -/
import Derived.Test.YtlanephpmoajiaaRefGap
import Derived.Test.YtlanephpmoajiaaAwake
namespace Go.Proofs.Ytlanephpmoajiaa
open Go.RowKit
set_option linter.unusedVariables false
set_option linter.unusedSimpArgs false
structure Box1 (w : World) (o : Obj) (wr : World) : Prop where
  box : wr.heap[w.heap.size]? = some o
  bel : Below w.heap.size w wr
theorem Box1.lt {w wr : World} {o : Obj} (h : Box1 w o wr) : w.heap.size < wr.heap.size := (Array.getElem?_eq_some_iff.1 h.box).1
theorem Box1.below {w wr w2 : World} {o : Obj} (h : Box1 w o wr) (hb : Below wr.heap.size wr w2) : Box1 w o w2 := ⟨(hb.block _ h.lt).trans h.box, h.bel.trans (hb.mono h.bel.size)⟩
theorem box1_new (w : World) (o : Obj) : Box1 w o (w.alloc o) := ⟨heap_alloc_new w _, (Below.refl _ w).alloc (Nat.le_refl _) _⟩
theorem one2 (a0 a1 : Int) : ∀ u ∈ (#[.int .i64 a0, .int .i64 a1] : Array Value).toList, u.oneCell' = true := by
  intro u hu; simp at hu; rcases hu with rfl | rfl <;> rfl
theorem le16 : 16 ≤ 1000 := by decide
theorem seventy (n m : Nat) : (70 < n) ∨ (n ≤ 70 ∧ 70 < m) ∨ (n ≤ 70 ∧ m ≤ 70) := by omega
set_option maxRecDepth 100000 in
set_option maxHeartbeats 4000000 in
theorem counts_any (v u : Value) (s : StockD) (l : List ShiftD) (room : Int) (seen : List StockD) (w : World) (hv : RdK 5 shC w (fun _ => True) v l) (hu : RdK 2 stC w (fun _ => True) u seen) (hroom : -9223372036854775808 ≤ room ∧ room ≤ 9223372036854775807) :
    Calls Try.prog 9 #[.agg #[.int .i64 s.green, .int .i64 s.cured], v, .int .i64 room, u] w fun e w' => e = .returned (.bool true) ∧ Below w.heap.size w w' := by
  obtain ⟨i0, hi0, hz0, hz1, hz2⟩ := info_parts info84
  obtain ⟨j0, hj0, hy0, hy1, hy2⟩ := info_parts info88
  have HV := Lib.hid hv
  obtain ⟨A, n, cap, rfl, hn, hcap, hmax, -⟩ := hv.open_
  obtain ⟨A', m, cap', rfl, hm, hcap', hmax', hc'⟩ := (hu.lt stC_0).open_
  have HC' := Lib.hid hc'
  have HN := Lib.hid hn
  have HM := Lib.hid hm
  obtain ⟨g0, c0⟩ := s
  simp only
  have HB := Lib.hid (box1_new w (.cells #[.int .i64 g0, .int .i64 c0] 74))
  obtain ⟨W1, hW1⟩ : ∃ W1, W1 = w.alloc (.cells #[.int .i64 g0, .int .i64 c0] 74) := ⟨_, rfl⟩
  rw [← hW1] at HB
  have HW1 := Lib.hid hW1
  clear hv hu hc' hW1 hn hm
  rcases seventy n m with h70 | ⟨h70, h71⟩ | ⟨h70, h71⟩
  · go_enter Try.func9, Try.ntmps9
    go_wp2_with fail
    rw [← HW1.out]
    go_wp2_with (go_at_call 16; refine (awake_any _).mono ?_; rintro e w2 ⟨rfl, hb2⟩)
    go_ret
    exact ⟨rfl, (HB.out.below hb2).bel⟩
  · go_enter Try.func9, Try.ntmps9
    go_wp2_with fail
    rw [← HW1.out]
    go_wp2_with (go_at_call 16; refine (awake_any _).mono ?_; rintro e w2 ⟨rfl, hb2⟩)
    go_ret
    exact ⟨rfl, (HB.out.below hb2).bel⟩
  · have HSF := Lib.hid (shifts_any (.slice A n cap) l (fun _ => True) W1 (HV.out.below shC_0 HB.out.bel) (by have := HN.out; omega))
    go_enter Try.func9, Try.ntmps9
    go_wp2_with fail
    rw [← HW1.out]
    go_wp2_with fail
    refine HSF.out.mono ?_
    rintro e w2 ⟨va, vb, rfl, hva, hvb, hb2⟩
    have HB2 := Lib.hid (HB.out.below hb2)
    have HVA := Lib.hid hva
    have HVB := Lib.hid hvb
    have z0 := cell_of_row w2 _ 0 _ _ _ HB2.out.box
    have z1 := cell_of_row w2 _ 1 _ _ _ HB2.out.box
    have HCN := Lib.hid (pCount_any va ⟨g0, c0⟩ l room _ w2 hva hroom)
    clear hva hvb hb2
    go_wp2_with fail
    refine HCN.out.mono ?_
    rintro e w3 ⟨vx, rfl, hvx, hb3⟩
    have HB3 := Lib.hid (HB2.out.below hb3)
    have y0 := cell_of_row w3 _ 0 _ _ _ HB3.out.box
    have y1 := cell_of_row w3 _ 1 _ _ _ HB3.out.box
    have HCR := Lib.hid (rCount_any vb ⟨g0, c0⟩ l room _ w3 (HVB.out.below shC_0 hb3) hroom)
    have HVX := Lib.hid hvx
    have HBB3 := Lib.hid hb3
    obtain ⟨ce, hce⟩ : ∃ ce, ce = cntErr ⟨g0, c0⟩ l room := ⟨_, rfl⟩
    rw [← hce]
    have HCE := Lib.hid hce
    clear z0 z1 hvx hb3 hce HCN
    go_wp2_with fail
    refine HCR.out.mono ?_
    rintro e w4 ⟨vy, rfl, hvy, hb4⟩
    rw [← HCE.out]
    have HB4 := Lib.hid (HB3.out.below hb4)
    have hvx4 := HVX.out.below stC_0 hb4
    obtain ⟨xs, hxs⟩ : ∃ xs, xs = cntOut ⟨g0, c0⟩ l room := ⟨_, rfl⟩
    rw [← hxs] at hvy hvx4
    obtain ⟨A1, n1, cap1, rfl, hn1, hcap1, hmax1, hc1⟩ := (hvx4.lt stC_0).open_
    obtain ⟨A2, n2, cap2, rfl, hn2, hcap2, hmax2, hc2⟩ := (hvy.lt stC_0).open_
    obtain rfl : n1 = n2 := hn1.symm.trans hn2
    have HC1 := Lib.hid hc1
    have HC2 := Lib.hid hc2
    have k1 : (ce != ce) = false := by simp
    have k2 : (((n1 : Nat) : Int) != (n1 : Int)) = false := by simp
    have HVA4 := Lib.hid ((HVA.out.below shC_0 HBB3.out).below shC_0 hb4)
    have HVB4 := Lib.hid ((HVB.out.below shC_0 HBB3.out).below shC_0 hb4)
    clear y0 y1 hvx4 hvy hxs hc1 hc2 hn1 hn2 hb4 HCR HVX
    go_wp2_with fail
    clear k1 k2
    go_loopw [66] (fun iv wr => ∃ k : Nat, k ≤ n1 ∧ iv = .int .i64 k ∧ Below w4.heap.size w4 wr) (fun iv _ => n1 - (intOf iv).toNat)
    case atStart => exact ⟨0, Nat.zero_le _, rfl, Below.refl _ _⟩
    case round =>
      obtain ⟨k, hk, rfl, hbr⟩ := hrel
      by_cases hlt : k < n1
      · obtain ⟨b, off, x, rfl, ⟨_, hb⟩, hx, hcell⟩ := HC1.out k hlt
        obtain ⟨b', off', y, rfl, ⟨_, hb'⟩, hy, hcell'⟩ := HC2.out k hlt
        rw [hx] at hy
        obtain rfl := Option.some.inj hy
        obtain ⟨xg, xc⟩ := x
        have d0 : wr.cell? ⟨b, off + k * 2, none⟩ = some (.int .i64 xg) := (hbr.cell (p := ⟨b, _, none⟩) hb).trans (hcell 0 _ rfl)
        have d1 : wr.cell? ⟨b, off + k * 2 + 1, none⟩ = some (.int .i64 xc) := (hbr.cell (p := ⟨b, _, none⟩) hb).trans (hcell 1 _ rfl)
        have d2 : wr.cell? ⟨b', off' + k * 2, none⟩ = some (.int .i64 xg) := (hbr.cell (p := ⟨b', _, none⟩) hb').trans (hcell' 0 _ rfl)
        have d3 : wr.cell? ⟨b', off' + k * 2 + 1, none⟩ = some (.int .i64 xc) := (hbr.cell (p := ⟨b', _, none⟩) hb').trans (hcell' 1 _ rfl)
        have i1 : (k : Int) < (n1 : Int) := by omega
        have i2 : (0 : Int) ≤ (k : Int) := by omega
        have HBR := Lib.hid hbr
        clear hbr hx hy hcell hcell'
        go_wp2_with fail
        go_quiet (fail)
        go_wp2_with fail
        go_roundw
        case rel => exact ⟨k + 1, by omega, by go_num, HBR.out.trans ((below_drewN (Below.refl _ _) _).mono HBR.out.size)⟩
        case measure => simp [intOf]; omega
      · have hB4 := HB4.out.below hbr
        have HS0 := Lib.hid hbr
        obtain ⟨w5, hw5⟩ : ∃ w5, w5 = wr := ⟨_, rfl⟩
        rw [← hw5] at HS0 ⊢
        have HB5 : Hid (Box1 w (.cells #[.int .i64 g0, .int .i64 c0] 74) w5) := by rw [hw5]; exact hB4
        have HT0 : Hid (TwoO w5.heap.size 84 88 2 2 (.slice none 0 0) 0 ((seen.take 0).flatMap stC) (.slice none 0 0) 0 ((seen.take 0).flatMap stC) (fun _ _ => False) w5 w5) := by
          unfold Hid
          exact ⟨World.ownsRow_nil _ _ _ _, World.ownsRow_nil _ _ _ _, fun k h => by simp [Value.ownBlock] at h, fun k o h => h.elim, Below.refl _ _, Nat.le_refl _⟩
        clear hbr hB4 hw5
        go_wp2_with fail
        go_loopw [16, 17, 81] (fun va' vb' iv wr => ∃ k : Nat, k ≤ m ∧ iv = .int .i64 k ∧ TwoO w5.heap.size 84 88 2 2 va' k ((seen.take k).flatMap stC) vb' k ((seen.take k).flatMap stC) (fun _ _ => False) w5 wr) (fun _ _ iv _ => m - (intOf iv).toNat)
        case atStart => exact ⟨0, Nat.zero_le _, rfl, HT0.out⟩
        case round =>
          clear HT0
          obtain ⟨k, hk, rfl, hT⟩ := hrel
          by_cases hlt : k < m
          · obtain ⟨b, off, x, rfl, ⟨_, hb⟩, hx, hcell⟩ := HC'.out k hlt
            have hB := HB5.out.bel.trans (hT.bel.mono HB5.out.bel.size)
            have d0 : wr.cell? ⟨b, off + k * 2, none⟩ = some (.int .i64 x.green) := (hB.cell (p := ⟨b, _, none⟩) hb).trans (hcell 0 _ rfl)
            have d1 : wr.cell? ⟨b, off + k * 2 + 1, none⟩ = some (.int .i64 x.cured) := (hB.cell (p := ⟨b, _, none⟩) hb).trans (hcell 1 _ rfl)
            obtain ⟨A3, cp3, rfl⟩ := ownsRow_slice hT.a
            obtain ⟨A4, cp4, rfl⟩ := ownsRow_slice hT.b
            have HF : Hid ((seen.take (k + 1)).flatMap stC = (seen.take k).flatMap stC ++ stC x) := flat_snoc hx
            obtain ⟨c, hc⟩ : ∃ c, c = (seen.take k).flatMap stC := ⟨_, rfl⟩
            rw [← hc] at hT HF
            obtain ⟨a0, a1⟩ := x
            simp only at d0 d1
            obtain ⟨W1, hW1⟩ : ∃ W1, W1 = wr.alloc (.cells #[.int .i64 a0, .int .i64 a1] 74) := ⟨_, rfl⟩
            have hT1 := (hT.lay (.cells #[.int .i64 a0, .int .i64 a1] 74))
            rw [← hW1] at hT1
            have HW1 := Lib.hid hW1
            have hm := heap_alloc_new wr (.cells #[.int .i64 a0, .int .i64 a1] 74)
            rw [← hW1] at hm
            have x0 := cell_of_row W1 _ 0 _ _ _ hm
            have x1 := cell_of_row W1 _ 1 _ _ _ hm
            have hk6 : k ≤ 1000000 := by omega
            clear hx hcell hc hW1 hm hT hB
            go_wp2_with fail
            rw [← HW1.out]
            clear d0 d1
            go_region_held3 (fun w' => w'.cell? ⟨wr.heap.size, 0, none⟩ = some (.int .i64 a0) ∧ w'.cell? ⟨wr.heap.size, 1, none⟩ = some (.int .i64 a1))
              (first | go_keep | exact ⟨x0, x1⟩ | exact ⟨y0, y1⟩ | exact ⟨z0, z1⟩)
              (first
            | ((first | (refine step_two rfl (.tmp 85) (.tmp 87) 81 rfl w5.heap.size 84 i0 _ 2 16 Try.underlying81 hi0 hz0 hz1 hz2 rfl (Nat.succ_pos _) rfl _ _ #[.int .i64 a0, .int .i64 a1] 84 rfl rfl (one2 _ _) hk6 le16 ((hT1.lay _).drew) ?_ ?_) | (refine step_two rfl (.tmp 85) (.tmp 87) 81 rfl w5.heap.size 84 i0 _ 2 16 Try.underlying81 hi0 hz0 hz1 hz2 rfl (Nat.succ_pos _) rfl _ _ #[.int .i64 a0, .int .i64 a1] 84 rfl rfl (one2 _ _) hk6 le16 (((hT1.lay _).lay _).drew) ?_ ?_))
               (first | (refine .inr ⟨?_, rfl⟩; · simp) | (refine .inl (.inr ⟨?_, rfl⟩); · simp))
               rintro v' w7 hT2 ⟨A3, c3, rfl⟩
               have hG := hT2.pr wr.heap.size (.cells #[.int .i64 a0, .int .i64 a1] 74)
               simp only [true_and, and_true, or_true, true_or, false_or, forall_const, and_self, true_implies] at hG
               have y0 := cell_of_row w7 _ 0 _ _ _ hG.1
               have y1 := cell_of_row w7 _ 1 _ _ _ hG.1)
            | ((first | (refine step_two rfl (.tmp 89) (.tmp 91) 85 rfl w5.heap.size 88 j0 _ 2 16 Try.underlying85 hj0 hy0 hy1 hy2 rfl (Nat.succ_pos _) rfl _ _ #[.int .i64 a0, .int .i64 a1] 88 rfl rfl (one2 _ _) hk6 le16 (hT2.swap) ?_ ?_) | (refine step_two rfl (.tmp 89) (.tmp 91) 85 rfl w5.heap.size 88 j0 _ 2 16 Try.underlying85 hj0 hy0 hy1 hy2 rfl (Nat.succ_pos _) rfl _ _ #[.int .i64 a0, .int .i64 a1] 88 rfl rfl (one2 _ _) hk6 le16 ((hT2.lay _).swap) ?_ ?_))
               (first | (refine .inr ⟨?_, rfl⟩; · simp) | (refine .inl (.inr ⟨?_, rfl⟩); · simp))
               rintro v' w6 hT3 ⟨A4, c4, rfl⟩
               have hG := hT3.pr wr.heap.size (.cells #[.int .i64 a0, .int .i64 a1] 74)
               simp only [true_and, and_true, or_true, true_or, false_or, forall_const, and_self, true_implies] at hG
               have z0 := cell_of_row w6 _ 0 _ _ _ hG.1
               have z1 := cell_of_row w6 _ 1 _ _ _ hG.1))
            all_goals
              have HT9 := Lib.hid (hT3.swap.strike (P' := fun _ _ => False) (fun _ _ h => h.elim))
              clear hT3 hT2 hT1
              go_wp2_with fail
              go_roundw
              case rel => exact ⟨k + 1, by omega, by go_num, by rw [HF.out]; exact HT9.out⟩
              case measure => simp [intOf]; omega
          · have h1 : seen.take k = seen := List.take_of_length_le (by have := HM.out; omega)
            rw [h1] at hT
            have h2 : seen.length = k := by have := HM.out; omega
            have hra := RdK.of_own stC_len hT.a h2
            have hrb := RdK.of_own stC_len hT.b h2
            have HB6 := Lib.hid (HB5.out.below hT.bel)
            have HVA6 := Lib.hid ((HVA4.out.below shC_0 HS0.out).below shC_0 hT.bel)
            have HVB6 := Lib.hid ((HVB4.out.below shC_0 HS0.out).below shC_0 hT.bel)
            obtain ⟨A3, cp3, rfl⟩ := ownsRow_slice hT.a
            obtain ⟨A4, cp4, rfl⟩ := ownsRow_slice hT.b
            have x0 := cell_of_row wr _ 0 _ _ _ HB6.out.box
            have x1 := cell_of_row wr _ 1 _ _ _ HB6.out.box
            have HGP := Lib.hid (pGap_any va (.slice A3 k cp3) ⟨g0, c0⟩ l seen _ _ wr HVA6.out hra)
            have HRB := Lib.hid hrb
            obtain ⟨gi, hgi⟩ : ∃ gi, gi = gapI ⟨g0, c0⟩ l seen := ⟨_, rfl⟩
            obtain ⟨gd, hgd⟩ : ∃ gd, gd = (gapD ⟨g0, c0⟩ l seen).green := ⟨_, rfl⟩
            obtain ⟨gc, hgc⟩ : ∃ gc, gc = (gapD ⟨g0, c0⟩ l seen).cured := ⟨_, rfl⟩
            obtain ⟨ge, hge⟩ : ∃ ge, ge = gapErr ⟨g0, c0⟩ l seen := ⟨_, rfl⟩
            have HGI := Lib.hid hgi
            have HGD := Lib.hid hgd
            have HGC := Lib.hid hgc
            have HGE := Lib.hid hge
            clear hT hra hrb h1 h2 hgi hgd hgc hge
            go_wp2_with fail
            refine HGP.out.mono ?_
            rintro e w7 ⟨rfl, hb7⟩
            rw [← HGI.out, ← HGD.out, ← HGC.out, ← HGE.out]
            have hB7 := HB6.out.below hb7
            have y0 := cell_of_row w7 _ 0 _ _ _ hB7.box
            have y1 := cell_of_row w7 _ 1 _ _ _ hB7.box
            have hlw7 := hB7.lt
            obtain ⟨w8, hw8⟩ : ∃ w8, w8 = w7.alloc (.cells #[.int .i64 gd, .int .i64 gc] 84) := ⟨_, rfl⟩
            have hb8 : Below w7.heap.size w7 w8 := by rw [hw8]; exact (Below.refl _ w7).alloc (Nat.le_refl _) _
            have hx8 := heap_alloc_new w7 (.cells #[.int .i64 gd, .int .i64 gc] 84)
            rw [← hw8] at hx8
            have HX8 := Lib.hid hx8
            have HW8 := Lib.hid hw8
            have HB8 := Lib.hid (hB7.below hb8)
            have HGR := Lib.hid (rGap_any vb (.slice A4 k cp4) ⟨g0, c0⟩ l seen _ _ w8 ((HVB6.out.below shC_0 hb7).below shC_0 hb8) ((HRB.out.below stC_0 hb7).below stC_0 hb8))
            clear x0 x1 hB7 hb7 hb8 hw8 hx8
            go_wp2_with fail
            rw [← HW8.out]
            refine HGR.out.mono ?_
            rintro e w9 ⟨rfl, hb9⟩
            rw [← HGI.out, ← HGD.out, ← HGC.out, ← HGE.out]
            have HB9 := Lib.hid (HB8.out.below hb9)
            have hx9 := (hb9.block _ (Array.getElem?_eq_some_iff.1 HX8.out).1).trans HX8.out
            have z0 := cell_of_row w9 _ 0 _ _ _ hx9
            have z1 := cell_of_row w9 _ 1 _ _ _ hx9
            have hlt9 : w7.heap.size < w9.heap.size := (Array.getElem?_eq_some_iff.1 hx9).1
            have e1 : (gi == gi) = true := by simp
            have e2 : (gd == gd) = true := by simp
            have e3 : (gc == gc) = true := by simp
            have e4 : (ge == ge) = true := by simp
            have HBL := Lib.hid (HB9.out.bel.alloc HB9.out.bel.size (.cells #[.int .i64 gd, .int .i64 gc] 88))
            clear y0 y1 hx9 hb9
            go_wp2_with (go_at_call 16; refine (awake_any _).mono ?_; rintro e w10 ⟨rfl, hb10⟩)
            go_ret
            exact ⟨rfl, HBL.out.trans (hb10.mono HBL.out.size)⟩
end Go.Proofs.Ytlanephpmoajiaa
