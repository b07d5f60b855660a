/- The walk of the statement PlantCloses. -/
import Derived.Test.YtlanephpmoajiaaClosesPlain
import Derived.Test.YtlanephpmoajiaaCounts
namespace Go.Proofs.Ytlanephpmoajiaa
open Go.RowKit
set_option linter.unusedVariables false
set_option linter.unusedSimpArgs false
/-- What stands from Count on. -/
structure ClW (w : World) (g0 c0 : Int) (va vx : Value) (l : List ShiftD) (cs : List StockD) (wr : World) : Prop where
  start : wr.heap[w.heap.size]? = some (.cells #[.int .i64 g0, .int .i64 c0] 74)
  hva : RdK 5 shC wr (fun b => vx.ownBlock ≠ some b) va l
  own : wr.ownsRow (w.heap.size + 1) 84 2 vx cs.length (cs.flatMap stC)
  bel : Below w.heap.size w wr
section
variable {w wr w2 : World} {g0 c0 : Int} {va vx : Value} {l : List ShiftD} {cs : List StockD}
theorem ClW.lt (h : ClW w g0 c0 va vx l cs wr) : w.heap.size < wr.heap.size := (Array.getElem?_eq_some_iff.1 h.start).1
theorem ClW.below (h : ClW w g0 c0 va vx l cs wr) (hb : Below wr.heap.size wr w2) : ClW w g0 c0 va vx l cs w2 :=
  ⟨(hb.block _ h.lt).trans h.start, h.hva.below shC_0 hb, h.own.kept (row := none) ⟨hb.os, hb.tape, hb.output, hb.size, fun k hk _ => hb.block k hk⟩ (Classical.em _), h.bel.trans (hb.mono h.bel.size)⟩
theorem flat_set2 {f0 f1 : StockD → Value} : ∀ (xs : List StockD) (k : Nat) (y : StockD), k < xs.length → ((xs.flatMap stC).set (k * 2) (.int .i64 y.green)).set (k * 2 + 1) (.int .i64 y.cured) = (xs.set k y).flatMap stC
  | [], k, y, h => by simp at h
  | x :: xs, 0, y, _ => by simp [stC]
  | x :: xs, k + 1, y, h => by
    have ih := flat_set2 (f0 := f0) (f1 := f1) xs k y (by simpa using h)
    rw [List.flatMap_cons, show (k + 1) * 2 = k * 2 + 1 + 1 from by omega]
    simp only [stC, List.cons_append, List.nil_append, List.set_cons_succ, List.flatMap_cons]
    rw [← ih]
/-- Stock k of the row is written. -/
theorem ClW.store {gx n cap : Nat} (h : ClW w g0 c0 va (.slice (some ⟨gx, 0, none⟩) n cap) l cs wr) (hn : cs.length = n) {k : Nat} (hk : k < n) (y : StockD) :
    ClW w g0 c0 va (.slice (some ⟨gx, 0, none⟩) n cap) l (cs.set k y) ((wr.setCell ⟨gx, k * 2, none⟩ (.int .i64 y.green)).setCell ⟨gx, k * 2 + 1, none⟩ (.int .i64 y.cured)) := by
  have hb := (h.own.lt gx (by simp [Value.ownBlock])).1
  have own := h.own
  rw [hn] at own
  have o1 := (own.stored (k * 2) (.int .i64 y.green)).1
  have o2 := (o1.stored (k * 2 + 1) (.int .i64 y.cured)).1
  have hkeep : Keep (fun b => (⟨gx, 0, none⟩ : Addr).block ≠ b) wr ((wr.setCell ⟨gx, k * 2, none⟩ (.int .i64 y.green)).setCell ⟨gx, k * 2 + 1, none⟩ (.int .i64 y.cured)) :=
    (((Keep.refl _ wr).setCell (fun h => h rfl) _).setCell (fun h => h rfl) _)
  refine ⟨(hkeep.block _ (by simp; omega)).trans h.start, h.hva.keep (hkeep.mono fun b hb => by simp [Value.ownBlock] at hb; exact hb), ?_, (h.bel.setCell (p := ⟨gx, k * 2, none⟩) (by simp; omega) _).setCell (p := ⟨gx, k * 2 + 1, none⟩) (by simp; omega) _⟩
  rw [flat_set2 (f0 := fun _ => .int .i64 0) (f1 := fun _ => .int .i64 0) cs k y (by omega)] at o2
  rw [List.length_set, hn]
  exact o2
/-- The cells of stock k. -/
theorem ClW.at_ {A : Option Addr} {n cap : Nat} (h : ClW w g0 c0 va (.slice A n cap) l cs wr) (hn : cs.length = n) {k : Nat} (hk : k < n) : ∃ gx x, A = some ⟨gx, 0, none⟩ ∧ w.heap.size < gx ∧ gx < wr.heap.size ∧ cs[k]? = some x ∧
    wr.cell? ⟨gx, k * 2, none⟩ = some (.int .i64 x.green) ∧ wr.cell? ⟨gx, k * 2 + 1, none⟩ = some (.int .i64 x.cured) ∧ wr.frozen? ⟨gx, k * 2, none⟩ = false ∧ wr.frozen? ⟨gx, k * 2 + 1, none⟩ = false := by
  have hx : cs[k]? = some (cs[k]'(by omega)) := List.getElem?_eq_getElem (by omega)
  rcases h.own.2 with ⟨q, q2⟩ | ⟨g, cap', cur, q, hb, hg, h1, h2, h3, h4⟩
  · omega
  · simp only [Value.slice.injEq] at q
    obtain ⟨rfl, q1, q2⟩ := q
    subst q2
    have hl : (cs.flatMap stC).length = cs.length * 2 := flat_len stC_len cs
    have own := h.own
    rw [hn] at own
    have c0 := own.cellAt (k * 2) (by omega)
    have c1 := own.cellAt (k * 2 + 1) (by omega)
    have e0 := flat_at stC_len cs k _ hx 0 _ rfl
    have e1 := flat_at stC_len cs k _ hx 1 _ rfl
    exact ⟨g, _, rfl, by omega, (Array.getElem?_eq_some_iff.1 hg).1, hx, c0.trans e0, c1.trans e1, frozen_of_row wr g (k * 2) _ _ hg, frozen_of_row wr g (k * 2 + 1) _ _ hg⟩
end
set_option maxRecDepth 100000 in
set_option maxHeartbeats 4000000 in
theorem closes_any (v : Value) (s : StockD) (l : List ShiftD) (at_ by_ : Int) (gr : Bool) (w : World) (hv : RdK 5 shC w (fun _ => True) v l) (hat : 0 ≤ at_ ∧ at_ ≤ 255) (hby : -128 ≤ by_ ∧ by_ ≤ 127) :
    Calls Try.prog 10 #[.agg #[.int .i64 s.green, .int .i64 s.cured], v, .int .u8 at_, .int .i8 by_, .bool gr] w fun e w' => e = .returned (.bool true) ∧ Below w.heap.size w w' := by
  have HV := Lib.hid hv
  obtain ⟨A, n, cap, rfl, hn, hcap, hmax, -⟩ := hv.open_
  have HN := Lib.hid hn
  obtain ⟨g0, c0⟩ := s
  simp only
  have HB := Lib.hid (box1_new w (.cells #[.int .i64 g0, .int .i64 c0] 74))
  obtain ⟨W1, hW1⟩ : ∃ W1, W1 = w.alloc (.cells #[.int .i64 g0, .int .i64 c0] 74) := ⟨_, rfl⟩
  rw [← hW1] at HB
  have HW1 := Lib.hid hW1
  obtain ⟨hat1, hat2⟩ := hat
  obtain ⟨hby1, hby2⟩ := hby
  clear hv hW1 hn
  rcases Nat.lt_or_ge 70 n with h70 | h70
  · go_enter Try.func10, Try.ntmps10
    go_wp2_with fail
    rw [← HW1.out]
    go_wp2_with (go_at_call 16; refine (awake_any _).mono ?_; rintro e w2 ⟨rfl, hb2⟩)
    go_ret
    exact ⟨rfl, (HB.out.below hb2).bel⟩
  · have HSF := Lib.hid (shifts_any (.slice A n cap) l (fun _ => True) W1 (HV.out.below shC_0 HB.out.bel) (by have := HN.out; omega))
    go_enter Try.func10, Try.ntmps10
    go_wp2_with fail
    rw [← HW1.out]
    go_wp2_with fail
    refine HSF.out.mono ?_
    rintro e w2 ⟨va, vb, rfl, hva, -, hb2⟩
    have HB2 := Lib.hid (HB.out.below hb2)
    have z0 := cell_of_row w2 _ 0 _ _ _ HB2.out.box
    have z1 := cell_of_row w2 _ 1 _ _ _ HB2.out.box
    have HCN := Lib.hid (pCount_own va ⟨g0, c0⟩ l 1099511627776 _ w2 hva (by decide))
    have HVA := Lib.hid hva
    clear hva hb2
    go_wp2_with fail
    refine HCN.out.mono ?_
    rintro e w3 ⟨vx, rfl, hb3, hvx⟩
    have HB3 := Lib.hid (HB2.out.below hb3)
    obtain ⟨ce, hce⟩ : ∃ ce, ce = cntErr ⟨g0, c0⟩ l 1099511627776 := ⟨_, rfl⟩
    rw [← hce] at hvx ⊢
    have HCE := Lib.hid hce
    rcases hvx with ⟨h0, rfl⟩ | ⟨h0, hown⟩
    · have k1 : (ce != 0) = true := by simpa using h0
      clear h0 hce z0 z1 hb3 HCN
      go_wp2_with (go_at_call 16; refine (awake_any _).mono ?_; rintro e w4 ⟨rfl, hb4⟩)
      go_ret
      exact ⟨rfl, (HB3.out.below hb4).bel⟩
    · obtain ⟨A1, cp1, rfl⟩ := ownsRow_slice hown
      have hcl : ClW w g0 c0 va (.slice A1 l.length cp1) l (cntList ⟨g0, c0⟩ l l.length) w3 := by
        refine ⟨HB3.out.box, (HVA.out.below shC_0 hb3).keep (Keep.refl _ _) |> fun h => ?_, ?_, HB3.out.bel⟩
        · exact ((((HVA.out.lt shC_0).keep ((Keep.of_below hb3).mono fun b hb => hb.2))).mono fun b hb e => by have := (hown.lt b e).1; omega)
        · have := HB2.out.lt
          rw [cntList_len]
          exact ownsRow_mono hown (by omega)
      rw [HN.out] at hcl ⊢
      subst h0
      have HCL := Lib.hid hcl
      have y0 := cell_of_row w3 _ 0 _ _ _ hcl.start
      have y1 := cell_of_row w3 _ 1 _ _ _ hcl.start
      have hop := (hcl.hva.lt shC_0).open_
      obtain ⟨A2, n2, cap2, rfl, hn2, hcap2, hmax2, hc2⟩ := hop
      obtain rfl : n2 = n := hn2.symm.trans HN.out
      have HC2 := Lib.hid hc2
      have k2 : (((n2 : Nat) : Int) != (n2 : Int)) = false := by simp
      clear hown z0 z1 hb3 HCN hce hcl hn2 hc2
      go_wp2_with fail
      obtain ⟨hc64, hcs, hcto⟩ := cntErr_zero HCE.out.symm
      obtain ⟨⟨b1, b2⟩, b3, b4⟩ := stOk_bounds hcs
      simp only at b1 b2 b3 b4
      have HCS := Lib.hid hcs
      have HTO := Lib.hid hcto.sh
      have hn64 : n2 ≤ 64 := by have := HN.out; omega
      have HE0 : Hid ((w3.alloc (Obj.cells #[Value.int .i64 g0, .int .i64 c0] 84)).heap[w3.heap.size]? = some (.cells #[.int .i64 g0, .int .i64 c0] 84)) := heap_alloc_new w3 _
      have HBL0 : Hid (Below w3.heap.size w3 (w3.alloc (Obj.cells #[Value.int .i64 g0, .int .i64 c0] 84))) := (Below.refl _ w3).alloc (Nat.le_refl _) _
      clear y0 y1 k2 hcto hcs hc64
      go_loopw [16, 56] (fun gv iv wr => ∃ k : Nat, k ≤ n2 ∧ iv = .int .i64 k ∧ gv = .int .i64 (grownAt ⟨g0, c0⟩ l k) ∧ Below w3.heap.size w3 wr ∧ ∃ eg ec, wr.heap[w3.heap.size]? = some (.cells #[.int .i64 eg, .int .i64 ec] 84)) (fun _ iv _ => n2 - (intOf iv).toNat)
      case atStart => exact ⟨0, Nat.zero_le _, rfl, by rw [grownAt_zero], HBL0.out, g0, c0, HE0.out⟩
      case round =>
        clear HE0 HBL0
        obtain ⟨k, hk, rfl, rfl, hbr, eg, ec, heb⟩ := hrel
        have hcl := HCL.out.below hbr
        by_cases hlt : k < n2
        · obtain ⟨b, off, x, rfl, ⟨_, hb⟩, hx, hcell⟩ := HC2.out k hlt
          obtain ⟨gx, y, rfl, hgx, hgx2, hy, q0, q1, -, -⟩ := hcl.at_ (cntList_len _ _ _) hlt
          rw [cntList_at hlt] at hy
          obtain rfl := Option.some.inj hy
          have d0 : wr.cell? ⟨b, off + k * 5, none⟩ = some (.int .i64 x.built) := (hbr.cell (p := ⟨b, _, none⟩) hb).trans (hcell 0 _ rfl)
          have d1 : wr.cell? ⟨b, off + k * 5 + 1, none⟩ = some (.int .i64 x.lost) := (hbr.cell (p := ⟨b, _, none⟩) hb).trans (hcell 1 _ rfl)
          have d2 : wr.cell? ⟨b, off + k * 5 + 2, none⟩ = some (.int .i64 x.cured) := (hbr.cell (p := ⟨b, _, none⟩) hb).trans (hcell 2 _ rfl)
          have d3 : wr.cell? ⟨b, off + k * 5 + 3, none⟩ = some (.int .i64 x.scrapped) := (hbr.cell (p := ⟨b, _, none⟩) hb).trans (hcell 3 _ rfl)
          have d4 : wr.cell? ⟨b, off + k * 5 + 4, none⟩ = some (.int .i64 x.shipped) := (hbr.cell (p := ⟨b, _, none⟩) hb).trans (hcell 4 _ rfl)
          have hgr := grownAt_succ (s := ⟨g0, c0⟩) hx
          obtain ⟨⟨s1, s2⟩, ⟨s3, s4⟩, ⟨s5, s6⟩, ⟨s7, s8⟩, s9, s10⟩ := shOk_bounds (HTO.out k (by have := HN.out; omega) x hx)
          have hbd := stAt_bounds HCS.out (k := k + 1) (fun j hj => HTO.out j (by have := HN.out; omega)) (by have := HN.out; omega)
          have hbd0 := stAt_bounds HCS.out (k := k) (fun j hj => HTO.out j (by have := HN.out; omega)) (by have := HN.out; omega)
          have hdef : grownAt ⟨g0, c0⟩ l (k + 1) = (stAt ⟨g0, c0⟩ l (k + 1)).green + (stAt ⟨g0, c0⟩ l (k + 1)).cured - g0 - c0 := rfl
          have hdef0 : grownAt ⟨g0, c0⟩ l k = (stAt ⟨g0, c0⟩ l k).green + (stAt ⟨g0, c0⟩ l k).cured - g0 - c0 := rfl
          obtain ⟨yg, hyg⟩ : ∃ yg, yg = (stAt ⟨g0, c0⟩ l (k + 1)).green := ⟨_, rfl⟩
          obtain ⟨yc, hyc⟩ : ∃ yc, yc = (stAt ⟨g0, c0⟩ l (k + 1)).cured := ⟨_, rfl⟩
          rw [← hyg, ← hyc] at hdef hbd
          rw [← hyg] at q0
          rw [← hyc] at q1
          obtain ⟨gk, hgk⟩ : ∃ gk, gk = grownAt ⟨g0, c0⟩ l k := ⟨_, rfl⟩
          obtain ⟨a0, a1, a2, a3, a4⟩ := x
          simp only at d0 d1 d2 d3 d4 s1 s2 s3 s4 s5 s6 s7 s8 s9 s10 hgr
          have gk1 : -1000000000 ≤ gk := by omega
          have gk2 : gk ≤ 1000000000 := by omega
          have yg1 : -1000000000 ≤ yg := by omega
          have yg2 : yg ≤ 1000000000 := by omega
          have yc1 : -1000000000 ≤ yc := by omega
          have yc2 : yc ≤ 1000000000 := by omega
          have heq : yg + yc - g0 - c0 = gk + (a0 - a1 - a3 - a4) := by omega
          have hne : (yg + yc - g0 - c0 != gk + (a0 - a1 - a3 - a4)) = false := by simp [heq]
          have HGR : Hid (grownAt ⟨g0, c0⟩ l (k + 1) = gk + (a0 - a1 - a3 - a4)) := by unfold Hid; rw [hgr, hgk]
          rw [← hgk]
          have x0 := cell_of_row wr _ 0 _ _ _ hcl.start
          have x1 := cell_of_row wr _ 1 _ _ _ hcl.start
          have e0 := cell_of_row wr _ 0 _ _ _ heb
          have e1 := cell_of_row wr _ 1 _ _ _ heb
          have f0 := frozen_of_row wr w3.heap.size 0 _ _ heb
          have f1 := frozen_of_row wr w3.heap.size 1 _ _ heb
          have l0 : w3.heap.size < wr.heap.size := (Array.getElem?_eq_some_iff.1 heb).1
          have l1 : w.heap.size < w3.heap.size := HCL.out.lt
          have l2 : w.heap.size ≠ w3.heap.size := by omega
          have l4 : w.heap.size < wr.heap.size := by omega
          have l3 : w3.heap.size ≠ w.heap.size := by omega
          have hbr1 := ((hbr.setCell (p := ⟨w3.heap.size, 0, none⟩) (Nat.le_refl _) (.int .i64 yg)).setCell (p := ⟨w3.heap.size, 1, none⟩) (Nat.le_refl _) (.int .i64 yc))
          have hbr2 := hbr1.alloc hbr1.size (.cells #[.int .i64 a0, .int .i64 a1, .int .i64 a2, .int .i64 a3, .int .i64 a4] 96)
          have heb1 := heap_setCell_same _ _ 1 _ 84 (.int .i64 yc) (heap_setCell_same wr _ 0 _ 84 (.int .i64 yg) heb)
          have heb2 := (Below.heap_alloc ((wr.setCell ⟨w3.heap.size, 0, none⟩ (.int .i64 yg)).setCell ⟨w3.heap.size, 1, none⟩ (.int .i64 yc)) (.cells #[.int .i64 a0, .int .i64 a1, .int .i64 a2, .int .i64 a3, .int .i64 a4] 96) w3.heap.size (Array.getElem?_eq_some_iff.1 heb1).1).trans heb1
          have HBR2 := Lib.hid hbr2
          have HEB2 := Lib.hid heb2
          clear hx hcell hgr hbd hbd0 hdef hdef0 hyg hyc hgk heq hcl heb hbr hbr1 heb1 hbr2 heb2
          go_wp2_with fail
          go_roundw
          case rel => exact ⟨k + 1, by omega, by go_num, by rw [HGR.out], HBR2.out, _, _, HEB2.out⟩
          case measure => simp [intOf]; omega
        · have HBR := Lib.hid hbr
          clear hbr heb hcl
          go_wp2_with fail
          go_loopw [94] (fun iv wr => ∃ k : Nat, k ≤ n2 ∧ iv = .int .i64 k ∧ Fits ⟨g0, c0⟩ l k ∧ Below w3.heap.size w3 wr) (fun iv _ => n2 - (intOf iv).toNat)
          case atStart => exact ⟨0, Nat.zero_le _, rfl, Fits.zero _ _, HBR.out⟩
          case round =>
            clear HBR
            obtain ⟨k', hk', rfl, hfit, hbr⟩ := hrel
            have hcl := HCL.out.below hbr
            by_cases hlt' : k' < n2
            · obtain ⟨gx, y, rfl, hgx, hgx2, hy, q0, q1, -, -⟩ := hcl.at_ (cntList_len _ _ _) hlt'
              rw [cntList_at hlt'] at hy
              obtain rfl := Option.some.inj hy
              have hfs := Fits.succ hfit
              obtain ⟨yg, hyg⟩ : ∃ yg, yg = (stAt ⟨g0, c0⟩ l (k' + 1)).green := ⟨_, rfl⟩
              obtain ⟨yc, hyc⟩ : ∃ yc, yc = (stAt ⟨g0, c0⟩ l (k' + 1)).cured := ⟨_, rfl⟩
              rw [← hyg] at q0 hfs
              rw [← hyc] at q1 hfs
              have HFS := Lib.hid hfs
              have HFT := Lib.hid hfit
              have HBL := Lib.hid hcl.bel
              have HBR := Lib.hid (hbr.alloc hbr.size (.cells #[.int .i64 yg, .int .i64 yc] 84))
              have D : (1000000 < yg) ∨ (yg ≤ 1000000 ∧ 1000000 < yc) ∨ (yg ≤ 1000000 ∧ yc ≤ 1000000) := by omega
              have HBX := Lib.hid (hcl.bel.alloc hcl.bel.size (.cells #[.int .i64 yg, .int .i64 yc] 84))
              clear hfs hfit hcl hyg hyc hbr hy
              rcases D with h1 | ⟨h1, h2⟩ | ⟨h1, h2⟩
              · go_wp2_with (go_at_call 16; refine (awake_any _).mono ?_; rintro e w6 ⟨rfl, hb6⟩)
                go_ret
                exact ⟨rfl, HBX.out.trans (hb6.mono HBX.out.size)⟩
              · go_wp2_with (go_at_call 16; refine (awake_any _).mono ?_; rintro e w6 ⟨rfl, hb6⟩)
                go_ret
                exact ⟨rfl, HBX.out.trans (hb6.mono HBX.out.size)⟩
              · go_wp2_with fail
                go_roundw
                case rel => exact ⟨k' + 1, by omega, by go_num, HFS.out ⟨h1, h2⟩, HBR.out⟩
                case measure => simp [intOf]; omega
            · have hfa : Fits ⟨g0, c0⟩ l l.length := by have := HN.out; rw [show l.length = k' from by omega]; exact hfit
              obtain ⟨wo, hwo⟩ : ∃ wo, wo = wr := ⟨_, rfl⟩
              rw [← hwo] at hcl hbr ⊢
              have x0 := cell_of_row wo _ 0 _ _ _ hcl.start
              have x1 := cell_of_row wo _ 1 _ _ _ hcl.start
              obtain ⟨ga1, ga2, ga3, ga4⟩ := closes_a HCE.out.symm hfa
              have hgap := pGap_any (.slice A2 n2 cap2) (.slice A1 n2 cp1) ⟨g0, c0⟩ l (cntList ⟨g0, c0⟩ l n2) _ _ wo hcl.hva (RdK.of_own stC_len (by have := hcl.own; rw [cntList_len] at this; exact this) (cntList_len _ _ _))
              rw [show cntList ⟨g0, c0⟩ l n2 = cntList ⟨g0, c0⟩ l l.length from by rw [HN.out]] at hgap
              have HGAP : Hid (Calls Try.prog 43 #[.agg #[.int .i64 g0, .int .i64 c0], .slice A2 n2 cap2, .slice A1 n2 cp1] wo fun e w' => e = .returned (.tuple #[.int .i64 (-1), .agg #[.int .i64 0, .int .i64 0], .int .i64 0]) ∧ Below wo.heap.size wo w') := hgap.mono fun e w' ⟨h1, h2⟩ => ⟨by rw [h1, ga1, ga2, ga3, ga4], h2⟩
              have HFA := Lib.hid hfa
              have HCL' := Lib.hid hcl
              clear hfa hfit hcl hbr hwo hgap ga1 ga2 ga3 ga4
              go_wp2_with fail
              refine HGAP.out.mono ?_
              rintro e w6 ⟨rfl, hb6⟩
              have HC6 := Lib.hid (HCL'.out.below hb6)
              clear x0 x1 hb6 HGAP HCL'
              have HA1 := Lib.hid (HC6.out.bel.alloc HC6.out.bel.size (.cells #[.int .i64 0, .int .i64 0] 84))
              rcases Nat.eq_zero_or_pos n2 with hz | hpos
              · have j1 : ((n2 : Int) == 0) = true := by simp [hz]
                go_wp2_with (go_at_call 16; refine (awake_any _).mono ?_; rintro e w7 ⟨rfl, hb7⟩)
                go_ret
                exact ⟨rfl, HA1.out.trans (hb7.mono HA1.out.size)⟩
              · have j1 : ((n2 : Int) == 0) = false := by simp; omega
                by_cases hby0 : by_ = 0
                · subst hby0
                  go_wp2_with (go_at_call 16; refine (awake_any _).mono ?_; rintro e w7 ⟨rfl, hb7⟩)
                  go_ret
                  exact ⟨rfl, HA1.out.trans (hb7.mono HA1.out.size)⟩
                · have j2 : (by_ == 0) = false := by simpa using hby0
                  obtain ⟨kk, hkk, hkn⟩ : ∃ kk : Nat, at_ % (n2 : Int) = (kk : Int) ∧ kk < n2 := ⟨(at_ % (n2 : Int)).toNat, by rw [Int.toNat_of_nonneg (Int.emod_nonneg _ (by omega))], by have := Int.emod_lt_of_pos at_ (show (0 : Int) < n2 by omega); have := Int.emod_nonneg at_ (show (n2 : Int) ≠ 0 by omega); omega⟩
                  have hk1 : (kk : Int) < (n2 : Int) := by omega
                  have hk0 : (0 : Int) ≤ (kk : Int) := by omega
                  cases gr with
                  | false =>
                    obtain ⟨gx, y, rfl, hgx, hgx2, hy, q0, q1, -, -⟩ := HC6.out.at_ (cntList_len _ _ _) hkn
                    rw [cntList_at hkn] at hy
                    obtain rfl := Option.some.inj hy
                    have hokat := cnt_ok_at HCE.out.symm (k := kk) (by have := HN.out; omega)
                    have hfat := HFA.out kk (by have := HN.out; omega)
                    obtain ⟨yg, hyg⟩ : ∃ yg, yg = (stAt ⟨g0, c0⟩ l (kk + 1)).green := ⟨_, rfl⟩
                    obtain ⟨yc, hyc⟩ : ∃ yc, yc = (stAt ⟨g0, c0⟩ l (kk + 1)).cured := ⟨_, rfl⟩
                    rw [← hyg] at q0 hokat hfat
                    rw [← hyc] at q1 hokat hfat
                    obtain ⟨yg0, yc0, -⟩ := hokat
                    obtain ⟨yg1, yc1⟩ := hfat
                    obtain ⟨w8, hw8⟩ : ∃ w8, w8 = ((w6.alloc (.cells #[.int .i64 0, .int .i64 0] 84)).alloc (.cells #[.int .i64 0, .int .i64 by_] 84)) := ⟨_, rfl⟩
                    have hb8 : Below w6.heap.size w6 w8 := by rw [hw8]; exact ((Below.refl _ w6).alloc (Nat.le_refl _) _).alloc (by simp) _
                    have hr8 : w8.heap[w6.heap.size]? = some (.cells #[.int .i64 0, .int .i64 0] 84) := by rw [hw8, Below.heap_alloc _ _ _ (by simp)]; exact heap_alloc_new w6 _
                    have hz8 : w8.heap[w6.heap.size + 1]? = some (.cells #[.int .i64 0, .int .i64 by_] 84) := by rw [hw8]; have := heap_alloc_new (w6.alloc (.cells #[.int .i64 0, .int .i64 0] 84)) (.cells #[.int .i64 0, .int .i64 by_] 84); simpa using this
                    go_wp2_with fail
                    rw [← hw8, hkk]
                    have HC8 := Lib.hid (HC6.out.below hb8)
                    obtain ⟨gx', y', e1, -, -, hy', p0, p1, p2, p3⟩ := HC8.out.at_ (cntList_len _ _ _) hkn
                    obtain rfl : gx = gx' := by simpa using e1
                    rw [cntList_at hkn] at hy'
                    obtain rfl := Option.some.inj hy'
                    rw [← hyg] at p0
                    rw [← hyc] at p1
                    have z0 := cell_of_row w8 _ 0 _ _ _ hz8
                    have z1 := cell_of_row w8 _ 1 _ _ _ hz8
                    have hwr2 : IntKind.i64.wrap (yc + by_) = yc + by_ := IntWalk.i64_in _ (by omega)
                    have HR8 := Lib.hid hr8
                    have HZ8 := Lib.hid hz8
                    have HYG := Lib.hid hyg
                    have HYC := Lib.hid hyc
                    have HB8 := Lib.hid hb8
                    have HGX := Lib.hid hgx2
                    clear hw8 hr8 hz8 hyg hyc e1 q0 q1 hb8 hkk
                    go_still_tail 10, (by kernel_rfl)
                    change wpList _ _ _ _ _ w8.drew
                    have t0 : w8.drew.cell? ⟨gx, kk * 2, none⟩ = some (.int .i64 yg) := p0
                    have t1 : w8.drew.cell? ⟨gx, kk * 2 + 1, none⟩ = some (.int .i64 yc) := p1
                    have t2 : w8.drew.frozen? ⟨gx, kk * 2, none⟩ = false := p2
                    have t3 : w8.drew.frozen? ⟨gx, kk * 2 + 1, none⟩ = false := p3
                    have t4 : w8.drew.cell? ⟨w6.heap.size + 1, 1, none⟩ = some (.int .i64 by_) := z1
                    obtain ⟨w9, hw9⟩ : ∃ w9, w9 = w8.drew := ⟨_, rfl⟩
                    rw [← hw9] at t0 t1 t2 t3 t4 ⊢
                    have HW9 := Lib.hid hw9
                    clear hw9 p0 p1 p2 p3 z0 z1
                    go_wp2_with fail
                    have u1 : (w9.setCell ⟨gx, kk * 2, none⟩ (.int .i64 (yg))).cell? ⟨gx, kk * 2 + 1, none⟩ = some (.int .i64 yc) := by
                      rw [World.cell?_setCell_other]
                      · exact t1
                      · simp
                    have u2 : (w9.setCell ⟨gx, kk * 2, none⟩ (.int .i64 (yg))).cell? ⟨w6.heap.size + 1, 1, none⟩ = some (.int .i64 by_) := by
                      rw [World.cell?_setCell_other]
                      · exact t4
                      · have := HGX.out; simp <;> omega
                    have u3 : (w9.setCell ⟨gx, kk * 2, none⟩ (.int .i64 (yg))).frozen? ⟨gx, kk * 2 + 1, none⟩ = false := by rw [World.frozen?_setCell]; exact t3
                    obtain ⟨w10, hw10⟩ : ∃ w10, w10 = w9.setCell ⟨gx, kk * 2, none⟩ (.int .i64 (yg)) := ⟨_, rfl⟩
                    rw [← hw10] at u1 u2 u3 ⊢
                    have HW10 := Lib.hid hw10
                    clear hw10 t0 t1 t2 t3 t4
                    go_still_tail 10, (by kernel_rfl)
                    change wpList _ _ _ _ _ w10.drew
                    have t1 : w10.drew.cell? ⟨gx, kk * 2 + 1, none⟩ = some (.int .i64 yc) := u1
                    have t3 : w10.drew.frozen? ⟨gx, kk * 2 + 1, none⟩ = false := u3
                    have HC12 := Lib.hid ((HC8.out.below (((Below.refl _ w8).drew).drew)).store (cntList_len _ _ _) hkn ⟨yg, yc + by_⟩)
                    obtain ⟨w12, hw12⟩ : ∃ w12, w12 = (w10.setCell ⟨gx, kk * 2 + 1, none⟩ (.int .i64 (yc + by_))).drew := ⟨_, rfl⟩
                    rw [show ((w8.drew.drew.setCell ⟨gx, kk * 2, none⟩ (.int .i64 (⟨yg, yc + by_⟩ : StockD).green)).setCell ⟨gx, kk * 2 + 1, none⟩ (.int .i64 (⟨yg, yc + by_⟩ : StockD).cured)) = w12 from by rw [hw12, HW10.out, HW9.out]; rfl] at HC12
                    have hkeep : Keep (fun b => gx ≠ b) w8 w12 := by
                      rw [hw12, HW10.out, HW9.out]
                      exact ((((Keep.drew _ w8).setCell (fun h => h rfl) _).setCell (fun h => h rfl) _).trans (Keep.drew _ _))
                    have hr12 := (hkeep.block w6.heap.size (by have := HGX.out; omega)).trans HR8.out
                    have hz12 := (hkeep.block (w6.heap.size + 1) (by have := HGX.out; omega)).trans HZ8.out
                    have hst10 : w10.heap[w.heap.size]? = some (.cells #[.int .i64 g0, .int .i64 c0] 74) := by
                      rw [HW10.out, HW9.out]
                      exact ((((Keep.drew (fun b => gx ≠ b) w8).setCell (p := ⟨gx, kk * 2, none⟩) (fun h => h rfl) _).block w.heap.size (by omega))).trans HC8.out.start
                    have x0 := cell_of_row w10 _ 0 _ _ _ hst10
                    have x1 := cell_of_row w10 _ 1 _ _ _ hst10
                    have l5 : gx ≠ w.heap.size := by omega
                    have l6 : w.heap.size ≠ gx := by omega
                    have hlen : ((cntList ⟨g0, c0⟩ l n2).set kk ⟨yg, yc + by_⟩).length = n2 := by rw [List.length_set, cntList_len]
                    have hgap := pGap_any (.slice A2 n2 cap2) (.slice (some ⟨gx, 0, none⟩) n2 cp1) ⟨g0, c0⟩ l ((cntList ⟨g0, c0⟩ l n2).set kk ⟨yg, yc + by_⟩) _ _ w12 HC12.out.hva (RdK.of_own stC_len (by have := HC12.out.own; rw [hlen] at this; exact this) hlen)
                    rw [show cntList ⟨g0, c0⟩ l n2 = cntList ⟨g0, c0⟩ l l.length from by rw [HN.out]] at hgap
                    have HGAP := Lib.hid hgap
                    have HW12 := Lib.hid hw12
                    have HR12 := Lib.hid hr12
                    have HZ12 := Lib.hid hz12
                    have hkl : kk < l.length := by have := HN.out; omega
                    have D : (stOk ⟨yg, yc + by_⟩ = false ∧ ((yg < 0) ∨ (0 ≤ yg ∧ yc + by_ < 0) ∨ (0 ≤ yg ∧ 0 ≤ yc + by_ ∧ 1000000 < yg) ∨ (0 ≤ yg ∧ 0 ≤ yc + by_ ∧ yg ≤ 1000000 ∧ 1000000 < yc + by_))) ∨ (stOk ⟨yg, yc + by_⟩ = true ∧ 0 ≤ yg ∧ 0 ≤ yc + by_ ∧ yg ≤ 1000000 ∧ yc + by_ ≤ 1000000) := by
                      cases hq : stOk ⟨yg, yc + by_⟩ with
                      | true => have := stOk_bounds hq; simp only at this; exact .inr ⟨rfl, by omega⟩
                      | false =>
                        refine .inl ⟨rfl, ?_⟩
                        by_cases h1 : 0 ≤ yg ∧ 0 ≤ yc + by_ ∧ yg ≤ 1000000 ∧ yc + by_ ≤ 1000000
                        · have := stOk_of (x := ⟨yg, yc + by_⟩) ⟨h1.1, h1.2.2.1⟩ ⟨h1.2.1, h1.2.2.2⟩
                          rw [hq] at this; cases this
                        · omega
                    have l1 : gx ≠ w6.heap.size := by have := HGX.out; omega
                    have l2 : w6.heap.size ≠ gx := by have := HGX.out; omega
                    have l3 : w6.heap.size ≠ w6.heap.size + 1 := by omega
                    have l4 : w6.heap.size + 1 ≠ w6.heap.size := by omega
                    rcases D with ⟨hok, hD⟩ | ⟨hok, d1, d2, d3, d4⟩
                    · have HG2 : Hid (Calls Try.prog 43 #[.agg #[.int .i64 g0, .int .i64 c0], .slice A2 n2 cap2, .slice (some ⟨gx, 0, none⟩) n2 cp1] w12 fun e w' => e = .returned (.tuple #[.int .i64 0, .agg #[.int .i64 0, .int .i64 0], .int .i64 1]) ∧ Below w12.heap.size w12 w') := HGAP.out.mono fun e w' ⟨h1, h2⟩ => by
                        have e1 := closes_c HCE.out.symm hkl hok
                        exact ⟨by rw [h1]; unfold gapI gapD; rw [e1]; rfl, h2⟩
                      clear hgap hw12 hr12 hz12 hkeep hlen hok hst10
                      go_wp2_with fail
                      rw [← HW12.out]
                      refine HG2.out.mono ?_
                      rintro e w13 ⟨rfl, hb13⟩
                      have HC13 := Lib.hid (HC12.out.below hb13)
                      obtain ⟨gx2, y2, e2, -, -, hy2, p0, p1, -, -⟩ := HC13.out.at_ (by rw [List.length_set, cntList_len]) hkn
                      obtain rfl : gx = gx2 := by simpa using e2
                      rw [List.getElem?_set, if_pos rfl, if_pos (by rw [cntList_len]; exact hkn)] at hy2
                      obtain rfl := Option.some.inj hy2
                      have hr13 := (hb13.block _ (Array.getElem?_eq_some_iff.1 HR12.out).1).trans HR12.out
                      have r0 := cell_of_row w13 _ 0 _ _ _ hr13
                      have r1 := cell_of_row w13 _ 1 _ _ _ hr13
                      have r2 := frozen_of_row w13 w6.heap.size 0 _ _ hr13
                      have r3 := frozen_of_row w13 w6.heap.size 1 _ _ hr13
                      have hfin := (HC13.out.bel.setCell (p := ⟨w6.heap.size, 0, none⟩) HC6.out.bel.size (.int .i64 0)).setCell (p := ⟨w6.heap.size, 1, none⟩) HC6.out.bel.size (.int .i64 0)
                      have HFIN := Lib.hid hfin
                      clear x0 x1 hr13 hb13 e2 hfin t1 t3 u1 u2 u3
                      rcases hD with d1 | ⟨d1, d2⟩ | ⟨d1, d2, d3⟩ | ⟨d1, d2, d3, d4⟩
                      all_goals
                        first
                        | (exfalso; omega)
                        | (go_wp2_with (go_at_call 16; refine (awake_any _).mono ?_; rintro e w14 ⟨rfl, hb14⟩)
                           go_ret
                           exact ⟨rfl, HFIN.out.trans (hb14.mono HFIN.out.size)⟩)
                    · have hyne : (⟨yg, yc + by_⟩ : StockD) ≠ stAt ⟨g0, c0⟩ l (kk + 1) := fun h => by
                        have h1 := congrArg StockD.green h
                        have h2 := congrArg StockD.cured h
                        have h3 := HYG.out
                        have h4 := HYC.out
                        simp only at h1 h2
                        omega
                      have HG2 : Hid (Calls Try.prog 43 #[.agg #[.int .i64 g0, .int .i64 c0], .slice A2 n2 cap2, .slice (some ⟨gx, 0, none⟩) n2 cp1] w12 fun e w' => e = .returned (.tuple #[.int .i64 kk, .agg #[.int .i64 0, .int .i64 by_], .int .i64 0]) ∧ Below w12.heap.size w12 w') := HGAP.out.mono fun e w' ⟨h1, h2⟩ => by
                        obtain ⟨e1, e2, e3, e4⟩ := closes_b HCE.out.symm HFA.out hkl hyne hok
                        simp only at e3 e4
                        rw [← HYG.out] at e3
                        rw [← HYC.out] at e4
                        exact ⟨by rw [h1, e1, e2, e3, e4, show yg - yg = (0 : Int) from by omega, show yc + by_ - yc = by_ from by omega], h2⟩
                      clear hgap hw12 hr12 hz12 hkeep hlen hok hyne hst10
                      go_wp2_with fail
                      rw [← HW12.out]
                      refine HG2.out.mono ?_
                      rintro e w13 ⟨rfl, hb13⟩
                      have HC13 := Lib.hid (HC12.out.below hb13)
                      obtain ⟨gx2, y2, e2, -, -, hy2, p0, p1, -, -⟩ := HC13.out.at_ (by rw [List.length_set, cntList_len]) hkn
                      obtain rfl : gx = gx2 := by simpa using e2
                      rw [List.getElem?_set, if_pos rfl, if_pos (by rw [cntList_len]; exact hkn)] at hy2
                      obtain rfl := Option.some.inj hy2
                      have hr13 := (hb13.block _ (Array.getElem?_eq_some_iff.1 HR12.out).1).trans HR12.out
                      have hz13 := (hb13.block _ (Array.getElem?_eq_some_iff.1 HZ12.out).1).trans HZ12.out
                      have r0 := cell_of_row w13 _ 0 _ _ _ hr13
                      have r1 := cell_of_row w13 _ 1 _ _ _ hr13
                      have r2 := frozen_of_row w13 w6.heap.size 0 _ _ hr13
                      have r3 := frozen_of_row w13 w6.heap.size 1 _ _ hr13
                      have r4 := cell_of_row w13 _ 0 _ _ _ hz13
                      have r5 := cell_of_row w13 _ 1 _ _ _ hz13
                      have k1 : ((kk : Int) == (kk : Int)) = true := by simp
                      have k2 : (by_ == by_) = true := by simp
                      have hfin := (HC13.out.bel.setCell (p := ⟨w6.heap.size, 0, none⟩) HC6.out.bel.size (.int .i64 0)).setCell (p := ⟨w6.heap.size, 1, none⟩) HC6.out.bel.size (.int .i64 by_)
                      have HFIN := Lib.hid hfin
                      clear x0 x1 hr13 hz13 hb13 e2 hfin t1 t3 u1 u2 u3
                      go_wp2_with (go_at_call 16; refine (awake_any _).mono ?_; rintro e w14 ⟨rfl, hb14⟩)
                      go_ret
                      exact ⟨rfl, HFIN.out.trans (hb14.mono HFIN.out.size)⟩
                  | true =>
                    obtain ⟨gx, y, rfl, hgx, hgx2, hy, q0, q1, -, -⟩ := HC6.out.at_ (cntList_len _ _ _) hkn
                    rw [cntList_at hkn] at hy
                    obtain rfl := Option.some.inj hy
                    have hokat := cnt_ok_at HCE.out.symm (k := kk) (by have := HN.out; omega)
                    have hfat := HFA.out kk (by have := HN.out; omega)
                    obtain ⟨yg, hyg⟩ : ∃ yg, yg = (stAt ⟨g0, c0⟩ l (kk + 1)).green := ⟨_, rfl⟩
                    obtain ⟨yc, hyc⟩ : ∃ yc, yc = (stAt ⟨g0, c0⟩ l (kk + 1)).cured := ⟨_, rfl⟩
                    rw [← hyg] at q0 hokat hfat
                    rw [← hyc] at q1 hokat hfat
                    obtain ⟨yg0, yc0, -⟩ := hokat
                    obtain ⟨yg1, yc1⟩ := hfat
                    obtain ⟨w8, hw8⟩ : ∃ w8, w8 = ((w6.alloc (.cells #[.int .i64 0, .int .i64 0] 84)).alloc (.cells #[.int .i64 by_, .int .i64 0] 84)) := ⟨_, rfl⟩
                    have hb8 : Below w6.heap.size w6 w8 := by rw [hw8]; exact ((Below.refl _ w6).alloc (Nat.le_refl _) _).alloc (by simp) _
                    have hr8 : w8.heap[w6.heap.size]? = some (.cells #[.int .i64 0, .int .i64 0] 84) := by rw [hw8, Below.heap_alloc _ _ _ (by simp)]; exact heap_alloc_new w6 _
                    have hz8 : w8.heap[w6.heap.size + 1]? = some (.cells #[.int .i64 by_, .int .i64 0] 84) := by rw [hw8]; have := heap_alloc_new (w6.alloc (.cells #[.int .i64 0, .int .i64 0] 84)) (.cells #[.int .i64 by_, .int .i64 0] 84); simpa using this
                    go_wp2_with fail
                    rw [← hw8, hkk]
                    have HC8 := Lib.hid (HC6.out.below hb8)
                    obtain ⟨gx', y', e1, -, -, hy', p0, p1, p2, p3⟩ := HC8.out.at_ (cntList_len _ _ _) hkn
                    obtain rfl : gx = gx' := by simpa using e1
                    rw [cntList_at hkn] at hy'
                    obtain rfl := Option.some.inj hy'
                    rw [← hyg] at p0
                    rw [← hyc] at p1
                    have z0 := cell_of_row w8 _ 0 _ _ _ hz8
                    have z1 := cell_of_row w8 _ 1 _ _ _ hz8
                    have hwr1 : IntKind.i64.wrap (yg + by_) = yg + by_ := IntWalk.i64_in _ (by omega)
                    have hwr2 : IntKind.i64.wrap (yc) = yc := IntWalk.i64_in _ (by omega)
                    have HR8 := Lib.hid hr8
                    have HZ8 := Lib.hid hz8
                    have HYG := Lib.hid hyg
                    have HYC := Lib.hid hyc
                    have HB8 := Lib.hid hb8
                    have HGX := Lib.hid hgx2
                    clear hw8 hr8 hz8 hyg hyc e1 q0 q1 hb8 hkk
                    go_still_tail 10, (by kernel_rfl)
                    change wpList _ _ _ _ _ w8.drew
                    have t0 : w8.drew.cell? ⟨gx, kk * 2, none⟩ = some (.int .i64 yg) := p0
                    have t1 : w8.drew.cell? ⟨gx, kk * 2 + 1, none⟩ = some (.int .i64 yc) := p1
                    have t2 : w8.drew.frozen? ⟨gx, kk * 2, none⟩ = false := p2
                    have t3 : w8.drew.frozen? ⟨gx, kk * 2 + 1, none⟩ = false := p3
                    have t4 : w8.drew.cell? ⟨w6.heap.size + 1, 1, none⟩ = some (.int .i64 0) := z1
                    obtain ⟨w9, hw9⟩ : ∃ w9, w9 = w8.drew := ⟨_, rfl⟩
                    rw [← hw9] at t0 t1 t2 t3 t4 ⊢
                    have HW9 := Lib.hid hw9
                    clear hw9 p0 p1 p2 p3 z0 z1
                    go_wp2_with fail
                    have u1 : (w9.setCell ⟨gx, kk * 2, none⟩ (.int .i64 (yg + by_))).cell? ⟨gx, kk * 2 + 1, none⟩ = some (.int .i64 yc) := by
                      rw [World.cell?_setCell_other]
                      · exact t1
                      · simp
                    have u2 : (w9.setCell ⟨gx, kk * 2, none⟩ (.int .i64 (yg + by_))).cell? ⟨w6.heap.size + 1, 1, none⟩ = some (.int .i64 0) := by
                      rw [World.cell?_setCell_other]
                      · exact t4
                      · have := HGX.out; simp <;> omega
                    have u3 : (w9.setCell ⟨gx, kk * 2, none⟩ (.int .i64 (yg + by_))).frozen? ⟨gx, kk * 2 + 1, none⟩ = false := by rw [World.frozen?_setCell]; exact t3
                    obtain ⟨w10, hw10⟩ : ∃ w10, w10 = w9.setCell ⟨gx, kk * 2, none⟩ (.int .i64 (yg + by_)) := ⟨_, rfl⟩
                    rw [← hw10] at u1 u2 u3 ⊢
                    have HW10 := Lib.hid hw10
                    clear hw10 t0 t1 t2 t3 t4
                    go_still_tail 10, (by kernel_rfl)
                    change wpList _ _ _ _ _ w10.drew
                    have t1 : w10.drew.cell? ⟨gx, kk * 2 + 1, none⟩ = some (.int .i64 yc) := u1
                    have t3 : w10.drew.frozen? ⟨gx, kk * 2 + 1, none⟩ = false := u3
                    have HC12 := Lib.hid ((HC8.out.below (((Below.refl _ w8).drew).drew)).store (cntList_len _ _ _) hkn ⟨yg + by_, yc⟩)
                    obtain ⟨w12, hw12⟩ : ∃ w12, w12 = (w10.setCell ⟨gx, kk * 2 + 1, none⟩ (.int .i64 (yc))).drew := ⟨_, rfl⟩
                    rw [show ((w8.drew.drew.setCell ⟨gx, kk * 2, none⟩ (.int .i64 (⟨yg + by_, yc⟩ : StockD).green)).setCell ⟨gx, kk * 2 + 1, none⟩ (.int .i64 (⟨yg + by_, yc⟩ : StockD).cured)) = w12 from by rw [hw12, HW10.out, HW9.out]; rfl] at HC12
                    have hkeep : Keep (fun b => gx ≠ b) w8 w12 := by
                      rw [hw12, HW10.out, HW9.out]
                      exact ((((Keep.drew _ w8).setCell (fun h => h rfl) _).setCell (fun h => h rfl) _).trans (Keep.drew _ _))
                    have hr12 := (hkeep.block w6.heap.size (by have := HGX.out; omega)).trans HR8.out
                    have hz12 := (hkeep.block (w6.heap.size + 1) (by have := HGX.out; omega)).trans HZ8.out
                    have hst10 : w10.heap[w.heap.size]? = some (.cells #[.int .i64 g0, .int .i64 c0] 74) := by
                      rw [HW10.out, HW9.out]
                      exact ((((Keep.drew (fun b => gx ≠ b) w8).setCell (p := ⟨gx, kk * 2, none⟩) (fun h => h rfl) _).block w.heap.size (by omega))).trans HC8.out.start
                    have x0 := cell_of_row w10 _ 0 _ _ _ hst10
                    have x1 := cell_of_row w10 _ 1 _ _ _ hst10
                    have l5 : gx ≠ w.heap.size := by omega
                    have l6 : w.heap.size ≠ gx := by omega
                    have hlen : ((cntList ⟨g0, c0⟩ l n2).set kk ⟨yg + by_, yc⟩).length = n2 := by rw [List.length_set, cntList_len]
                    have hgap := pGap_any (.slice A2 n2 cap2) (.slice (some ⟨gx, 0, none⟩) n2 cp1) ⟨g0, c0⟩ l ((cntList ⟨g0, c0⟩ l n2).set kk ⟨yg + by_, yc⟩) _ _ w12 HC12.out.hva (RdK.of_own stC_len (by have := HC12.out.own; rw [hlen] at this; exact this) hlen)
                    rw [show cntList ⟨g0, c0⟩ l n2 = cntList ⟨g0, c0⟩ l l.length from by rw [HN.out]] at hgap
                    have HGAP := Lib.hid hgap
                    have HW12 := Lib.hid hw12
                    have HR12 := Lib.hid hr12
                    have HZ12 := Lib.hid hz12
                    have hkl : kk < l.length := by have := HN.out; omega
                    have D : (stOk ⟨yg + by_, yc⟩ = false ∧ ((yg + by_ < 0) ∨ (0 ≤ yg + by_ ∧ yc < 0) ∨ (0 ≤ yg + by_ ∧ 0 ≤ yc ∧ 1000000 < yg + by_) ∨ (0 ≤ yg + by_ ∧ 0 ≤ yc ∧ yg + by_ ≤ 1000000 ∧ 1000000 < yc))) ∨ (stOk ⟨yg + by_, yc⟩ = true ∧ 0 ≤ yg + by_ ∧ 0 ≤ yc ∧ yg + by_ ≤ 1000000 ∧ yc ≤ 1000000) := by
                      cases hq : stOk ⟨yg + by_, yc⟩ with
                      | true => have := stOk_bounds hq; simp only at this; exact .inr ⟨rfl, by omega⟩
                      | false =>
                        refine .inl ⟨rfl, ?_⟩
                        by_cases h1 : 0 ≤ yg + by_ ∧ 0 ≤ yc ∧ yg + by_ ≤ 1000000 ∧ yc ≤ 1000000
                        · have := stOk_of (x := ⟨yg + by_, yc⟩) ⟨h1.1, h1.2.2.1⟩ ⟨h1.2.1, h1.2.2.2⟩
                          rw [hq] at this; cases this
                        · omega
                    have l1 : gx ≠ w6.heap.size := by have := HGX.out; omega
                    have l2 : w6.heap.size ≠ gx := by have := HGX.out; omega
                    have l3 : w6.heap.size ≠ w6.heap.size + 1 := by omega
                    have l4 : w6.heap.size + 1 ≠ w6.heap.size := by omega
                    rcases D with ⟨hok, hD⟩ | ⟨hok, d1, d2, d3, d4⟩
                    · have HG2 : Hid (Calls Try.prog 43 #[.agg #[.int .i64 g0, .int .i64 c0], .slice A2 n2 cap2, .slice (some ⟨gx, 0, none⟩) n2 cp1] w12 fun e w' => e = .returned (.tuple #[.int .i64 0, .agg #[.int .i64 0, .int .i64 0], .int .i64 1]) ∧ Below w12.heap.size w12 w') := HGAP.out.mono fun e w' ⟨h1, h2⟩ => by
                        have e1 := closes_c HCE.out.symm hkl hok
                        exact ⟨by rw [h1]; unfold gapI gapD; rw [e1]; rfl, h2⟩
                      clear hgap hw12 hr12 hz12 hkeep hlen hok hst10
                      go_wp2_with fail
                      rw [← HW12.out]
                      refine HG2.out.mono ?_
                      rintro e w13 ⟨rfl, hb13⟩
                      have HC13 := Lib.hid (HC12.out.below hb13)
                      obtain ⟨gx2, y2, e2, -, -, hy2, p0, p1, -, -⟩ := HC13.out.at_ (by rw [List.length_set, cntList_len]) hkn
                      obtain rfl : gx = gx2 := by simpa using e2
                      rw [List.getElem?_set, if_pos rfl, if_pos (by rw [cntList_len]; exact hkn)] at hy2
                      obtain rfl := Option.some.inj hy2
                      have hr13 := (hb13.block _ (Array.getElem?_eq_some_iff.1 HR12.out).1).trans HR12.out
                      have r0 := cell_of_row w13 _ 0 _ _ _ hr13
                      have r1 := cell_of_row w13 _ 1 _ _ _ hr13
                      have r2 := frozen_of_row w13 w6.heap.size 0 _ _ hr13
                      have r3 := frozen_of_row w13 w6.heap.size 1 _ _ hr13
                      have hfin := (HC13.out.bel.setCell (p := ⟨w6.heap.size, 0, none⟩) HC6.out.bel.size (.int .i64 0)).setCell (p := ⟨w6.heap.size, 1, none⟩) HC6.out.bel.size (.int .i64 0)
                      have HFIN := Lib.hid hfin
                      clear x0 x1 hr13 hb13 e2 hfin t1 t3 u1 u2 u3
                      rcases hD with d1 | ⟨d1, d2⟩ | ⟨d1, d2, d3⟩ | ⟨d1, d2, d3, d4⟩
                      all_goals
                        first
                        | (exfalso; omega)
                        | (go_wp2_with (go_at_call 16; refine (awake_any _).mono ?_; rintro e w14 ⟨rfl, hb14⟩)
                           go_ret
                           exact ⟨rfl, HFIN.out.trans (hb14.mono HFIN.out.size)⟩)
                    · have hyne : (⟨yg + by_, yc⟩ : StockD) ≠ stAt ⟨g0, c0⟩ l (kk + 1) := fun h => by
                        have h1 := congrArg StockD.green h
                        have h2 := congrArg StockD.cured h
                        have h3 := HYG.out
                        have h4 := HYC.out
                        simp only at h1 h2
                        omega
                      have HG2 : Hid (Calls Try.prog 43 #[.agg #[.int .i64 g0, .int .i64 c0], .slice A2 n2 cap2, .slice (some ⟨gx, 0, none⟩) n2 cp1] w12 fun e w' => e = .returned (.tuple #[.int .i64 kk, .agg #[.int .i64 by_, .int .i64 0], .int .i64 0]) ∧ Below w12.heap.size w12 w') := HGAP.out.mono fun e w' ⟨h1, h2⟩ => by
                        obtain ⟨e1, e2, e3, e4⟩ := closes_b HCE.out.symm HFA.out hkl hyne hok
                        simp only at e3 e4
                        rw [← HYG.out] at e3
                        rw [← HYC.out] at e4
                        exact ⟨by rw [h1, e1, e2, e3, e4, show yg + by_ - yg = by_ from by omega, show yc - yc = (0 : Int) from by omega], h2⟩
                      clear hgap hw12 hr12 hz12 hkeep hlen hok hyne hst10
                      go_wp2_with fail
                      rw [← HW12.out]
                      refine HG2.out.mono ?_
                      rintro e w13 ⟨rfl, hb13⟩
                      have HC13 := Lib.hid (HC12.out.below hb13)
                      obtain ⟨gx2, y2, e2, -, -, hy2, p0, p1, -, -⟩ := HC13.out.at_ (by rw [List.length_set, cntList_len]) hkn
                      obtain rfl : gx = gx2 := by simpa using e2
                      rw [List.getElem?_set, if_pos rfl, if_pos (by rw [cntList_len]; exact hkn)] at hy2
                      obtain rfl := Option.some.inj hy2
                      have hr13 := (hb13.block _ (Array.getElem?_eq_some_iff.1 HR12.out).1).trans HR12.out
                      have hz13 := (hb13.block _ (Array.getElem?_eq_some_iff.1 HZ12.out).1).trans HZ12.out
                      have r0 := cell_of_row w13 _ 0 _ _ _ hr13
                      have r1 := cell_of_row w13 _ 1 _ _ _ hr13
                      have r2 := frozen_of_row w13 w6.heap.size 0 _ _ hr13
                      have r3 := frozen_of_row w13 w6.heap.size 1 _ _ hr13
                      have r4 := cell_of_row w13 _ 0 _ _ _ hz13
                      have r5 := cell_of_row w13 _ 1 _ _ _ hz13
                      have k1 : ((kk : Int) == (kk : Int)) = true := by simp
                      have k2 : (by_ == by_) = true := by simp
                      have hfin := (HC13.out.bel.setCell (p := ⟨w6.heap.size, 0, none⟩) HC6.out.bel.size (.int .i64 by_)).setCell (p := ⟨w6.heap.size, 1, none⟩) HC6.out.bel.size (.int .i64 0)
                      have HFIN := Lib.hid hfin
                      clear x0 x1 hr13 hz13 hb13 e2 hfin t1 t3 u1 u2 u3
                      go_wp2_with (go_at_call 16; refine (awake_any _).mono ?_; rintro e w14 ⟨rfl, hb14⟩)
                      go_ret
                      exact ⟨rfl, HFIN.out.trans (hb14.mono HFIN.out.size)⟩
end Go.Proofs.Ytlanephpmoajiaa
