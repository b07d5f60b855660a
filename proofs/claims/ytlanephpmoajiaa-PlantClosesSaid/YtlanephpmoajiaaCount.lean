/- The walk of Count. -/
import Derived.Test.YtlanephpmoajiaaShifts
namespace Go.Proofs.Ytlanephpmoajiaa
open Go.RowKit
set_option linter.unusedVariables false
set_option linter.unusedSimpArgs false
theorem info84 : (Try.prog.info? 84).map (fun i => (i.zero, i.size, i.bytes)) = some (some (.agg #[.int .i64 0, .int .i64 0]), 2, 16) := by kernel_rfl
/-- What Count leaves. -/
def CountPost (w : World) (s : StockD) (l : List ShiftD) (room : Int) (e : Ending) (w' : World) : Prop :=
  ∃ v, e = .returned (.tuple #[v, .int .i64 (cntErr s l room)]) ∧ RdK 2 stC w' (w.heap.size ≤ ·) v (cntOut s l room) ∧ Below w.heap.size w w'
theorem RdK.none_ {α : Type} (k : Nat) (f : α → List Value) (w : World) (S : Nat → Prop) : RdK k f w S (.slice none 0 0) [] := ⟨none, 0, rfl, Nat.le_refl _, by simp [maxLen], fun h => absurd rfl h⟩
theorem CountPost.bad {w w' : World} {s : StockD} {l : List ShiftD} {room e : Int} (h : cntErr s l room = e) (h0 : e ≠ 0) (hb : Below w.heap.size w w') : CountPost w s l room (.returned (.tuple #[.slice none 0 0, .int .i64 e])) w' := by
  refine ⟨.slice none 0 0, by rw [h], ?_, hb⟩
  unfold cntOut
  rw [h, if_neg h0]
  exact RdK.none_ _ _ _ _
theorem CountPost.good {w w' : World} {s : StockD} {l : List ShiftD} {room : Int} {v : Value} (h : cntErr s l room = 0) (hr : RdK 2 stC w' (w.heap.size ≤ ·) v (cntList s l l.length)) (hb : Below w.heap.size w w') : CountPost w s l room (.returned (.tuple #[v, .int .i64 0])) w' := by
  refine ⟨v, by rw [h], ?_, hb⟩
  unfold cntOut
  rw [h, if_pos rfl]
  exact hr
/-- .. and the row is the call's own. -/
def CountOwn (w : World) (s : StockD) (l : List ShiftD) (room : Int) (e : Ending) (w' : World) : Prop :=
  ∃ v, e = .returned (.tuple #[v, .int .i64 (cntErr s l room)]) ∧ Below w.heap.size w w' ∧ ((cntErr s l room ≠ 0 ∧ v = .slice none 0 0) ∨ (cntErr s l room = 0 ∧ w'.ownsRow (w.heap.size + 1) 84 2 v l.length ((cntList s l l.length).flatMap stC)))
theorem CountOwn.bad {w w' : World} {s : StockD} {l : List ShiftD} {room e : Int} (h : cntErr s l room = e) (h0 : e ≠ 0) (hb : Below w.heap.size w w') : CountOwn w s l room (.returned (.tuple #[.slice none 0 0, .int .i64 e])) w' :=
  ⟨.slice none 0 0, by rw [h], hb, .inl ⟨by rw [h]; exact h0, rfl⟩⟩
theorem CountOwn.good {w w' : World} {s : StockD} {l : List ShiftD} {room : Int} {v : Value} (h : cntErr s l room = 0) (hr : w'.ownsRow (w.heap.size + 1) 84 2 v l.length ((cntList s l l.length).flatMap stC)) (hb : Below w.heap.size w w') : CountOwn w s l room (.returned (.tuple #[v, .int .i64 0])) w' :=
  ⟨v, by rw [h], hb, .inr ⟨h, hr⟩⟩
theorem CountOwn.post {w w' : World} {s : StockD} {l : List ShiftD} {room : Int} {e : Ending} (h : CountOwn w s l room e w') : CountPost w s l room e w' := by
  obtain ⟨v, rfl, hb, ⟨h0, rfl⟩ | ⟨h0, hr⟩⟩ := h
  · exact CountPost.bad rfl h0 hb
  · rw [h0]
    exact CountPost.good h0 ((RdK.of_own stC_len hr (cntList_len _ _ _)).mono fun b hb => by omega) hb
/-- What the loop of Count keeps. -/
structure CntW (T E : TypeId) (w : World) (g c : Int) (v : Value) (k : Nat) (cs : List Value) (wr : World) : Prop where
  box : wr.heap[w.heap.size]? = some (.cells #[.int .i64 g, .int .i64 c] T)
  own : wr.ownsRow (w.heap.size + 1) E 2 v k cs
  bel : Below w.heap.size w wr
section
variable {T E : TypeId} {w wr w2 : World} {g c : Int} {v : Value} {k : Nat} {cs : List Value}
theorem CntW.lt (h : CntW T E w g c v k cs wr) : w.heap.size < wr.heap.size := (Array.getElem?_eq_some_iff.1 h.box).1
theorem CntW.below (h : CntW T E w g c v k cs wr) (hb : Below wr.heap.size wr w2) : CntW T E w g c v k cs w2 :=
  ⟨(hb.block _ h.lt).trans h.box, h.own.kept (row := none) ⟨hb.os, hb.tape, hb.output, hb.size, fun k hk _ => hb.block k hk⟩ (Classical.em _), h.bel.trans (hb.mono h.bel.size)⟩
theorem CntW.store (h : CntW T E w g c v k cs wr) (g' c' : Int) : CntW T E w g' c' v k cs ((wr.setCell ⟨w.heap.size, 0, none⟩ (.int .i64 g')).setCell ⟨w.heap.size, 1, none⟩ (.int .i64 c')) := by
  refine ⟨heap_setCell_same _ _ 1 _ T _ (heap_setCell_same wr _ 0 _ T _ h.box), ?_, (h.bel.setCell (p := ⟨w.heap.size, 0, none⟩) (Nat.le_refl _) _).setCell (p := ⟨w.heap.size, 1, none⟩) (Nat.le_refl _) _⟩
  have hk : Keep (fun k => k < wr.heap.size ∧ k ≠ w.heap.size) wr ((wr.setCell ⟨w.heap.size, 0, none⟩ (.int .i64 g')).setCell ⟨w.heap.size, 1, none⟩ (.int .i64 c')) :=
    (((Keep.refl _ wr).setCell (fun h => h.2 rfl) _).setCell (fun h => h.2 rfl) _)
  exact ownsRow_kept_below h.own (r := w.heap.size) ⟨hk.os, hk.tape, hk.output, hk.size, fun b hb hne => hk.block b ⟨hb, fun e => hne (by rw [e])⟩⟩ (by omega)
theorem CntW.app (h : CntW T E w g c v k cs wr) {w0 w3 : World} {v' : Value} {n' : Nat} {cs' : List Value} (hb : Below wr.heap.size wr w0) (ho : w3.ownsRow (w.heap.size + 1) E 2 v' n' cs') (hg : w0.grownBy w3 v.ownBlock) : CntW T E w g c v' n' cs' w3 := by
  have h0 := h.below hb
  refine ⟨(hg.block _ h0.lt (fun e => ?_)).trans h0.box, ho, h0.bel.grown hg h0.bel.size (fun k hk => ?_)⟩
  · have := (h.own.lt _ e.symm).1; omega
  · have := (h.own.lt _ hk).1; omega
end
theorem stBad_cases (room : Int) (g c : Int) : (g < 0 ∧ stBad room ⟨g, c⟩ = true) ∨ (0 ≤ g ∧ c < 0 ∧ stBad room ⟨g, c⟩ = true) ∨ (0 ≤ g ∧ 0 ≤ c ∧ room < g ∧ stBad room ⟨g, c⟩ = true) ∨ (0 ≤ g ∧ 0 ≤ c ∧ g ≤ room ∧ stBad room ⟨g, c⟩ = false) := by
  unfold stBad
  by_cases h1 : g < 0
  · exact .inl ⟨h1, by simp [h1]⟩
  · by_cases h2 : c < 0
    · exact .inr (.inl ⟨by omega, h2, by simp [h2]⟩)
    · by_cases h3 : room < g
      · exact .inr (.inr (.inl ⟨by omega, by omega, h3, by simp [h3]⟩))
      · exact .inr (.inr (.inr ⟨by omega, by omega, by omega, by simp [h1, h2, h3]⟩))
theorem flat_app {α : Type} {f : α → List Value} (xs : List α) (x : α) : (xs ++ [x]).flatMap f = xs.flatMap f ++ f x := by simp
set_option maxRecDepth 100000 in
set_option maxHeartbeats 2000000 in
theorem pCount_own (v : Value) (s : StockD) (l : List ShiftD) (room : Int) (S : Nat → Prop) (w : World) (hv : RdK 5 shC w S v l) (hroom : -9223372036854775808 ≤ room ∧ room ≤ 9223372036854775807) :
    Calls Try.prog 41 #[.agg #[.int .i64 s.green, .int .i64 s.cured], v, .int .i64 room] w (CountOwn w s l room) := by
  obtain ⟨i0, hi0, hz0, hz1, hz2⟩ := info_parts info84
  obtain ⟨A, n, cap, rfl, hn, hcap, hmax, hc⟩ := (hv.lt shC_0).open_
  have HC := Lib.hid hc
  have HN := Lib.hid hn
  obtain ⟨g0, c0⟩ := s
  simp only
  obtain ⟨W1, hW1⟩ : ∃ W1, W1 = w.alloc (.cells #[.int .i64 g0, .int .i64 c0] 84) := ⟨_, rfl⟩
  have hb1 : Below w.heap.size w W1 := by rw [hW1]; exact (Below.refl _ w).alloc (Nat.le_refl _) _
  have hm1 := heap_alloc_new w (.cells #[.int .i64 g0, .int .i64 c0] 84)
  rw [← hW1] at hm1
  have HW1 := Lib.hid hW1
  rcases Nat.lt_or_ge 64 n with hbig | hsm
  · have he : cntErr ⟨g0, c0⟩ l room = 4 := by unfold cntErr; rw [if_pos (by omega)]
    have HE := Lib.hid he
    clear he hn hc hv hW1 hm1
    go_enter Try.func41, Try.ntmps41
    go_wp2_with fail
    rw [← HW1.out]
    go_wp2_with fail
    go_ret2
    exact CountOwn.bad HE.out (by decide) hb1
  · have hsz : W1.heap.size = w.heap.size + 1 := by rw [hW1]; simp
    have HAL : Hid (Calls Try.prog 75 #[.slice (some ⟨w.heap.size + 1, 0, none⟩) 2 2] (W1.alloc (.cells #[.int .i64 g0, .int .i64 c0] 3)) fun e w' => e = .returned (.bool (stOk ⟨g0, c0⟩)) ∧ W1.alloc (.cells #[.int .i64 g0, .int .i64 c0] 3) = w') := by
      have h := allowed_any (.slice (some ⟨W1.heap.size, 0, none⟩) 2 2) [g0, c0] (W1.heap.size ≤ ·) (W1.alloc (.cells #[.int .i64 g0, .int .i64 c0] 3)) (rd_built W1 [g0, c0] 3 (by simp [maxLen]))
      rw [show ([g0, c0] : List Int).all allow = stOk ⟨g0, c0⟩ from by simp [stOk]] at h
      rw [hsz] at h
      exact h
    have x0 := cell_of_row W1 _ 0 _ _ _ hm1
    have x1 := cell_of_row W1 _ 1 _ _ _ hm1
    obtain ⟨q, hq⟩ : ∃ q, q = stOk ⟨g0, c0⟩ := ⟨_, rfl⟩
    rw [← hq] at HAL
    have HQ := Lib.hid hq
    have hb2 : Below w.heap.size w (W1.alloc (.cells #[.int .i64 g0, .int .i64 c0] 3)) := hb1.alloc hb1.size _
    have hm2 : (W1.alloc (.cells #[.int .i64 g0, .int .i64 c0] 3)).heap[w.heap.size]? = _ := (Below.heap_alloc W1 _ _ (by omega)).trans hm1
    cases q with
    | false =>
      have he : cntErr ⟨g0, c0⟩ l room = 1 := by unfold cntErr; rw [if_neg (by omega), if_pos HQ.out.symm]
      have HE := Lib.hid he
      clear he hn hc hv hW1 hm1 hsz hq hm2
      go_enter Try.func41, Try.ntmps41
      go_wp2_with fail
      rw [← HW1.out]
      go_wp2_with fail
      refine HAL.out.mono ?_
      rintro e w3 ⟨rfl, rfl⟩
      go_wp2_with fail
      go_ret2
      exact CountOwn.bad HE.out (by decide) hb2
    | true =>
      have hst : CntW 84 84 w g0 c0 (.slice none 0 0) 0 ((cntList ⟨g0, c0⟩ l 0).flatMap stC) (W1.alloc (.cells #[.int .i64 g0, .int .i64 c0] 3)) := ⟨hm2, World.ownsRow_nil _ _ _ _, hb2⟩
      have HST := Lib.hid hst
      clear hn hc hv hW1 hm1 hsz hq hm2 hst
      go_enter Try.func41, Try.ntmps41
      go_wp2_with fail
      rw [← HW1.out]
      go_wp2_with fail
      refine HAL.out.mono ?_
      rintro e w3 ⟨rfl, rfl⟩
      go_wp2_with fail
      clear x0 x1
      go_loopw [8, 25] (fun vo iv wr => ∃ k : Nat, k ≤ n ∧ iv = .int .i64 k ∧ CntTo ⟨g0, c0⟩ l room k ∧ ∃ g c, stAt ⟨g0, c0⟩ l k = ⟨g, c⟩ ∧ CntW 84 84 w g c vo k ((cntList ⟨g0, c0⟩ l k).flatMap stC) wr) (fun _ iv _ => n - (intOf iv).toNat)
      case atStart => exact ⟨0, Nat.zero_le _, rfl, CntTo.zero _ _ _, g0, c0, rfl, HST.out⟩
      case round =>
        clear HST
        obtain ⟨k, hk, rfl, hto, g, c, hgc, hT⟩ := hrel
        by_cases hlt : k < n
        · obtain ⟨b, off, x, rfl, ⟨_, hb⟩, hx, hcell⟩ := HC.out k hlt
          have d0 : wr.cell? ⟨b, off + k * 5, none⟩ = some (.int .i64 x.built) := (hT.bel.cell (p := ⟨b, _, none⟩) hb).trans (hcell 0 _ rfl)
          have d1 : wr.cell? ⟨b, off + k * 5 + 1, none⟩ = some (.int .i64 x.lost) := (hT.bel.cell (p := ⟨b, _, none⟩) hb).trans (hcell 1 _ rfl)
          have d2 : wr.cell? ⟨b, off + k * 5 + 2, none⟩ = some (.int .i64 x.cured) := (hT.bel.cell (p := ⟨b, _, none⟩) hb).trans (hcell 2 _ rfl)
          have d3 : wr.cell? ⟨b, off + k * 5 + 3, none⟩ = some (.int .i64 x.scrapped) := (hT.bel.cell (p := ⟨b, _, none⟩) hb).trans (hcell 3 _ rfl)
          have d4 : wr.cell? ⟨b, off + k * 5 + 4, none⟩ = some (.int .i64 x.shipped) := (hT.bel.cell (p := ⟨b, _, none⟩) hb).trans (hcell 4 _ rfl)
          have hnl : k < l.length := by have := HN.out; omega
          have hll : l.length ≤ 64 := by have := HN.out; omega
          have hbd := stAt_bounds HQ.out.symm hto.sh (Nat.le_of_lt hnl)
          rw [hgc] at hbd
          simp only at hbd
          have hg1 : -1000000000 ≤ g ∧ g ≤ 1000000000 := by omega
          have hc1 : -1000000000 ≤ c ∧ c ≤ 1000000000 := by omega
          have HSUC := Lib.hid (stAt_succ (s := ⟨g0, c0⟩) hx)
          rw [hgc] at HSUC
          have HTO := Lib.hid hto
          have HX := Lib.hid hx
          have HNL := Lib.hid hnl
          have HLL := Lib.hid hll
          have HCS : Hid ((cntList ⟨g0, c0⟩ l (k + 1)).flatMap stC = (cntList ⟨g0, c0⟩ l k).flatMap stC ++ stC (stAt ⟨g0, c0⟩ l (k + 1))) := by unfold Hid; rw [cntList_succ, flat_app]
          obtain ⟨cs, hcs⟩ : ∃ cs, cs = (cntList ⟨g0, c0⟩ l k).flatMap stC := ⟨_, rfl⟩
          rw [← hcs] at hT HCS
          obtain ⟨A1, cp1, rfl⟩ := ownsRow_slice hT.own
          obtain ⟨a0, a1, a2, a3, a4⟩ := x
          simp only at d0 d1 d2 d3 d4
          obtain ⟨W2, hW2⟩ : ∃ W2, W2 = wr.alloc (.cells #[.int .i64 a0, .int .i64 a1, .int .i64 a2, .int .i64 a3, .int .i64 a4] 96) := ⟨_, rfl⟩
          have hbW2 : Below wr.heap.size wr W2 := by rw [hW2]; exact (Below.refl _ wr).alloc (Nat.le_refl _) _
          have hm := heap_alloc_new wr (.cells #[.int .i64 a0, .int .i64 a1, .int .i64 a2, .int .i64 a3, .int .i64 a4] 96)
          rw [← hW2] at hm
          have HW2 := Lib.hid hW2
          have y0 := cell_of_row W2 _ 0 _ _ _ hm
          have y1 := cell_of_row W2 _ 1 _ _ _ hm
          have y2 := cell_of_row W2 _ 2 _ _ _ hm
          have y3 := cell_of_row W2 _ 3 _ _ _ hm
          have y4 := cell_of_row W2 _ 4 _ _ _ hm
          have HSH := Lib.hid (shAllowed_any ⟨a0, a1, a2, a3, a4⟩ W2)
          obtain ⟨p, hp⟩ : ∃ p, p = shOk ⟨a0, a1, a2, a3, a4⟩ := ⟨_, rfl⟩
          rw [← hp] at HSH
          have HP := Lib.hid hp
          have HT := Lib.hid hT
          have HM := Lib.hid hm
          have HBD := Lib.hid hbd
          have HGC := Lib.hid hgc
          clear hx hcell hcs hW2 hm hT hp hnl hll hgc hto hbd
          cases p with
          | false =>
            go_wp2_with fail
            rw [← HW2.out]
            go_wp2_with (go_at_call 76; refine HSH.out.mono ?_; rintro e w4 ⟨rfl, hb4⟩)
            go_ret2
            exact CountOwn.bad (cntErr_hit HLL.out HQ.out.symm HTO.out HNL.out (cntAt_bad HX.out HP.out.symm) (by decide)) (by decide) ((HT.out.below hbW2).below hb4).bel
          | true =>
            have HAF : Hid (∀ W, Calls Try.prog 77 #[.agg #[.int .i64 g, .int .i64 c], .agg #[.int .i64 a0, .int .i64 a1, .int .i64 a2, .int .i64 a3, .int .i64 a4]] W fun e w' => e = .returned (.agg #[.int .i64 (stAfter ⟨g, c⟩ ⟨a0, a1, a2, a3, a4⟩).green, .int .i64 (stAfter ⟨g, c⟩ ⟨a0, a1, a2, a3, a4⟩).cured]) ∧ Below W.heap.size W w') :=
              fun W => stAfter_any ⟨g, c⟩ ⟨a0, a1, a2, a3, a4⟩ W hg1 hc1 HP.out.symm
            obtain ⟨g', hg'⟩ : ∃ g', g' = (stAfter ⟨g, c⟩ ⟨a0, a1, a2, a3, a4⟩).green := ⟨_, rfl⟩
            obtain ⟨c', hc'⟩ : ∃ c', c' = (stAfter ⟨g, c⟩ ⟨a0, a1, a2, a3, a4⟩).cured := ⟨_, rfl⟩
            rw [← hg', ← hc'] at HAF
            have HS1 : Hid (stAt ⟨g0, c0⟩ l (k + 1) = ⟨g', c'⟩) := by rw [HSUC.out, hg', hc']; exact rfl
            clear hg' hc' hg1 hc1
            rw [HS1.out] at HCS
            have D := stBad_cases room g' c'
            go_wp2_with fail
            rw [← HW2.out]
            go_wp2_with (go_at_call 76; refine HSH.out.mono ?_; rintro e w4 ⟨rfl, hb4⟩; have hT4 := (HT.out.below hbW2).below hb4; have z0 := cell_of_row w4 _ 0 _ _ _ hT4.box; have z1 := cell_of_row w4 _ 1 _ _ _ hT4.box; have hm4 := (hb4.block wr.heap.size (Array.getElem?_eq_some_iff.1 HM.out).1).trans HM.out; have z2 := cell_of_row w4 _ 0 _ _ _ hm4; have z3 := cell_of_row w4 _ 1 _ _ _ hm4; have z4 := cell_of_row w4 _ 2 _ _ _ hm4; have z5 := cell_of_row w4 _ 3 _ _ _ hm4; have z6 := cell_of_row w4 _ 4 _ _ _ hm4; have HT4 := Lib.hid hT4; clear hT4 hm4)
            clear y0 y1 y2 y3 y4 d0 d1 d2 d3 d4
            refine (HAF.out _).mono ?_
            rintro e w5 ⟨rfl, hb5⟩
            have hT5 := HT4.out.below hb5
            have q0 := cell_of_row w5 _ 0 _ _ _ hT5.box
            have q1 := cell_of_row w5 _ 1 _ _ _ hT5.box
            have f0 := frozen_of_row w5 w.heap.size 0 _ _ hT5.box
            have f1 := frozen_of_row w5 w.heap.size 1 _ _ hT5.box
            have hT6 := hT5.store g' c'
            obtain ⟨w6, hw6⟩ : ∃ w6, w6 = ((w5.setCell ⟨w.heap.size, 0, none⟩ (.int .i64 g')).setCell ⟨w.heap.size, 1, none⟩ (.int .i64 c')) := ⟨_, rfl⟩
            rw [← hw6] at hT6
            have r0 := cell_of_row w6 _ 0 _ _ _ hT6.box
            have r1 := cell_of_row w6 _ 1 _ _ _ hT6.box
            have HW6 := Lib.hid hw6
            have HT6 := Lib.hid hT6
            clear hT5 hT6 hw6 z0 z1 z2 z3 z4 z5 z6
            have HD := Lib.hid D
            clear D
            have hcut : ∀ W, Below w6.heap.size w6 W → Below w.heap.size w W := fun W h => (HT6.out.below h).bel
            have HCUT := Lib.hid hcut
            clear hcut
            rcases HD.out with ⟨h1, hs⟩ | ⟨h1, h2, hs⟩ | ⟨h1, h2, h3, hs⟩ | ⟨h1, h2, h3, hs⟩
            · have HS := Lib.hid hs
              clear HD hs
              go_wp2_with fail
              rw [← HW6.out]
              go_wp2_with fail
              go_ret2
              exact CountOwn.bad (cntErr_hit HLL.out HQ.out.symm HTO.out HNL.out (cntAt_store HX.out HP.out.symm (by rw [HS1.out]; exact HS.out)) (by decide)) (by decide) HT6.out.bel
            · have HS := Lib.hid hs
              clear HD hs
              go_wp2_with fail
              rw [← HW6.out]
              go_wp2_with fail
              go_ret2
              exact CountOwn.bad (cntErr_hit HLL.out HQ.out.symm HTO.out HNL.out (cntAt_store HX.out HP.out.symm (by rw [HS1.out]; exact HS.out)) (by decide)) (by decide) HT6.out.bel
            · have HS := Lib.hid hs
              clear HD hs
              go_wp2_with fail
              rw [← HW6.out]
              go_wp2_with fail
              go_ret2
              exact CountOwn.bad (cntErr_hit HLL.out HQ.out.symm HTO.out HNL.out (cntAt_store HX.out HP.out.symm (by rw [HS1.out]; exact HS.out)) (by decide)) (by decide) HT6.out.bel
            · have HS := Lib.hid hs
              clear HD hs
              have hT6 := HT6.out
              rw [HW6.out] at hT6
              have hown := hT6.own
              have hsz6 := hT6.lt
              have hnew := cells_new ((w5.setCell ⟨w.heap.size, 0, none⟩ (.int .i64 g')).setCell ⟨w.heap.size, 1, none⟩ (.int .i64 c')) #[.int .i64 g', .int .i64 c'] 84 (0, 0)
              rw [show ((w5.setCell ⟨w.heap.size, 0, none⟩ (.int .i64 g')).setCell ⟨w.heap.size, 1, none⟩ (.int .i64 c')).heap.size = w5.heap.size from by simp] at hnew hsz6
              have HNEW := Lib.hid hnew
              have HT6' := Lib.hid hT6
              clear hnew hT6
              go_wp2_with (at_builtin; refine wpList_append_own _ rfl _ _ 81 rfl (w.heap.size + 1) 84 i0 (.agg #[.int .i64 0, .int .i64 0]) 2 16 Try.underlying81 hi0 hz0 hz1 hz2 rfl (by decide) _ k cs rfl (hown.alloc _) ⟨w5.heap.size, 0, none⟩ 1 1 [.int .i64 g', .int .i64 c'] rfl rfl HNEW.out (by intro u hu; simp at hu; rcases hu with rfl | rfl <;> rfl) (by unfold maxLen; omega) (by omega) (by simp; omega) ?_; intro v7 w7 hown7 hg7 _; obtain ⟨A7, c7, rfl⟩ := ownsRow_slice hown7; have hT7 := CntW.app HT6'.out ((Below.refl _ _).alloc (Nat.le_refl _) _) hown7 hg7; clear hown7 hg7)
              have HT7 := Lib.hid hT7
              clear hT7 hown
              go_roundw
              case rel => exact ⟨k + 1, by omega, by go_num, HTO.out.succ (cntAt_ok HX.out HP.out.symm (by rw [HS1.out]; exact HS.out)), g', c', HS1.out, by rw [HCS.out]; exact HT7.out⟩
              case measure => simp [intOf]; omega
        · have h1 : k = l.length := by have := HN.out; omega
          have HT := Lib.hid hT
          have HTO := Lib.hid hto
          have HK := Lib.hid h1
          clear hT hto hgc h1
          go_wp2_with fail
          go_ret2
          have hT := HT.out
          have hto := HTO.out
          rw [HK.out] at hT hto
          have he := cntErr_ok (by have := HN.out; omega) HQ.out.symm hto
          exact CountOwn.good he hT.own hT.bel
theorem pCount_any (v : Value) (s : StockD) (l : List ShiftD) (room : Int) (S : Nat → Prop) (w : World) (hv : RdK 5 shC w S v l) (hroom : -9223372036854775808 ≤ room ∧ room ≤ 9223372036854775807) :
    Calls Try.prog 41 #[.agg #[.int .i64 s.green, .int .i64 s.cured], v, .int .i64 room] w (CountPost w s l room) := (pCount_own v s l room S w hv hroom).mono fun _ _ h => h.post
end Go.Proofs.Ytlanephpmoajiaa
