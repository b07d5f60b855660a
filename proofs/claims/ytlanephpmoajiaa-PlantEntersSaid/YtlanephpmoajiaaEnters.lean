/- The walk of the statement PlantEnters. -/
import Derived.Test.YtlanephpmoajiaaAllBox
import Derived.Test.YtlanephpmoajiaaIsItem
import Derived.Test.YtlanephpmoajiaaBoth
import Derived.Test.YtlanephpmoajiaaAllBrk
namespace Go.Proofs.Ytlanephpmoajiaa
open Go.RowKit Go.Shelf
set_option linter.unusedVariables false
attribute [local go_sem] Oper.semAt_some
theorem op_at {l : List Oper} {i : Nat} {o : Oper} (h : l[i]? = some o) : l.toArray[i]? = some o := by simpa using h
/-- Lists of the call's own whose elements may be written. -/
def Wr2 (B : Nat) (vf : Value) (fs : List (List ByteArray)) (W : World) : Prop :=
  ∃ vs, W.ownsRow B 52 1 vf fs.length vs ∧ ∀ (i : Nat) (c : List ByteArray), fs[i]? = some c → ∃ u, vs[i]? = some u ∧ ((u = .slice none 0 0 ∧ c.length = 0) ∨ ∃ g cap cur, u = .slice (some ⟨g, 0, none⟩) c.length cap ∧ B ≤ g ∧ W.heap[g]? = some (.cells cur 9 (0, 0)) ∧ c.length ≤ cur.size)
theorem Wr2.of_own {B : Nat} {vf : Value} {fs : List (List ByteArray)} {W : World} (h : Own2 W B vf fs) : Wr2 B vf fs W := by
  obtain ⟨vs, h1, h2⟩ := h
  refine ⟨vs, h1, fun i c hc => ?_⟩
  obtain ⟨u, hu, ho, -⟩ := h2 i c hc
  refine ⟨u, hu, ?_⟩
  rcases ho.2 with ⟨rfl, e⟩ | ⟨g, cap, cur, rfl, hb, hg, h3, h4, h5, h6⟩
  · exact .inl ⟨rfl, e⟩
  · exact .inr ⟨g, cap, cur, rfl, hb, hg, by omega⟩
/-- Element j of list i, written over. -/
theorem Wr2.at_ {B : Nat} {vf : Value} {fs : List (List ByteArray)} {W : World} (h : Wr2 B vf fs W) {i : Nat} (hi : i < fs.length) :
    ∃ g cap u m c, vf = .slice (some ⟨g, 0, none⟩) fs.length cap ∧ W.cell? ⟨g, i, none⟩ = some u ∧ fs[i]? = some c ∧ c.length = m ∧ ((u = .slice none 0 0 ∧ m = 0) ∨ ∃ g2 cap2, u = .slice (some ⟨g2, 0, none⟩) m cap2 ∧ B ≤ g2 ∧ g2 < W.heap.size ∧ (∀ b C t m', W.heap[b]? = some (.cells C t m') → t ≠ 9 → b ≠ g2) ∧ ∀ j, j < m → (∃ u2, W.cell? ⟨g2, j, none⟩ = some u2) ∧ W.frozen? ⟨g2, j, none⟩ = false ∧ ∀ v, Wr2 B vf fs (W.setCell ⟨g2, j, none⟩ v)) := by
  obtain ⟨vs, h1, h2⟩ := h
  obtain ⟨u, hu, h3⟩ := h2 i _ (List.getElem?_eq_getElem hi)
  have h1' := h1
  rcases h1'.2 with ⟨rfl, e⟩ | ⟨g, cap, cur, rfl, hb, hg, h6⟩
  · omega
  have hcell := h1.cellAt i (by have := (List.getElem?_eq_some_iff.1 hu).1; omega)
  rw [hu] at hcell
  refine ⟨g, cap, u, _, _, rfl, hcell, List.getElem?_eq_getElem hi, rfl, ?_⟩
  rcases h3 with ⟨rfl, h0⟩ | ⟨g2, cap2, cur2, rfl, hb2, hg2, hl2⟩
  · exact .inl ⟨rfl, h0⟩
  refine .inr ⟨g2, cap2, rfl, hb2, (Array.getElem?_eq_some_iff.1 hg2).1, fun b C t m' hb ht e => (by subst e; rw [hg2] at hb; cases hb; exact ht rfl), fun j hj => ⟨?_, ?_, fun v => ?_⟩⟩
  · exact ⟨_, (cell_of_row W g2 j _ _ _ hg2).trans (Array.getElem?_eq_getElem (by omega))⟩
  · unfold World.frozen?; simp only [hg2]; simp
  · have hne : g ≠ g2 := by
      intro e
      subst e
      rw [hg] at hg2
      cases hg2
    refine ⟨vs, ?_, fun i c hc => ?_⟩
    · exact h1.kept (row := some g2) ⟨rfl, rfl, rfl, by show W.heap.size ≤ (W.heap.modify _ _).size; simp, fun k hk hn => Below.heap_setCell W _ _ k (fun e => hn (by rw [e]))⟩ (.inr (by simp [Value.ownBlock]; exact hne))
    · obtain ⟨u', hu', h7⟩ := h2 i c hc
      refine ⟨u', hu', h7.imp id ?_⟩
      rintro ⟨g3, cap3, cur3, rfl, h8, h9, h10⟩
      by_cases e : g3 = g2
      · subst e
        refine ⟨g3, cap3, cur3.setIfInBounds j v, rfl, h8, ?_, by simpa using h10⟩
        exact heap_setCell_same W _ j _ _ _ h9
      · exact ⟨g3, cap3, cur3, rfl, h8, (Below.heap_setCell W _ _ _ e).trans h9, h10⟩
theorem Wr2.below {B : Nat} {vf : Value} {fs : List (List ByteArray)} {W W' : World} (h : Wr2 B vf fs W) (hb : Below W.heap.size W W') : Wr2 B vf fs W' := by
  obtain ⟨vs, h1, h2⟩ := h
  refine ⟨vs, h1.kept (row := none) ⟨hb.os, hb.tape, hb.output, hb.size, fun k hk _ => hb.block k hk⟩ (Classical.em _), fun i c hc => ?_⟩
  obtain ⟨u', hu', h7⟩ := h2 i c hc
  refine ⟨u', hu', h7.imp id ?_⟩
  rintro ⟨g3, cap3, cur3, rfl, h8, h9, h10⟩
  exact ⟨g3, cap3, cur3, rfl, h8, (hb.block _ (Array.getElem?_eq_some_iff.1 h9).1).trans h9, h10⟩
/-- The way out before the loops over All: the result lies in a cell. -/
theorem leaveC0 {fn : Func} {a : Act} {w W : World} {b : Nat} (hq : W.cell? ⟨b, 0, none⟩ = some (.bool true)) (hb : Below w.heap.size w W)
    (hr : ∀ W' : World, W'.cell? ⟨b, 0, none⟩ = some (.bool true) → (results fn a.tmps).run Try.prog W' = .ok (.bool true) W') (hd : a.defers = []) :
    bodyPostM Fence.wide 3 Try.prog fn (fun e w' => e = .returned (.bool true) ∧ Below w.heap.size w w') .ret a W := by
  show LeavesInM Fence.wide 3 Try.prog fn a.tmps _ a.defers .returning W
  rw [hd]
  exact ⟨.bool true, hr _ hq, rfl, hb⟩
set_option maxRecDepth 100000 in
set_option maxHeartbeats 4000000 in
theorem enters_any (v0 : Value) (xs : List ItemD) (nm : ByteArray) (st : Int) (w : World) (hv : RdI w (fun _ => True) v0 xs) (hw : ∀ x ∈ xs, ItemWf x) (hnm : nm.size ≤ maxLen) (hst : 0 ≤ st ∧ st ≤ 255) :
    Calls Try.prog 5 #[v0, .string nm, .int .u8 st] w fun e w' => e = .returned (.bool true) ∧ Below w.heap.size w w' := by
  have HV := Lib.hid hv
  have HW := Lib.hid hw
  obtain ⟨A, n, cap, rfl, -⟩ := hv.open_
  obtain ⟨hst0, hst1⟩ := hst
  clear hv hw
  have hr0 : Boxed (w.alloc (.cells #[.bool false] 4)) w.heap.size 4 (.bool false) := Boxed.new w 4 _
  have hbel0 : Below w.heap.size w (w.alloc (.cells #[.bool false] 4)) := (Below.refl _ w).alloc (Nat.le_refl _) _
  obtain ⟨W1, hW1⟩ : ∃ W1, W1 = w.alloc (.cells #[.bool false] 4) := ⟨_, rfl⟩
  rw [← hW1] at hr0 hbel0
  have HW1 := Lib.hid hW1
  clear hW1
  refine callsIn_wide.1 (callsIn_of_wp_marks (n := 3) Try.func5 rfl trivial (wpIn_wide.2 ?_) rfl)
  simp only [Try.ntmps5, List.size_toArray, List.length_cons, List.length_nil, Nat.reduceAdd, Nat.reduceSub, Array.replicate_succ, Array.replicate_zero, List.push_toArray, List.append_toArray, List.nil_append, List.cons_append]
  go_wp2_with fail
  rw [← HW1.out]
  refine (few_any _ xs _ W1 (HV.out.below hbel0)).mono ?_
  rintro e w2 ⟨b, rfl, hfew, hb2⟩
  have HR2 : Hid (Boxed w2 w.heap.size 4 (.bool false)) := (hb2.block _ hr0.lt).trans hr0
  have HB2 := Lib.hid (hbel0.trans (hb2.mono hbel0.size))
  clear hb2 hr0 hbel0
  cases b with
  | false =>
    clear hfew
    go_wp2_with (go_at_call 16; refine (awake_any _).mono ?_; rintro e w3 ⟨rfl, hb3⟩; have hr3 : Boxed w3 w.heap.size 4 (.bool false) := (hb3.block _ HR2.out.lt).trans HR2.out; have c3 := hr3.cell; have f3 := hr3.frozen; have HQ := Lib.hid ((hr3.set (.bool true)).cell); have HE := Lib.hid ((HB2.out.trans (hb3.mono HB2.out.size)).setCell (p := ⟨w.heap.size, 0, none⟩) (Nat.le_refl _) (.bool true)); clear hb3 hr3)
    refine leaveC0 HQ.out HE.out ?_ rfl
    intro W' hq
    simp [results, Try.results5, go_sem, hq]
  | true =>
    have HF := Lib.hid (hfew rfl)
    clear hfew
    go_wp2_with fail
    refine (books_any _ xs _ w2 (HV.out.below HB2.out) HF.out).mono ?_
    rintro e w3 ⟨p, bv, rfl, F, hbk, hrd, hb3⟩
    have hok := entAll_ok HF.out.each HW.out
    have huq := entAll_uq xs
    have hlen : (entAll xs).length ≤ 24 := by have := entAll_len xs; have := HF.out.len; omega
    obtain ⟨acc, hacc⟩ : ∃ acc, acc = entAll xs := ⟨_, rfl⟩
    rw [← hacc] at hbk hrd hok huq hlen
    have HB3 := Lib.hid (HB2.out.trans (hb3.mono HB2.out.size))
    have hlen2 : acc.length ≤ 1024 := by omega
    have HR3 : Hid (Boxed w3 w.heap.size 4 (.bool false)) := (hb3.block _ HR2.out.lt).trans HR2.out
    have CG : Hid (∀ s : ByteArray, s.size ≤ maxLen → ∀ w', Below w3.heap.size w3 w' → Calls Try.prog 19 #[p, .string s] w' (GetPost w' acc s)) := fun s hs w' h => Get_any p _ F acc s w' (hbk.below h) hok.small hs
    have HUQ := Lib.hid huq
    have HBK := Lib.hid hbk
    have HOK := Lib.hid hok
    have HRD := Lib.hid (hrd.mono (S' := fun _ => True) fun _ _ => trivial)
    obtain ⟨bb, vi, r, fs, rfl, -⟩ := hbk
    obtain ⟨A5, n5, cap5, rfl, hn5, hcap5, hmax5, hc5⟩ := HRD.out.lt.open_
    have HC5 := Lib.hid hc5
    have HN5 := Lib.hid hn5
    have hn24 : n5 ≤ 24 := by omega
    have hb8 : Boxed (w3.alloc (.cells #[.slice A5 n5 cap5] 41)) w3.heap.size 41 (.slice A5 n5 cap5) := Boxed.new w3 41 _
    obtain ⟨w4, hw4⟩ : ∃ w4, w4 = w3.alloc (.cells #[.slice A5 n5 cap5] 41) := ⟨_, rfl⟩
    have hb34 : Below w3.heap.size w3 w4 := by rw [hw4]; exact (Below.refl _ _).alloc (Nat.le_refl _) _
    have hs4 : w4.heap.size = w3.heap.size + 1 := by rw [hw4]; simp
    rw [← hw4] at hb8
    have HW4 := Lib.hid hw4
    have HB8 := Lib.hid hb8
    have HB34 := Lib.hid hb34
    have hc8 : (w3.alloc (.cells #[.slice A5 n5 cap5] 41)).cell? ⟨w3.heap.size, 0, none⟩ = some (.slice A5 n5 cap5) := by rw [← hw4]; exact hb8.cell
    clear hrd hok huq hacc hb3 hc5 hn5 hw4 hb8 hb34
    go_wp2_with fail
    rw [← HW4.out]
    clear hc8
    go_loopw [37] (fun iv wr => ∃ k : Nat, k ≤ n5 ∧ iv = .int .i64 k ∧ Below w4.heap.size w4 wr) (fun iv _ => n5 - (intOf iv).toNat)
    case atStart => exact ⟨0, Nat.zero_le _, rfl, Below.refl _ _⟩
    case round =>
      obtain ⟨k, hk, rfl, hbr⟩ := hrel
      have HBR := Lib.hid hbr
      have H3R := Lib.hid (HB34.out.trans (hbr.mono HB34.out.size))
      clear hbr
      by_cases hlt : k < n5
      · obtain ⟨bx, ox, x, fx, rfl, ⟨_, hbx⟩, hx, x0, x1, x2, x3, hfx⟩ := HC5.out k hlt
        obtain ⟨Af, nf, cf, rfl⟩ := hfx.isSlice
        have d0 : wr.cell? ⟨bx, ox + k * 4, none⟩ = some (.string x.name) := (H3R.out.cell (p := ⟨bx, _, none⟩) hbx).trans x0
        have d1 : wr.cell? ⟨bx, ox + k * 4 + 1, none⟩ = some (.int .i64 x.kind) := (H3R.out.cell (p := ⟨bx, _, none⟩) hbx).trans x1
        have d2 : wr.cell? ⟨bx, ox + k * 4 + 2, none⟩ = some (.int .i64 x.at_) := (H3R.out.cell (p := ⟨bx, _, none⟩) hbx).trans x2
        have d3 : wr.cell? ⟨bx, ox + k * 4 + 3, none⟩ = some (.slice Af nf cf) := (H3R.out.cell (p := ⟨bx, _, none⟩) hbx).trans x3
        have hss := HOK.out.small x (mem_of_get? hx)
        have HG := Lib.hid (CG.out x.name (by have := hss.name; unfold maxLen; omega))
        have HI := Lib.hid (HUQ.out.uniq k x hx)
        have HX := Lib.hid hx
        have HFX := Lib.hid hfx
        have HSS := Lib.hid hss
        obtain ⟨xn, xk, xa, xf⟩ := x
        simp only at d0 d1 d2 d3 HG HI HFX
        obtain ⟨wa, hwa⟩ : ∃ wa, wa = wr.alloc (.cells #[.string xn, .int .i64 xk, .int .i64 xa, .slice Af nf cf] 44) := ⟨_, rfl⟩
        have hma := heap_alloc_new wr (.cells #[.string xn, .int .i64 xk, .int .i64 xa, .slice Af nf cf] 44)
        have hba : Below wr.heap.size wr wa := by rw [hwa]; exact (Below.refl _ _).alloc (Nat.le_refl _) _
        rw [← hwa] at hma
        have HWA := Lib.hid hwa
        have HMA := Lib.hid hma
        have HBA := Lib.hid hba
        clear hx x0 x1 x2 x3 hfx hss hwa hma hba
        go_wp2_with fail
        rw [← HWA.out]
        clear d0 d1 d2 d3
        have hszr : wr.heap.size < wa.heap.size := (Array.getElem?_eq_some_iff.1 HMA.out).1
        obtain ⟨rb, hrb⟩ : ∃ rb, rb = wr.heap.size := ⟨_, rfl⟩
        have H4A : Hid (Below w4.heap.size w4 wa) := HBR.out.trans (HBA.out.mono HBR.out.size)
        have H3A : Hid (Below w3.heap.size w3 wa) := HB34.out.trans (H4A.out.mono HB34.out.size)
        have HRB := Lib.hid hrb
        rw [← hrb] at HMA hszr ⊢
        clear hrb
        obtain ⟨wo, hwo⟩ : ∃ wo : World, wo = wr := ⟨_, rfl⟩
        clear hwo
        go_loopw [41] (fun iv wr => ∃ t : Nat, t ≤ 2 ∧ iv = .int .i64 t ∧ Below wa.heap.size wa wr) (fun iv _ => 2 - (intOf iv).toNat)
        case atStart => exact ⟨0, Nat.zero_le _, rfl, Below.refl _ _⟩
        case round =>
          obtain ⟨t, ht, rfl, hbt⟩ := hrel
          have HBT := Lib.hid hbt
          have H4T : Hid (Below w4.heap.size w4 wr) := H4A.out.trans (hbt.mono H4A.out.size)
          have H3T : Hid (Below w3.heap.size w3 wr) := H3A.out.trans (hbt.mono H3A.out.size)
          have HMT : Hid (wr.heap[rb]? = some (.cells #[.string xn, .int .i64 xk, .int .i64 xa, .slice Af nf cf] 44)) := (hbt.block _ hszr).trans HMA.out
          clear hbt
          by_cases hlt2 : t < 2
          · have e0 : wr.cell? ⟨rb, 0, none⟩ = some (.string xn) := cell_of_row wr _ 0 _ _ _ HMT.out
            have hlt2' : (t : Int) < 2 := by omega
            go_wp2_with fail
            refine (HG.out wr H3T.out).mono ?_
            rintro e w5 ⟨⟨hi, -⟩ | ⟨i, y, v6, hi, hy, rfl, ho⟩, hb5⟩
            · exact absurd (hi.symm.trans HI.out) (by simp)
            · rw [HI.out] at hi
              obtain rfl := Option.some.inj hi
              rw [HX.out] at hy
              obtain rfl := Option.some.inj hy
              obtain ⟨A6, c6, rfl⟩ := ho.slice
              simp only at ho ⊢
              obtain ⟨w6, hw6⟩ : ∃ w6, w6 = w5.alloc (.cells #[.string xn, .int .i64 xk, .int .i64 xa, .slice A6 xf.length c6] 37) := ⟨_, rfl⟩
              have hb56 : Below w5.heap.size w5 w6 := by rw [hw6]; exact (Below.refl _ _).alloc (Nat.le_refl _) _
              have hm6 := heap_alloc_new w5 (.cells #[.string xn, .int .i64 xk, .int .i64 xa, .slice A6 xf.length c6] 37)
              rw [← hw6] at hm6
              have hbt6 : Below wr.heap.size wr w6 := hb5.trans (hb56.mono hb5.size)
              have hwr2 := (Wr2.of_own ho).below hb56
              have HRA := Lib.hid ((ho.rd2).below hb56)
              have HW6 := Lib.hid hw6
              have hszt := (Array.getElem?_eq_some_iff.1 HMT.out).1
              have hmt6 := (hbt6.block _ hszt).trans HMT.out
              have k0 : (w5.alloc (.cells #[.string xn, .int .i64 xk, .int .i64 xa, .slice A6 xf.length c6] 37)).cell? ⟨rb, 0, none⟩ = some (.string xn) := by rw [← hw6]; exact cell_of_row w6 _ 0 _ _ _ hmt6
              have k1 : (w5.alloc (.cells #[.string xn, .int .i64 xk, .int .i64 xa, .slice A6 xf.length c6] 37)).cell? ⟨rb, 1, none⟩ = some (.int .i64 xk) := by rw [← hw6]; exact cell_of_row w6 _ 1 _ _ _ hmt6
              have k2 : (w5.alloc (.cells #[.string xn, .int .i64 xk, .int .i64 xa, .slice A6 xf.length c6] 37)).cell? ⟨rb, 2, none⟩ = some (.int .i64 xa) := by rw [← hw6]; exact cell_of_row w6 _ 2 _ _ _ hmt6
              have k3 : (w5.alloc (.cells #[.string xn, .int .i64 xk, .int .i64 xa, .slice A6 xf.length c6] 37)).cell? ⟨rb, 3, none⟩ = some (.slice Af nf cf) := by rw [← hw6]; exact cell_of_row w6 _ 3 _ _ _ hmt6
              have HFB := Lib.hid (HFX.out.below (H3T.out.trans (hbt6.mono H3T.out.size)))
              have HWR := Lib.hid hwr2
              have HM6 := Lib.hid hm6
              have HBT6 := Lib.hid hbt6
              clear ho hy hw6 hb56 hm6 hbt6 hwr2 hmt6 hb5 e0
              go_wp2_with fail
              rw [← HW6.out]
              refine (isItem_any ⟨xn, xk, xa, xf⟩ (.slice A6 xf.length c6) (.slice Af nf cf) _ _ w6 HRA.out HFB.out).mono ?_
              rintro e w7 ⟨rfl, hb7⟩
              obtain ⟨B6, hB6⟩ : ∃ B6, B6 = wr.heap.size := ⟨_, rfl⟩
              have hm7 : w7.heap[w5.heap.size]? = _ := (hb7.block _ (Array.getElem?_eq_some_iff.1 HM6.out).1).trans HM6.out
              have hwr7 : Wr2 B6 (.slice A6 xf.length c6) xf w7 := by rw [hB6]; exact HWR.out.below hb7
              have HBT7 : Hid (Below B6 wr w7) := by rw [hB6]; exact HBT6.out.trans (hb7.mono HBT6.out.size)
              obtain ⟨ry, hry⟩ : ∃ ry, ry = w5.heap.size := ⟨_, rfl⟩
              rw [← hry] at hm7 ⊢
              have HM7 := Lib.hid hm7
              have HWR7 := Lib.hid hwr7
              have hxf : xf.length ≤ 12 := HSS.out.frm
              have hB6s : B6 = wr.heap.size := hB6
              clear HRA HFB HM6 HWR HBT6 hb7 hB6 hry hm7 hwr7 k0 k1 k2 k3
              have c3 : w7.cell? ⟨ry, 3, none⟩ = some (.slice A6 xf.length c6) := cell_of_row w7 _ 3 _ _ _ HM7.out
              go_wp2_with fail
              clear c3
              go_loopw [61] (fun iv u => ∃ i : Nat, i ≤ xf.length ∧ iv = .int .i64 i ∧ Below B6 w7 u ∧ Wr2 B6 (.slice A6 xf.length c6) xf u ∧ u.heap[ry]? = some (.cells #[.string xn, .int .i64 xk, .int .i64 xa, .slice A6 xf.length c6] 37)) (fun iv _ => xf.length - (intOf iv).toNat)
              case atStart => exact ⟨0, Nat.zero_le _, rfl, Below.refl _ _, HWR7.out, HM7.out⟩
              case round =>
                obtain ⟨i, hi, rfl, hbi, hwi, hmi⟩ := hrel
                by_cases hlti : i < xf.length
                · obtain ⟨g, cg, u, m, c, hA6, hcu, hc, hcm, hu⟩ := hwi.at_ hlti
                  simp only [Value.slice.injEq, true_and] at hA6
                  obtain ⟨rfl, rfl⟩ := hA6
                  have c3 : wr.cell? ⟨ry, 3, none⟩ = some (.slice (some ⟨g, 0, none⟩) xf.length c6) := cell_of_row wr _ 3 _ _ _ hmi
                  have hm12 : m ≤ 60 := by have := HSS.out.cs c (mem_of_get? hc); omega
                  have hU : ∃ Au cu, u = .slice Au m cu := by
                    rcases hu with ⟨rfl, rfl⟩ | ⟨g2, cap2, rfl, -⟩
                    · exact ⟨_, _, rfl⟩
                    · exact ⟨_, _, rfl⟩
                  obtain ⟨Au, cu, rfl⟩ := hU
                  have HBI := Lib.hid hbi
                  have HWI := Lib.hid hwi
                  have HMI := Lib.hid hmi
                  have HCM : Hid (∃ c, xf[i]? = some c ∧ c.length = m) := ⟨c, hc, hcm⟩
                  have hg2 : g < wr.heap.size := World.block_lt_of_cell? wr ⟨g, i, none⟩ hcu
                  clear hbi hwi hmi hu hc hcm
                  go_wp2_with fail
                  clear c3 hcu hg2
                  go_loopw [70] (fun iv u => ∃ j : Nat, j ≤ m ∧ iv = .int .i64 j ∧ Below B6 w7 u ∧ Wr2 B6 (.slice (some ⟨g, 0, none⟩) xf.length c6) xf u ∧ u.heap[ry]? = some (.cells #[.string xn, .int .i64 xk, .int .i64 xa, .slice (some ⟨g, 0, none⟩) xf.length c6] 37)) (fun iv _ => m - (intOf iv).toNat)
                  case atStart => exact ⟨0, Nat.zero_le _, rfl, HBI.out, HWI.out, HMI.out⟩
                  case round =>
                    obtain ⟨j, hj, rfl, hbj, hwj, hmj⟩ := hrel
                    by_cases hltj : j < m
                    · obtain ⟨g', cg', u', m', c', hA', hcu', hc', hcm', hu'⟩ := hwj.at_ hlti
                      simp only [Value.slice.injEq, Option.some.injEq, Addr.mk.injEq, true_and, and_true] at hA'
                      obtain ⟨rfl, rfl⟩ := hA'
                      obtain ⟨c'', hc'', hcm''⟩ := HCM.out
                      rw [hc'] at hc''
                      obtain rfl := Option.some.inj hc''
                      obtain rfl : m' = m := by omega
                      rcases hu' with ⟨-, h0⟩ | ⟨g2, cap2, rfl, hg2, hg2l, hne, hel⟩
                      · omega
                      · obtain ⟨⟨u2, hcell2⟩, hfr2, hset⟩ := hel j hltj
                        have c3 : wr.cell? ⟨ry, 3, none⟩ = some (.slice (some ⟨g, 0, none⟩) xf.length c6) := cell_of_row wr _ 3 _ _ _ hmj
                        have hne2 : ry ≠ g2 := hne _ _ _ _ hmj (by decide)
                        have HFIN : Hid (Below B6 w7 (wr.setCell ⟨g2, j, none⟩ (.string ⟨#[63]⟩)) ∧ Wr2 B6 (.slice (some ⟨g, 0, none⟩) xf.length c6) xf (wr.setCell ⟨g2, j, none⟩ (.string ⟨#[63]⟩)) ∧ (wr.setCell ⟨g2, j, none⟩ (.string ⟨#[63]⟩)).heap[ry]? = some (.cells #[.string xn, .int .i64 xk, .int .i64 xa, .slice (some ⟨g, 0, none⟩) xf.length c6] 37)) :=
                          ⟨hbj.setCell (p := ⟨g2, j, none⟩) hg2 _, hset _, (Below.heap_setCell wr _ _ _ (by show ry ≠ g2; exact hne2)).trans hmj⟩
                        clear hbj hwj hmj hset hel hne hc' hcm' hc'' hcm''
                        go_wp2_with fail
                        go_roundw
                        case rel => exact ⟨j + 1, by omega, by go_num, HFIN.out⟩
                        case measure => simp [intOf]; omega
                    · have HFIN := Lib.hid (And.intro hbj (And.intro hwj hmj))
                      clear hbj hwj hmj
                      go_wp2_with fail
                      go_roundw
                      case rel => exact ⟨i + 1, by omega, by go_num, HFIN.out⟩
                      case measure => simp [intOf]; omega
                · have HFIN := Lib.hid (HBT.out.trans ((HBT7.out.trans hbi).mono (by rw [hB6s]; exact HBT.out.size)))
                  clear hbi hwi hmi
                  go_wp2_with fail
                  go_roundw
                  case rel => exact ⟨t + 1, by omega, by go_num, HFIN.out⟩
                  case measure => simp [intOf]; omega
          · have HFIN := Lib.hid (HBR.out.trans ((HBA.out.trans (HBT.out.mono (by rw [← HRB.out]; omega))).mono HBR.out.size))
            have hlt2' : ¬ (t : Int) < 2 := by omega
            go_wp2_with fail
            go_roundw
            case rel => exact ⟨k + 1, by omega, by go_num, HFIN.out⟩
            case measure => simp [intOf]; omega
      · have H4R := Lib.hid HBR.out
        obtain ⟨w10, hw10⟩ : ∃ w10 : World, w10 = wr := ⟨_, rfl⟩
        clear hw10
        go_wp2_with fail
        refine (CG.out nm hnm wr H3R.out).mono ?_
        rintro e w11 ⟨hget, hb11⟩
        have H4B := Lib.hid (H4R.out.trans (hb11.mono H4R.out.size))
        have H3B := Lib.hid (H3R.out.trans (hb11.mono H3R.out.size))
        have HB8' : Hid (Boxed w11 w3.heap.size 41 (.slice A5 n5 cap5)) := (H4B.out.block _ HB8.out.lt).trans HB8.out
        rcases hget with ⟨hi, rfl⟩ | ⟨i, x, v6, hi, hx, rfl, ho⟩
        focus
          obtain ⟨w12, hw12⟩ : ∃ w12, w12 = w11.alloc (.cells #[.string ⟨#[]⟩, .int .i64 0, .int .i64 0, .slice none 0 0] 37) := ⟨_, rfl⟩
          have hm12 := heap_alloc_new w11 (.cells #[.string ⟨#[]⟩, .int .i64 0, .int .i64 0, .slice none 0 0] 37)
          have hb12 : Below w11.heap.size w11 w12 := by rw [hw12]; exact (Below.refl _ _).alloc (Nat.le_refl _) _
          have HFI := Lib.hid (refFind_any (.slice A5 n5 cap5) acc (fun _ => True) nm (w11.alloc (.cells #[.string ⟨#[]⟩, .int .i64 0, .int .i64 0, .slice none 0 0] 37)) (HRD.out.below (H3B.out.trans (((Below.refl _ w11).alloc (Nat.le_refl _) _).mono H3B.out.size))))
          rw [show findI acc nm = -1 by simp [findI, hi]] at HFI
          rw [← hw12] at hm12
          have c8 : (w11.alloc (.cells #[.string ⟨#[]⟩, .int .i64 0, .int .i64 0, .slice none 0 0] 37)).cell? ⟨w3.heap.size, 0, none⟩ = some (.slice A5 n5 cap5) := (HB8'.out.alloc _).cell
          have HM12 := Lib.hid hm12
          have HW12 := Lib.hid hw12
          have HB12 := Lib.hid hb12
          clear hw12 hm12 hb12 hi hb11
          go_wp2_with (go_at_call 27; refine HFI.out.mono ?_; rintro e w' ⟨rfl, rfl⟩)
          rw [← HW12.out]
          clear c8
          have y0 : w12.cell? ⟨w11.heap.size, 0, none⟩ = some (.string ⟨#[]⟩) := cell_of_row w12 _ 0 _ _ _ HM12.out
          have y1 : w12.cell? ⟨w11.heap.size, 1, none⟩ = some (.int .i64 0) := cell_of_row w12 _ 1 _ _ _ HM12.out
          have y2 : w12.cell? ⟨w11.heap.size, 2, none⟩ = some (.int .i64 0) := cell_of_row w12 _ 2 _ _ _ HM12.out
          have y3 : w12.cell? ⟨w11.heap.size, 3, none⟩ = some (.slice none 0 0) := cell_of_row w12 _ 3 _ _ _ HM12.out
          have HCI := Lib.hid (fun u => isItem_any ⟨⟨#[]⟩, 0, 0, []⟩ (.slice none 0 0) (.slice none 0 0) (fun _ => True) (fun _ => True) u ⟨[], Rd.none_ _ _ _, rfl, by simp⟩ ⟨[], Rd.none_ _ _ _, rfl, by simp⟩)
          have hryl := (Array.getElem?_eq_some_iff.1 HM12.out).1
          refine wp_region_noPanic ?_
          refine seq_start (S := fun w' => w'.cell? ⟨w11.heap.size, 0, none⟩ = some (.string ⟨#[]⟩) ∧ w'.cell? ⟨w11.heap.size, 1, none⟩ = some (.int .i64 0) ∧ w'.cell? ⟨w11.heap.size, 2, none⟩ = some (.int .i64 0) ∧ w'.cell? ⟨w11.heap.size, 3, none⟩ = some (.slice none 0 0)) (by kernel_rfl) (by kernel_rfl) (by exact ⟨y0, y1, y2, y3⟩) ?_
          repeat (first
            | (refine seq_take0 (v := ?_) ?_ (fun _ _ _ h => h) (by kernel_rfl) ?_ ?_; rotate_left; (focus rfl); (focus (intro w' hSw; (try dsimp only at hSw); go_simp; (try with_reducible rfl); done)); (try simp only [Act.put, List.setIfInBounds_toArray, List.set_cons_zero, List.set_cons_succ]))
            | (refine seq_takeG (v := ?_) (g := ?_) (d := ?_) (b := ?_) (u := ?_) ?_ ?_ ?_ ?_ (fun _ _ _ h => h) (by kernel_rfl) ?_ ?_; rotate_left 5; (focus rfl); (focus rfl); (focus rfl); (focus (first | rfl | (go_simp; done))); (focus (intro w' hSw; (try dsimp only at hSw); go_simp; (try with_reducible rfl); done)); (try simp only [Act.put, List.setIfInBounds_toArray, List.set_cons_zero, List.set_cons_succ]))
            | (refine seq_skipG (g := ?_) (d := ?_) (b := ?_) (u := ?_) ?_ ?_ ?_ ?_ (fun _ _ _ h => h) (by kernel_rfl) ?_; rotate_left 4; (focus rfl); (focus rfl); (focus rfl); (focus (first | rfl | (go_simp; done))); (try simp only [Act.put, List.setIfInBounds_toArray, List.set_cons_zero, List.set_cons_succ])))
          refine seq_op (by kernel_rfl) (by rfl) (fun K hK => ?_)
          go_simp
          refine (HCI.out _).mono ?_
          rintro e w13 ⟨rfl, hb13⟩
          have z0 := (hb13.cell (p := ⟨w11.heap.size, 0, none⟩) hryl).trans y0
          have z1 := (hb13.cell (p := ⟨w11.heap.size, 1, none⟩) hryl).trans y1
          have z2 := (hb13.cell (p := ⟨w11.heap.size, 2, none⟩) hryl).trans y2
          have z3 := (hb13.cell (p := ⟨w11.heap.size, 3, none⟩) hryl).trans y3
          go_wp2_with fail
          refine hK.out _ _ ⟨z0, z1, z2, z3⟩ ?_
          clear hK K
          repeat (first
            | (refine seq_take0 (v := ?_) ?_ (fun _ _ _ h => h) (by kernel_rfl) ?_ ?_; rotate_left; (focus rfl); (focus (intro w' hSw; (try dsimp only at hSw); go_simp; (try with_reducible rfl); done)); (try simp only [Act.put, List.setIfInBounds_toArray, List.set_cons_zero, List.set_cons_succ]))
            | (refine seq_takeG (v := ?_) (g := ?_) (d := ?_) (b := ?_) (u := ?_) ?_ ?_ ?_ ?_ (fun _ _ _ h => h) (by kernel_rfl) ?_ ?_; rotate_left 5; (focus rfl); (focus rfl); (focus rfl); (focus (first | rfl | (go_simp; done))); (focus (intro w' hSw; (try dsimp only at hSw); go_simp; (try with_reducible rfl); done)); (try simp only [Act.put, List.setIfInBounds_toArray, List.set_cons_zero, List.set_cons_succ]))
            | (refine seq_skipG (g := ?_) (d := ?_) (b := ?_) (u := ?_) ?_ ?_ ?_ ?_ (fun _ _ _ h => h) (by kernel_rfl) ?_; rotate_left 4; (focus rfl); (focus rfl); (focus rfl); (focus (first | rfl | (go_simp; done))); (try simp only [Act.put, List.setIfInBounds_toArray, List.set_cons_zero, List.set_cons_succ])))
          refine seq_done (by kernel_rfl) ?_
          refine NoPanic.normal ?_
          have HB13 : Hid (Below w11.heap.size w11 w13) := HB12.out.trans ((((Below.refl _ w12).drew).trans hb13).mono HB12.out.size)
          have c13 : w13.cell? ⟨w3.heap.size, 0, none⟩ = some (.slice A5 n5 cap5) := (HB13.out.cell (p := ⟨_, _, none⟩) HB8'.out.lt).trans HB8'.out.cell
          clear z0 z1 z2 z3 hb13 y0 y1 y2 y3 hryl
        rotate_left
        focus
          have hil := (List.getElem?_eq_some_iff.1 hx).1
          obtain ⟨bx, ox, x', fx, rfl, ⟨_, hbx⟩, hx', x0, x1, x2, x3, hfx⟩ := HC5.out i (by have := HN5.out; omega)
          rw [hx] at hx'
          obtain rfl := Option.some.inj hx'
          obtain ⟨A6, c6, rfl⟩ := ho.slice
          obtain ⟨Af, nf, cf, rfl⟩ := hfx.isSlice
          obtain ⟨xn, xk, xa, xf⟩ := x
          simp only at x0 x1 x2 x3 hfx ho ⊢
          obtain ⟨w12, hw12⟩ : ∃ w12, w12 = w11.alloc (.cells #[.string xn, .int .i64 xk, .int .i64 xa, .slice A6 xf.length c6] 37) := ⟨_, rfl⟩
          have hm12 := heap_alloc_new w11 (.cells #[.string xn, .int .i64 xk, .int .i64 xa, .slice A6 xf.length c6] 37)
          have hb12 : Below w11.heap.size w11 w12 := by rw [hw12]; exact (Below.refl _ _).alloc (Nat.le_refl _) _
          have h312 : Below w3.heap.size w3 w12 := H3B.out.trans (hb12.mono H3B.out.size)
          have HFI := Lib.hid (refFind_any (.slice (some ⟨bx, ox, none⟩) n5 cap5) acc (fun _ => True) nm (w11.alloc (.cells #[.string xn, .int .i64 xk, .int .i64 xa, .slice A6 xf.length c6] 37)) (by have := HRD.out.below h312; rw [hw12] at this; exact this))
          rw [show findI acc nm = (i : Int) by simp [findI, hi]] at HFI
          rw [← hw12] at hm12
          have c8 : (w11.alloc (.cells #[.string xn, .int .i64 xk, .int .i64 xa, .slice A6 xf.length c6] 37)).cell? ⟨w3.heap.size, 0, none⟩ = some (.slice (some ⟨bx, ox, none⟩) n5 cap5) := (HB8'.out.alloc _).cell
          have HM12 := Lib.hid hm12
          have HW12 := Lib.hid hw12
          have HB12 := Lib.hid hb12
          have HRA := Lib.hid (ho.rd2.below hb12)
          have HRF := Lib.hid (hfx.below h312)
          have y4 : w12.cell? ⟨bx, ox + i * 4, none⟩ = some (.string xn) := (h312.cell (p := ⟨bx, _, none⟩) hbx).trans x0
          have y5 : w12.cell? ⟨bx, ox + i * 4 + 1, none⟩ = some (.int .i64 xk) := (h312.cell (p := ⟨bx, _, none⟩) hbx).trans x1
          have y6 : w12.cell? ⟨bx, ox + i * 4 + 2, none⟩ = some (.int .i64 xa) := (h312.cell (p := ⟨bx, _, none⟩) hbx).trans x2
          have y7 : w12.cell? ⟨bx, ox + i * 4 + 3, none⟩ = some (.slice Af nf cf) := (h312.cell (p := ⟨bx, _, none⟩) hbx).trans x3
          have y8 : w12.cell? ⟨w3.heap.size, 0, none⟩ = some (.slice (some ⟨bx, ox, none⟩) n5 cap5) := (hb12.cell (p := ⟨_, _, none⟩) HB8'.out.lt).trans HB8'.out.cell
          have hl3 : w3.heap.size < w12.heap.size := Nat.lt_of_lt_of_le HB8'.out.lt hb12.size
          have hlx : bx < w12.heap.size := by have := h312.size; omega
          have hin5 : i < n5 := by have := HN5.out; omega
          have hi0 : (0 : Int) ≤ (i : Int) := by omega
          have hi1 : ¬ ((i : Int) < 0) := by omega
          have hi2 : (i : Int) < (n5 : Int) := by omega
          clear hw12 hm12 hb12 hi hb11 x0 x1 x2 x3 hfx ho hx h312 hil
          go_wp2_with (go_at_call 27; refine HFI.out.mono ?_; rintro e w' ⟨rfl, rfl⟩)
          rw [← HW12.out]
          clear c8
          have y0 : w12.cell? ⟨w11.heap.size, 0, none⟩ = some (.string xn) := cell_of_row w12 _ 0 _ _ _ HM12.out
          have y1 : w12.cell? ⟨w11.heap.size, 1, none⟩ = some (.int .i64 xk) := cell_of_row w12 _ 1 _ _ _ HM12.out
          have y2 : w12.cell? ⟨w11.heap.size, 2, none⟩ = some (.int .i64 xa) := cell_of_row w12 _ 2 _ _ _ HM12.out
          have y3 : w12.cell? ⟨w11.heap.size, 3, none⟩ = some (.slice A6 xf.length c6) := cell_of_row w12 _ 3 _ _ _ HM12.out
          have HCI : Hid (∀ u, Below w12.heap.size w12 u → Calls Try.prog 26 #[.agg #[.string xn, .int .i64 xk, .int .i64 xa, .slice A6 xf.length c6], .agg #[.string xn, .int .i64 xk, .int .i64 xa, .slice Af nf cf]] u fun e w' => e = .returned (.bool true) ∧ Below u.heap.size u w') := fun u hu => isItem_any ⟨xn, xk, xa, xf⟩ (.slice A6 xf.length c6) (.slice Af nf cf) _ _ u (HRA.out.below hu) (HRF.out.below hu)
          have hryl := (Array.getElem?_eq_some_iff.1 HM12.out).1
          refine wp_region_noPanic ?_
          refine seq_start (S := fun w' => w'.cell? ⟨w11.heap.size, 0, none⟩ = some (.string xn) ∧ w'.cell? ⟨w11.heap.size, 1, none⟩ = some (.int .i64 xk) ∧ w'.cell? ⟨w11.heap.size, 2, none⟩ = some (.int .i64 xa) ∧ w'.cell? ⟨w11.heap.size, 3, none⟩ = some (.slice A6 xf.length c6) ∧ w'.cell? ⟨bx, ox + i * 4, none⟩ = some (.string xn) ∧ w'.cell? ⟨bx, ox + i * 4 + 1, none⟩ = some (.int .i64 xk) ∧ w'.cell? ⟨bx, ox + i * 4 + 2, none⟩ = some (.int .i64 xa) ∧ w'.cell? ⟨bx, ox + i * 4 + 3, none⟩ = some (.slice Af nf cf) ∧ w'.cell? ⟨w3.heap.size, 0, none⟩ = some (.slice (some ⟨bx, ox, none⟩) n5 cap5)) (by kernel_rfl) (by kernel_rfl) (by exact ⟨y0, y1, y2, y3, y4, y5, y6, y7, y8⟩) ?_
          repeat (first
            | (refine seq_take0 (v := ?_) ?_ (fun _ _ _ h => h) (by kernel_rfl) ?_ ?_; rotate_left; (focus rfl); (focus (intro w' hSw; (try dsimp only at hSw); go_simp; (try with_reducible rfl); done)); (try simp only [Act.put, List.setIfInBounds_toArray, List.set_cons_zero, List.set_cons_succ]))
            | (refine seq_takeG (v := ?_) (g := ?_) (d := ?_) (b := ?_) (u := ?_) ?_ ?_ ?_ ?_ (fun _ _ _ h => h) (by kernel_rfl) ?_ ?_; rotate_left 5; (focus rfl); (focus rfl); (focus rfl); (focus (first | rfl | (go_simp; done))); (focus (intro w' hSw; (try dsimp only at hSw); go_simp; (try with_reducible rfl); done)); (try simp only [Act.put, List.setIfInBounds_toArray, List.set_cons_zero, List.set_cons_succ]))
            | (refine seq_skipG (g := ?_) (d := ?_) (b := ?_) (u := ?_) ?_ ?_ ?_ ?_ (fun _ _ _ h => h) (by kernel_rfl) ?_; rotate_left 4; (focus rfl); (focus rfl); (focus rfl); (focus (first | rfl | (go_simp; done))); (try simp only [Act.put, List.setIfInBounds_toArray, List.set_cons_zero, List.set_cons_succ])))
          refine seq_op (by kernel_rfl) (by rfl) (fun K hK => ?_)
          go_simp
          refine (HCI.out _ ((Below.refl _ w12).drew)).mono ?_
          rintro e w13 ⟨rfl, hb13⟩
          have z0 := (hb13.cell (p := ⟨w11.heap.size, 0, none⟩) hryl).trans y0
          have z1 := (hb13.cell (p := ⟨w11.heap.size, 1, none⟩) hryl).trans y1
          have z2 := (hb13.cell (p := ⟨w11.heap.size, 2, none⟩) hryl).trans y2
          have z3 := (hb13.cell (p := ⟨w11.heap.size, 3, none⟩) hryl).trans y3
          have z4 := (hb13.cell (p := ⟨bx, ox + i * 4, none⟩) hlx).trans y4
          have z5 := (hb13.cell (p := ⟨bx, ox + i * 4 + 1, none⟩) hlx).trans y5
          have z6 := (hb13.cell (p := ⟨bx, ox + i * 4 + 2, none⟩) hlx).trans y6
          have z7 := (hb13.cell (p := ⟨bx, ox + i * 4 + 3, none⟩) hlx).trans y7
          have z8 := (hb13.cell (p := ⟨w3.heap.size, 0, none⟩) hl3).trans y8
          go_wp2_with fail
          refine hK.out _ _ ⟨z0, z1, z2, z3, z4, z5, z6, z7, z8⟩ ?_
          clear hK K
          repeat (first
            | (refine seq_take0 (v := ?_) ?_ (fun _ _ _ h => h) (by kernel_rfl) ?_ ?_; rotate_left; (focus rfl); (focus (intro w' hSw; (try dsimp only at hSw); go_simp; (try with_reducible rfl); done)); (try simp only [Act.put, List.setIfInBounds_toArray, List.set_cons_zero, List.set_cons_succ]))
            | (refine seq_takeG (v := ?_) (g := ?_) (d := ?_) (b := ?_) (u := ?_) ?_ ?_ ?_ ?_ (fun _ _ _ h => h) (by kernel_rfl) ?_ ?_; rotate_left 5; (focus rfl); (focus rfl); (focus rfl); (focus (first | rfl | (go_simp; done))); (focus (intro w' hSw; (try dsimp only at hSw); go_simp; (try with_reducible rfl); done)); (try simp only [Act.put, List.setIfInBounds_toArray, List.set_cons_zero, List.set_cons_succ]))
            | (refine seq_skipG (g := ?_) (d := ?_) (b := ?_) (u := ?_) ?_ ?_ ?_ ?_ (fun _ _ _ h => h) (by kernel_rfl) ?_; rotate_left 4; (focus rfl); (focus rfl); (focus rfl); (focus (first | rfl | (go_simp; done))); (try simp only [Act.put, List.setIfInBounds_toArray, List.set_cons_zero, List.set_cons_succ])))
          refine seq_done (by kernel_rfl) ?_
          refine NoPanic.normal ?_
          have HB13 : Hid (Below w11.heap.size w11 w13) := HB12.out.trans ((((Below.refl _ w12).drew).trans hb13).mono HB12.out.size)
          have c13 : w13.cell? ⟨w3.heap.size, 0, none⟩ = some (.slice (some ⟨bx, ox, none⟩) n5 cap5) := (HB13.out.cell (p := ⟨_, _, none⟩) HB8'.out.lt).trans HB8'.out.cell
          clear z0 z1 z2 z3 z4 z5 z6 z7 z8 hb13 y0 y1 y2 y3 y4 y5 y6 y7 y8 hryl hi0 hi1 hi2 hl3 hlx hin5
          generalize hA5 : (some (⟨bx, ox, none⟩ : Addr)) = A5 at *
          clear hA5
        all_goals
          go_wp2_with fail
          obtain ⟨m0, hm0, hm1, hm8⟩ : ∃ m : Nat, (m : Int) = st % 8 + 1 ∧ 1 ≤ m ∧ m ≤ 8 := ⟨(st % 8 + 1).toNat, by omega, by omega, by omega⟩
          rw [← hm0]
          obtain ⟨w14, hw14⟩ : ∃ w14, w14 = w13.alloc (.cells #[.int .i64 m0, .int .i64 (n5 + 1)] 3) := ⟨_, rfl⟩
          have hg14 := heap_alloc_new w13 (.cells #[.int .i64 m0, .int .i64 (n5 + 1)] 3)
          have hb14 : Below w13.heap.size w13 w14 := by rw [hw14]; exact (Below.refl _ _).alloc (Nat.le_refl _) _
          rw [← hw14] at hg14 ⊢
          have h3d : Below w3.heap.size w3 w13 := H3B.out.trans (HB13.out.mono H3B.out.size)
          have H31 := Lib.hid (h3d.trans (hb14.mono h3d.size))
          have HG1 := Lib.hid hg14
          have HC81 : Hid (w14.cell? ⟨w3.heap.size, 0, none⟩ = _) := (hb14.cell (p := ⟨_, _, none⟩) (World.block_lt_of_cell? w13 _ c13)).trans c13
          have HB8S1 : Hid (w3.heap.size < w14.heap.size) := World.block_lt_of_cell? w14 _ HC81.out
          have hsm : ∀ x ∈ acc, x.frm.length ≤ 1000 ∧ ∀ c ∈ x.frm, c.length ≤ 1000 := fun x hx => ⟨by have := (HOK.out.small x hx).frm; omega, fun c hc => by have := (HOK.out.small x hx).cs c hc; omega⟩
          have HM0E := Lib.hid hm0
          clear hw14 hg14 hb14 h3d c13 hm0
          refine wp_loop_rounds 3 ?_
          rw [rounds_succ]
          have cm1 : w14.cell? ⟨w13.heap.size, 0, none⟩ = some (.int .i64 (m0 : Int)) := cell_of_row w14 _ 0 _ _ _ HG1.out
          go_wp2_with fail
          refine (all_any _ _ ⟨_, rfl⟩).mono ?_
          rintro e wl1 ⟨rfl, hwl1⟩
          have hq1 : wl1 = ((w14.alloc (.cells #[.int .i64 (m0 : Int)] 3)).alloc (.cells #[.int .i64 0] 3)).alloc (.cells #[.pointer (some ⟨bb, 0, none⟩)] 49) := hwl1.symm
          have hbl1 : Below w14.heap.size w14 wl1 := by rw [hq1]; exact (((Below.refl _ _).alloc (Nat.le_refl _) _).alloc (by simp) _).alloc (by simp; omega) _
          have hsl1 : wl1.heap.size = w14.heap.size + 3 := by rw [hq1]; simp
          have hn0 : Boxed wl1 (w14.heap.size + 1) 3 (.int .i64 ((0 : Nat) : Int)) := by
            rw [hq1]
            have h2 := Boxed.new (w14.alloc (.cells #[.int .i64 (m0 : Int)] 3)) 3 (.int .i64 0)
            rw [World.size_alloc] at h2
            exact h2.alloc _
          have hm0' : Boxed wl1 w14.heap.size 3 (.int .i64 (m0 : Int)) := by
            rw [hq1]
            exact ((Boxed.new w14 3 _).alloc _).alloc _
          have hp0 : wl1.cell? ⟨w14.heap.size + 1 + 1, 0, none⟩ = some (.pointer (some ⟨bb, 0, none⟩)) := by
            rw [hq1]
            have := Boxed.cell (Boxed.new ((w14.alloc (.cells #[.int .i64 (m0 : Int)] 3)).alloc (.cells #[.int .i64 0] 3)) 49 (.pointer (some ⟨bb, 0, none⟩)))
            simpa using this
          have HM0 := Lib.hid hm0'
          have HBL := Lib.hid hbl1
          have h3l : Below w3.heap.size w3 wl1 := H31.out.trans (hbl1.mono H31.out.size)
          have H3L := Lib.hid h3l
          have HSL := Lib.hid hsl1
          have hI0 : CntI wl1 (w14.heap.size + 1) m0 [] wl1 := ⟨hn0, by show (0 : Nat) < _; omega, Below.refl _ _⟩
          have hs3l : w3.heap.size < w14.heap.size := by have := (H31.out.block w3.heap.size); have := HB8S1.out; omega
          clear hwl1 hq1 cm1 hm0' h3l
          go_wp2_with fail
          refine wp_all_break (tb := 22) (p := .pointer (some ⟨bb, 0, none⟩)) (w0 := w14) rfl (HBK.out.below H31.out) hsm hlen2 hbl1 (by rw [hsl1]; omega) hp0 (CntI wl1 (w14.heap.size + 1) m0) (CntX wl1 (w14.heap.size + 1) m0) (cntI_own _ _ _ _ (by rw [hsl1]; omega) (by rw [hsl1]; omega)) (cntX_own _ _ _ _ (by rw [hsl1]; omega) (by rw [hsl1]; omega)) hI0 ?_ ?_ ?_
          · intro l x A n cp W K hK
            simp only [itemCells] at hK ⊢
            gi_wp2
            simpa using hK
          · intro l k x A6 n6 c6 Bx W0 W hx hi0 hck hi hrd hBx hBxs
            obtain ⟨hnb, hlt, hbel⟩ := hi
            have hkx := (List.getElem?_eq_some_iff.1 hx).1
            have hkl : (acc.take k).length = k := by rw [List.length_take]; omega
            have hkl1 : (acc.take (k + 1)).length = k + 1 := by rw [List.length_take]; omega
            rw [hkl] at hnb hlt
            have hkn : k < n5 := by have := HN5.out; omega
            obtain ⟨bq, oq, y, fy, hA, ⟨_, hbq⟩, hy, x0, x1, x2, x3, hfy⟩ := HC5.out k hkn
            rw [hx] at hy
            obtain rfl := Option.some.inj hy
            obtain ⟨Af, nf, cf, rfl⟩ := hfy.isSlice
            have h3W : Below w3.heap.size w3 W := H3L.out.trans (hbel.mono (by omega))
            have d0 := (h3W.cell (p := ⟨bq, _, none⟩) hbq).trans x0
            have d1 := (h3W.cell (p := ⟨bq, _, none⟩) hbq).trans x1
            have d2 := (h3W.cell (p := ⟨bq, _, none⟩) hbq).trans x2
            have d3 := (h3W.cell (p := ⟨bq, _, none⟩) hbq).trans x3
            have d8 : W.cell? ⟨w3.heap.size, 0, none⟩ = some (.slice A5 n5 cap5) := (hbel.cell (p := ⟨_, _, none⟩) (by show w3.heap.size < _; omega)).trans (((HBL.out.cell (p := ⟨_, _, none⟩) hs3l)).trans HC81.out)
            have dn := hnb.cell
            have dm : W.cell? ⟨w14.heap.size, 0, none⟩ = some (.int .i64 (m0 : Int)) := cell_of_row W _ 0 _ _ _ ((hbel.block _ (by omega)).trans HM0.out)
            have HRX := Lib.hid hrd
            have HRF := Lib.hid (hfy.below h3W)
            have HNX := Lib.hid hnb
            have hBxl := (Array.getElem?_eq_some_iff.1 hBx).1
            have hnbl := hnb.lt
            have hbqW : bq < W.heap.size := by have := h3W.size; omega
            have hs3W : w3.heap.size < W.heap.size := by have := hck.size; omega
            have hmbl : w14.heap.size < W.heap.size := by omega
            obtain ⟨xn, xk, xa, xf⟩ := x
            simp only [itemCells] at hBx d0 d1 d2 d3 HRX HRF
            simp only [itemCells, List.setIfInBounds_toArray, List.set_cons_zero, List.set_cons_succ]
            have e0 : W.cell? ⟨Bx, 0, none⟩ = some (.string xn) := cell_of_row W _ 0 _ _ _ hBx
            have e1 : W.cell? ⟨Bx, 1, none⟩ = some (.int .i64 xk) := cell_of_row W _ 1 _ _ _ hBx
            have e2 : W.cell? ⟨Bx, 2, none⟩ = some (.int .i64 xa) := cell_of_row W _ 2 _ _ _ hBx
            have e3 : W.cell? ⟨Bx, 3, none⟩ = some (.slice A6 n6 c6) := cell_of_row W _ 3 _ _ _ hBx
            have HCI2 : Hid (∀ u, Below W.heap.size W u → Calls Try.prog 26 #[.agg #[.string xn, .int .i64 xk, .int .i64 xa, .slice A6 n6 c6], .agg #[.string xn, .int .i64 xk, .int .i64 xa, .slice Af nf cf]] u fun e w' => e = .returned (.bool true) ∧ Below u.heap.size u w') := fun u hu => isItem_any ⟨xn, xk, xa, xf⟩ (.slice A6 n6 c6) (.slice Af nf cf) _ _ u (HRX.out.below hu) (HRF.out.below hu)
            have hk0 : (0 : Int) ≤ (k : Int) := by omega
            have hki : (k : Int) < (n5 : Int) := by omega
            have hki2 : ¬ (n5 ≤ k) := by omega
            have hki3 : decide (n5 ≤ k) = false := by simp; omega
            have hk64 : (k : Int) ≤ 1024 := by omega
            have HBEL := Lib.hid hbel
            have HKL := Lib.hid hkl1
            have HLT := Lib.hid hlt
            have HBXS := Lib.hid hBxs
            have HCK := Lib.hid hck.size
            clear x0 x1 x2 x3 hfy h3W hnb hBx hbel hi0 hck hrd hkl hkl1 hx hy
            cases hA
            gi_wp2
            refine seqIn_start (S := fun w' => w'.cell? ⟨w14.heap.size + 1, 0, none⟩ = some (.int .i64 (k : Nat)) ∧ w'.cell? ⟨w3.heap.size, 0, none⟩ = some (.slice (some ⟨bq, oq, none⟩) n5 cap5) ∧ w'.cell? ⟨Bx, 0, none⟩ = some (.string xn) ∧ w'.cell? ⟨Bx, 1, none⟩ = some (.int .i64 xk) ∧ w'.cell? ⟨Bx, 2, none⟩ = some (.int .i64 xa) ∧ w'.cell? ⟨Bx, 3, none⟩ = some (.slice A6 n6 c6) ∧ w'.cell? ⟨bq, oq + k * 4, none⟩ = some (.string xn) ∧ w'.cell? ⟨bq, oq + k * 4 + 1, none⟩ = some (.int .i64 xk) ∧ w'.cell? ⟨bq, oq + k * 4 + 2, none⟩ = some (.int .i64 xa) ∧ w'.cell? ⟨bq, oq + k * 4 + 3, none⟩ = some (.slice Af nf cf)) (by kernel_rfl) (fun _ => trivial) (by kernel_rfl) (by exact ⟨dn, d8, e0, e1, e2, e3, d0, d1, d2, d3⟩) ?_
            repeat (first
              | (refine seqIn_take0 (v := ?_) ?_ (fun _ _ _ h => h) (by kernel_rfl) ?_ ?_; rotate_left; (focus rfl); (focus (intro w' hSw; (try dsimp only at hSw); go_simp; (try with_reducible rfl); done)); (try simp only [Act.put, List.setIfInBounds_toArray, List.set_cons_zero, List.set_cons_succ]))
              | (refine seqIn_takeG (v := ?_) (g := ?_) (d := ?_) (b := ?_) (u := ?_) ?_ ?_ ?_ ?_ (fun _ _ _ h => h) (by kernel_rfl) ?_ ?_; rotate_left 5; (focus rfl); (focus rfl); (focus rfl); (focus (first | rfl | (go_simp; done))); (focus (intro w' hSw; (try dsimp only at hSw); go_simp; (try with_reducible rfl); done)); (try simp only [Act.put, List.setIfInBounds_toArray, List.set_cons_zero, List.set_cons_succ]))
              | (refine seqIn_skipG (g := ?_) (d := ?_) (b := ?_) (u := ?_) ?_ ?_ ?_ ?_ (fun _ _ _ h => h) (by kernel_rfl) ?_; rotate_left 4; (focus rfl); (focus rfl); (focus rfl); (focus (first | rfl | (go_simp; done))); (try simp only [Act.put, List.setIfInBounds_toArray, List.set_cons_zero, List.set_cons_succ])))
            refine seqIn_op (by kernel_rfl) (by rfl) (fun K hK => ?_)
            go_simp
            refine ⟨trivial, CallsIn.inRound l (callsIn_wide.2 ((HCI2.out _ ((Below.refl _ W).drew)).mono ?_))⟩
            rintro e w17 ⟨rfl, hb17⟩
            have hbw : Below W.heap.size W w17 := ((Below.refl _ W).drew).trans hb17
            have h17 : ∀ {b o : Nat}, b < W.heap.size → w17.cell? ⟨b, o, none⟩ = W.cell? ⟨b, o, none⟩ := fun h => hbw.cell (p := ⟨_, _, none⟩) h
            refine hK.out _ _ ⟨(h17 hnbl).trans dn, (h17 hs3W).trans d8, (h17 hBxl).trans e0, (h17 hBxl).trans e1, (h17 hBxl).trans e2, (h17 hBxl).trans e3, (h17 hbqW).trans d0, (h17 hbqW).trans d1, (h17 hbqW).trans d2, (h17 hbqW).trans d3⟩ ?_
            clear hK K
            repeat (first
              | (refine seqIn_take0 (v := ?_) ?_ (fun _ _ _ h => h) (by kernel_rfl) ?_ ?_; rotate_left; (focus rfl); (focus (intro w' hSw; (try dsimp only at hSw); go_simp; (try with_reducible rfl); done)); (try simp only [Act.put, List.setIfInBounds_toArray, List.set_cons_zero, List.set_cons_succ]))
              | (refine seqIn_takeG (v := ?_) (g := ?_) (d := ?_) (b := ?_) (u := ?_) ?_ ?_ ?_ ?_ (fun _ _ _ h => h) (by kernel_rfl) ?_ ?_; rotate_left 5; (focus rfl); (focus rfl); (focus rfl); (focus (first | rfl | (go_simp; done))); (focus (intro w' hSw; (try dsimp only at hSw); go_simp; (try with_reducible rfl); done)); (try simp only [Act.put, List.setIfInBounds_toArray, List.set_cons_zero, List.set_cons_succ]))
              | (refine seqIn_skipG (g := ?_) (d := ?_) (b := ?_) (u := ?_) ?_ ?_ ?_ ?_ (fun _ _ _ h => h) (by kernel_rfl) ?_; rotate_left 4; (focus rfl); (focus rfl); (focus rfl); (focus (first | rfl | (go_simp; done))); (try simp only [Act.put, List.setIfInBounds_toArray, List.set_cons_zero, List.set_cons_succ])))
            refine seqIn_done (by kernel_rfl) ?_
            have hn17 : Boxed w17 (w14.heap.size + 1) 3 (.int .i64 ((k : Nat) : Int)) := (hbw.block _ hnbl).trans HNX.out
            have g0 := hn17.cell
            have g1 := hn17.frozen
            have gm : w17.cell? ⟨w14.heap.size, 0, none⟩ = some (.int .i64 (m0 : Int)) := (h17 hmbl).trans dm
            have hnm1 : w14.heap.size ≠ w14.heap.size + 1 := by omega
            have hnm2 : w14.heap.size + 1 ≠ w14.heap.size := by omega
            have HFIN : Hid (∀ v, KeepsFrom wl1.heap.size W (w17.setCell ⟨w14.heap.size + 1, 0, none⟩ v) ∧ Below w14.heap.size W (w17.setCell ⟨w14.heap.size + 1, 0, none⟩ v) ∧ Boxed (w17.setCell ⟨w14.heap.size + 1, 0, none⟩ v) (w14.heap.size + 1) 3 v ∧ Below (w14.heap.size + 1) wl1 (w17.setCell ⟨w14.heap.size + 1, 0, none⟩ v)) := fun v => by
              have hsz := HSL.out
              have hw17 := hbw.size
              refine ⟨⟨by show W.heap.size ≤ (w17.heap.modify _ _).size; simp; omega, fun q o hq ho _ => (Below.heap_setCell _ _ _ _ (by show q ≠ w14.heap.size + 1; omega)).trans ((hbw.block q (Array.getElem?_eq_some_iff.1 ho).1).trans ho)⟩, (hbw.mono (by omega)).setCell (p := ⟨w14.heap.size + 1, 0, none⟩) (Nat.le_succ _) v, hn17.set v, (HBEL.out.trans (hbw.mono (by omega))).setCell (p := ⟨w14.heap.size + 1, 0, none⟩) (Nat.le_refl _) v⟩
            clear hb17 hbw h17 hn17 d0 d1 d2 d3 d8 dn dm e0 e1 e2 e3 hnbl hBxl hbqW hs3W hmbl
            have htest : (((k : Int) + 1 == (m0 : Int)) = true ∧ k + 1 = m0) ∨ (((k : Int) + 1 == (m0 : Int)) = false ∧ k + 1 < m0) := by
              have := HLT.out
              by_cases h : k + 1 = m0
              · exact .inl ⟨beq_iff_eq.2 (by omega), h⟩
              · exact .inr ⟨beq_eq_false_iff_ne.2 (by omega), by omega⟩
            rcases htest with ⟨ht, hkm⟩ | ⟨ht, hkm⟩
            · have HKM := Lib.hid hkm
              clear hkm
              gi_wp2
              obtain ⟨f1, f2, f3, f4⟩ := HFIN.out (.int .i64 ((k : Int) + 1))
              exact ⟨f1, rfl, by rw [HKL.out]; exact f3, by rw [HKL.out]; exact HKM.out, f4⟩
            · have HKM := Lib.hid hkm
              clear hkm
              gi_wp2
              obtain ⟨f1, f2, f3, f4⟩ := HFIN.out (.int .i64 ((k : Int) + 1))
              exact ⟨f1, f2, by rw [HKL.out]; exact f3, by rw [HKL.out]; exact HKM.out, f4⟩
          · intro D1 w20 hD hend hK
            obtain ⟨hnb, hbel⟩ := cnt_end hend
            rw [HN5.out] at hnb
            have dn := hnb.cell
            have d8 : w20.cell? ⟨w3.heap.size, 0, none⟩ = some (.slice A5 n5 cap5) := (hbel.cell (p := ⟨_, _, none⟩) (by show w3.heap.size < _; omega)).trans (((HBL.out.cell (p := ⟨_, _, none⟩) hs3l)).trans HC81.out)
            have dm : w20.cell? ⟨w14.heap.size, 0, none⟩ = some (.int .i64 (m0 : Int)) := cell_of_row w20 _ 0 _ _ _ ((hbel.block _ (by omega)).trans HM0.out)
            have HC82 := Lib.hid d8
            have HB8S2 : Hid (w3.heap.size < w20.heap.size) := World.block_lt_of_cell? w20 _ d8
            have H32 : Hid (Below w3.heap.size w3 w20) := H3L.out.trans (hbel.mono (by omega))
            have HNB2 := Lib.hid hnb.lt
            have HK1 := Lib.hid hK
            have HD1 := Lib.hid hD
            have HDL1 := Lib.hid (Array.getElem?_eq_some_iff.1 hK).1
            have hg13 : w13.heap.size < w14.heap.size := (Array.getElem?_eq_some_iff.1 HG1.out).1
            have HG2 : Hid (w20.heap[w13.heap.size]? = _) := (hbel.block _ (by omega)).trans ((HBL.out.block _ hg13).trans HG1.out)
            have HS14 : Hid (w14.heap.size + 3 = wl1.heap.size) := hsl1.symm
            have hcase : (min m0 n5 = n5 ∧ n5 < m0) ∨ (min m0 n5 = m0 ∧ m0 ≤ n5) := by omega
            clear hnb hbel hK hend hD HM0 HBL H3L HSL hbl1 hsl1 hn0 hp0 hI0 hs3l hg13
            rcases hcase with ⟨he, hlm⟩ | ⟨he, hlm⟩
            all_goals
              rw [he] at dn
              clear he
              go_wp2_with fail
              clear dn d8 dm
              rw [rounds_succ]
              have cm2 : w20.cell? ⟨w13.heap.size, 1, none⟩ = some (.int .i64 ((n5 : Int) + 1)) := cell_of_row w20 _ 1 _ _ _ HG2.out
              go_wp2_with fail
              refine (all_any _ _ ⟨_, rfl⟩).mono ?_
              rintro e wl2 ⟨rfl, hwl2⟩
              have hq2 : wl2 = ((w20.alloc (.cells #[.int .i64 ((n5 : Int) + 1)] 3)).alloc (.cells #[.int .i64 0] 3)).alloc (.cells #[.pointer (some ⟨bb, 0, none⟩)] 49) := hwl2.symm
              have hbl2 : Below w20.heap.size w20 wl2 := by rw [hq2]; exact (((Below.refl _ _).alloc (Nat.le_refl _) _).alloc (by simp) _).alloc (by simp; omega) _
              have hsl2 : wl2.heap.size = w20.heap.size + 3 := by rw [hq2]; simp
              have hn0 : Boxed wl2 (w20.heap.size + 1) 3 (.int .i64 ((0 : Nat) : Int)) := by
                rw [hq2]
                have h2 := Boxed.new (w20.alloc (.cells #[.int .i64 ((n5 : Int) + 1)] 3)) 3 (.int .i64 0)
                rw [World.size_alloc] at h2
                exact h2.alloc _
              have hm0' : Boxed wl2 w20.heap.size 3 (.int .i64 ((n5 : Int) + 1)) := by
                rw [hq2]
                exact ((Boxed.new w20 3 _).alloc _).alloc _
              have hp0 : wl2.cell? ⟨w20.heap.size + 1 + 1, 0, none⟩ = some (.pointer (some ⟨bb, 0, none⟩)) := by
                rw [hq2]
                have := Boxed.cell (Boxed.new ((w20.alloc (.cells #[.int .i64 ((n5 : Int) + 1)] 3)).alloc (.cells #[.int .i64 0] 3)) 49 (.pointer (some ⟨bb, 0, none⟩)))
                simpa using this
              have HM0 := Lib.hid hm0'
              have HBL := Lib.hid hbl2
              have h3l : Below w3.heap.size w3 wl2 := H32.out.trans (hbl2.mono H32.out.size)
              have H3L := Lib.hid h3l
              have HSL := Lib.hid hsl2
              have hI0 : CntI wl2 (w20.heap.size + 1) (n5 + 1) [] wl2 := ⟨hn0, by show (0 : Nat) < _; omega, Below.refl _ _⟩
              have hs3l : w3.heap.size < w20.heap.size := by have := (H32.out.block w3.heap.size); have := HB8S2.out; omega
              clear hwl2 hq2 cm2 hm0' h3l
              go_wp2_with fail
              refine wp_all_break (tb := 22) (p := .pointer (some ⟨bb, 0, none⟩)) (w0 := w20) rfl (HBK.out.below H32.out) hsm hlen2 hbl2 (by rw [hsl2]; omega) hp0 (CntI wl2 (w20.heap.size + 1) (n5 + 1)) (CntX wl2 (w20.heap.size + 1) (n5 + 1)) (cntI_own _ _ _ _ (by rw [hsl2]; omega) (by rw [hsl2]; omega)) (cntX_own _ _ _ _ (by rw [hsl2]; omega) (by rw [hsl2]; omega)) hI0 ?_ ?_ ?_
              · intro l x A n cp W K hK
                simp only [itemCells] at hK ⊢
                gi_wp2
                simpa using hK
              · intro l k x A6 n6 c6 Bx W0 W hx hi0 hck hi hrd hBx hBxs
                obtain ⟨hnb, hlt, hbel⟩ := hi
                have hkx := (List.getElem?_eq_some_iff.1 hx).1
                have hkl : (acc.take k).length = k := by rw [List.length_take]; omega
                have hkl1 : (acc.take (k + 1)).length = k + 1 := by rw [List.length_take]; omega
                rw [hkl] at hnb hlt
                have hkn : k < n5 := by have := HN5.out; omega
                obtain ⟨bq, oq, y, fy, hA, ⟨_, hbq⟩, hy, x0, x1, x2, x3, hfy⟩ := HC5.out k hkn
                rw [hx] at hy
                obtain rfl := Option.some.inj hy
                obtain ⟨Af, nf, cf, rfl⟩ := hfy.isSlice
                have h3W : Below w3.heap.size w3 W := H3L.out.trans (hbel.mono (by omega))
                have d0 := (h3W.cell (p := ⟨bq, _, none⟩) hbq).trans x0
                have d1 := (h3W.cell (p := ⟨bq, _, none⟩) hbq).trans x1
                have d2 := (h3W.cell (p := ⟨bq, _, none⟩) hbq).trans x2
                have d3 := (h3W.cell (p := ⟨bq, _, none⟩) hbq).trans x3
                have d8 : W.cell? ⟨w3.heap.size, 0, none⟩ = some (.slice A5 n5 cap5) := (hbel.cell (p := ⟨_, _, none⟩) (by show w3.heap.size < _; omega)).trans (((HBL.out.cell (p := ⟨_, _, none⟩) hs3l)).trans HC82.out)
                have dn := hnb.cell
                have dm : W.cell? ⟨w20.heap.size, 0, none⟩ = some (.int .i64 ((n5 : Int) + 1)) := cell_of_row W _ 0 _ _ _ ((hbel.block _ (by omega)).trans HM0.out)
                have HRX := Lib.hid hrd
                have HRF := Lib.hid (hfy.below h3W)
                have HNX := Lib.hid hnb
                have hBxl := (Array.getElem?_eq_some_iff.1 hBx).1
                have hnbl := hnb.lt
                have hbqW : bq < W.heap.size := by have := h3W.size; omega
                have hs3W : w3.heap.size < W.heap.size := by have := hck.size; omega
                have hmbl : w20.heap.size < W.heap.size := by omega
                obtain ⟨xn, xk, xa, xf⟩ := x
                simp only [itemCells] at hBx d0 d1 d2 d3 HRX HRF
                simp only [itemCells, List.setIfInBounds_toArray, List.set_cons_zero, List.set_cons_succ]
                have e0 : W.cell? ⟨Bx, 0, none⟩ = some (.string xn) := cell_of_row W _ 0 _ _ _ hBx
                have e1 : W.cell? ⟨Bx, 1, none⟩ = some (.int .i64 xk) := cell_of_row W _ 1 _ _ _ hBx
                have e2 : W.cell? ⟨Bx, 2, none⟩ = some (.int .i64 xa) := cell_of_row W _ 2 _ _ _ hBx
                have e3 : W.cell? ⟨Bx, 3, none⟩ = some (.slice A6 n6 c6) := cell_of_row W _ 3 _ _ _ hBx
                have HCI2 : Hid (∀ u, Below W.heap.size W u → Calls Try.prog 26 #[.agg #[.string xn, .int .i64 xk, .int .i64 xa, .slice A6 n6 c6], .agg #[.string xn, .int .i64 xk, .int .i64 xa, .slice Af nf cf]] u fun e w' => e = .returned (.bool true) ∧ Below u.heap.size u w') := fun u hu => isItem_any ⟨xn, xk, xa, xf⟩ (.slice A6 n6 c6) (.slice Af nf cf) _ _ u (HRX.out.below hu) (HRF.out.below hu)
                have hk0 : (0 : Int) ≤ (k : Int) := by omega
                have hki : (k : Int) < (n5 : Int) := by omega
                have hki2 : ¬ (n5 ≤ k) := by omega
                have hki3 : decide (n5 ≤ k) = false := by simp; omega
                have hk64 : (k : Int) ≤ 1024 := by omega
                have HBEL := Lib.hid hbel
                have HKL := Lib.hid hkl1
                have HLT := Lib.hid hlt
                have HBXS := Lib.hid hBxs
                have HCK := Lib.hid hck.size
                clear x0 x1 x2 x3 hfy h3W hnb hBx hbel hi0 hck hrd hkl hkl1 hx hy
                cases hA
                gi_wp2
                refine seqIn_start (S := fun w' => w'.cell? ⟨w20.heap.size + 1, 0, none⟩ = some (.int .i64 (k : Nat)) ∧ w'.cell? ⟨w3.heap.size, 0, none⟩ = some (.slice (some ⟨bq, oq, none⟩) n5 cap5) ∧ w'.cell? ⟨Bx, 0, none⟩ = some (.string xn) ∧ w'.cell? ⟨Bx, 1, none⟩ = some (.int .i64 xk) ∧ w'.cell? ⟨Bx, 2, none⟩ = some (.int .i64 xa) ∧ w'.cell? ⟨Bx, 3, none⟩ = some (.slice A6 n6 c6) ∧ w'.cell? ⟨bq, oq + k * 4, none⟩ = some (.string xn) ∧ w'.cell? ⟨bq, oq + k * 4 + 1, none⟩ = some (.int .i64 xk) ∧ w'.cell? ⟨bq, oq + k * 4 + 2, none⟩ = some (.int .i64 xa) ∧ w'.cell? ⟨bq, oq + k * 4 + 3, none⟩ = some (.slice Af nf cf)) (by kernel_rfl) (fun _ => trivial) (by kernel_rfl) (by exact ⟨dn, d8, e0, e1, e2, e3, d0, d1, d2, d3⟩) ?_
                repeat (first
                  | (refine seqIn_take0 (v := ?_) ?_ (fun _ _ _ h => h) (by kernel_rfl) ?_ ?_; rotate_left; (focus rfl); (focus (intro w' hSw; (try dsimp only at hSw); go_simp; (try with_reducible rfl); done)); (try simp only [Act.put, List.setIfInBounds_toArray, List.set_cons_zero, List.set_cons_succ]))
                  | (refine seqIn_takeG (v := ?_) (g := ?_) (d := ?_) (b := ?_) (u := ?_) ?_ ?_ ?_ ?_ (fun _ _ _ h => h) (by kernel_rfl) ?_ ?_; rotate_left 5; (focus rfl); (focus rfl); (focus rfl); (focus (first | rfl | (go_simp; done))); (focus (intro w' hSw; (try dsimp only at hSw); go_simp; (try with_reducible rfl); done)); (try simp only [Act.put, List.setIfInBounds_toArray, List.set_cons_zero, List.set_cons_succ]))
                  | (refine seqIn_skipG (g := ?_) (d := ?_) (b := ?_) (u := ?_) ?_ ?_ ?_ ?_ (fun _ _ _ h => h) (by kernel_rfl) ?_; rotate_left 4; (focus rfl); (focus rfl); (focus rfl); (focus (first | rfl | (go_simp; done))); (try simp only [Act.put, List.setIfInBounds_toArray, List.set_cons_zero, List.set_cons_succ])))
                refine seqIn_op (by kernel_rfl) (by rfl) (fun K hK => ?_)
                go_simp
                refine ⟨trivial, CallsIn.inRound l (callsIn_wide.2 ((HCI2.out _ ((Below.refl _ W).drew)).mono ?_))⟩
                rintro e w17 ⟨rfl, hb17⟩
                have hbw : Below W.heap.size W w17 := ((Below.refl _ W).drew).trans hb17
                have h17 : ∀ {b o : Nat}, b < W.heap.size → w17.cell? ⟨b, o, none⟩ = W.cell? ⟨b, o, none⟩ := fun h => hbw.cell (p := ⟨_, _, none⟩) h
                refine hK.out _ _ ⟨(h17 hnbl).trans dn, (h17 hs3W).trans d8, (h17 hBxl).trans e0, (h17 hBxl).trans e1, (h17 hBxl).trans e2, (h17 hBxl).trans e3, (h17 hbqW).trans d0, (h17 hbqW).trans d1, (h17 hbqW).trans d2, (h17 hbqW).trans d3⟩ ?_
                clear hK K
                repeat (first
                  | (refine seqIn_take0 (v := ?_) ?_ (fun _ _ _ h => h) (by kernel_rfl) ?_ ?_; rotate_left; (focus rfl); (focus (intro w' hSw; (try dsimp only at hSw); go_simp; (try with_reducible rfl); done)); (try simp only [Act.put, List.setIfInBounds_toArray, List.set_cons_zero, List.set_cons_succ]))
                  | (refine seqIn_takeG (v := ?_) (g := ?_) (d := ?_) (b := ?_) (u := ?_) ?_ ?_ ?_ ?_ (fun _ _ _ h => h) (by kernel_rfl) ?_ ?_; rotate_left 5; (focus rfl); (focus rfl); (focus rfl); (focus (first | rfl | (go_simp; done))); (focus (intro w' hSw; (try dsimp only at hSw); go_simp; (try with_reducible rfl); done)); (try simp only [Act.put, List.setIfInBounds_toArray, List.set_cons_zero, List.set_cons_succ]))
                  | (refine seqIn_skipG (g := ?_) (d := ?_) (b := ?_) (u := ?_) ?_ ?_ ?_ ?_ (fun _ _ _ h => h) (by kernel_rfl) ?_; rotate_left 4; (focus rfl); (focus rfl); (focus rfl); (focus (first | rfl | (go_simp; done))); (try simp only [Act.put, List.setIfInBounds_toArray, List.set_cons_zero, List.set_cons_succ])))
                refine seqIn_done (by kernel_rfl) ?_
                have hn17 : Boxed w17 (w20.heap.size + 1) 3 (.int .i64 ((k : Nat) : Int)) := (hbw.block _ hnbl).trans HNX.out
                have g0 := hn17.cell
                have g1 := hn17.frozen
                have gm : w17.cell? ⟨w20.heap.size, 0, none⟩ = some (.int .i64 ((n5 : Int) + 1)) := (h17 hmbl).trans dm
                have hnm1 : w20.heap.size ≠ w20.heap.size + 1 := by omega
                have hnm2 : w20.heap.size + 1 ≠ w20.heap.size := by omega
                have HFIN : Hid (∀ v, KeepsFrom wl2.heap.size W (w17.setCell ⟨w20.heap.size + 1, 0, none⟩ v) ∧ Below w20.heap.size W (w17.setCell ⟨w20.heap.size + 1, 0, none⟩ v) ∧ Boxed (w17.setCell ⟨w20.heap.size + 1, 0, none⟩ v) (w20.heap.size + 1) 3 v ∧ Below (w20.heap.size + 1) wl2 (w17.setCell ⟨w20.heap.size + 1, 0, none⟩ v)) := fun v => by
                  have hsz := HSL.out
                  have hw17 := hbw.size
                  refine ⟨⟨by show W.heap.size ≤ (w17.heap.modify _ _).size; simp; omega, fun q o hq ho _ => (Below.heap_setCell _ _ _ _ (by show q ≠ w20.heap.size + 1; omega)).trans ((hbw.block q (Array.getElem?_eq_some_iff.1 ho).1).trans ho)⟩, (hbw.mono (by omega)).setCell (p := ⟨w20.heap.size + 1, 0, none⟩) (Nat.le_succ _) v, hn17.set v, (HBEL.out.trans (hbw.mono (by omega))).setCell (p := ⟨w20.heap.size + 1, 0, none⟩) (Nat.le_refl _) v⟩
                clear hb17 hbw h17 hn17 d0 d1 d2 d3 d8 dn dm e0 e1 e2 e3 hnbl hBxl hbqW hs3W hmbl
                have htest : (((k : Int) + 1 == ((n5 : Int) + 1)) = true ∧ k + 1 = (n5 + 1)) ∨ (((k : Int) + 1 == ((n5 : Int) + 1)) = false ∧ k + 1 < (n5 + 1)) := by
                  have := HLT.out
                  by_cases h : k + 1 = (n5 + 1)
                  · exact .inl ⟨beq_iff_eq.2 (by omega), h⟩
                  · exact .inr ⟨beq_eq_false_iff_ne.2 (by omega), by omega⟩
                rcases htest with ⟨ht, hkm⟩ | ⟨ht, hkm⟩
                · have HKM := Lib.hid hkm
                  clear hkm
                  gi_wp2
                  obtain ⟨f1, f2, f3, f4⟩ := HFIN.out (.int .i64 ((k : Int) + 1))
                  exact ⟨f1, rfl, by rw [HKL.out]; exact f3, by rw [HKL.out]; exact HKM.out, f4⟩
                · have HKM := Lib.hid hkm
                  clear hkm
                  gi_wp2
                  obtain ⟨f1, f2, f3, f4⟩ := HFIN.out (.int .i64 ((k : Int) + 1))
                  exact ⟨f1, f2, by rw [HKL.out]; exact f3, by rw [HKL.out]; exact HKM.out, f4⟩
              · intro D2 w30 hD hend hK
                obtain ⟨hnb, hbel⟩ := cnt_end hend
                rw [HN5.out] at hnb
                have dn := hnb.cell
                have d8 : w30.cell? ⟨w3.heap.size, 0, none⟩ = some (.slice A5 n5 cap5) := (hbel.cell (p := ⟨_, _, none⟩) (by show w3.heap.size < _; omega)).trans (((HBL.out.cell (p := ⟨_, _, none⟩) hs3l)).trans HC82.out)
                have dm : w30.cell? ⟨w20.heap.size, 0, none⟩ = some (.int .i64 ((n5 : Int) + 1)) := cell_of_row w30 _ 0 _ _ _ ((hbel.block _ (by omega)).trans HM0.out)
                have HC83 := Lib.hid d8
                have HB8S3 : Hid (w3.heap.size < w30.heap.size) := World.block_lt_of_cell? w30 _ d8
                have H33 : Hid (Below w3.heap.size w3 w30) := H3L.out.trans (hbel.mono (by omega))
                have HNB3 := Lib.hid hnb.lt
                have HK2 := Lib.hid hK
                have HD2 := Lib.hid hD
                have HDL2 := Lib.hid (Array.getElem?_eq_some_iff.1 hK).1
                have HK1' : Hid (w30.heap[D1]? = some (.deferred (some []))) := (hbel.block _ (by have := HDL1.out; omega)).trans ((HBL.out.block _ HDL1.out).trans HK1.out)
                have HSZ : Hid (D1 ≠ D2) := by have := HDL1.out; show D1 ≠ D2; omega
                have hmin : min (n5 + 1) n5 = n5 := by omega
                rw [hmin] at dn
                have HS20 : Hid (w20.heap.size + 3 = wl2.heap.size) := hsl2.symm
                clear hnb hbel hK hend hD HM0 HBL H3L HSL hbl2 hsl2 hn0 hp0 hI0 hs3l hmin
                go_wp2_with fail
                clear dn d8 dm
                rw [rounds_succ]
                go_wp2_with (go_at_call 16; refine (awake_any _).mono ?_; rintro e w31 ⟨rfl, hb31⟩; have hbe3 := H33.out.trans (hb31.mono H33.out.size); have hr3 : Boxed w31 w.heap.size 4 (.bool false) := (hbe3.block _ HR3.out.lt).trans HR3.out; have c3 := hr3.cell; have f3 := hr3.frozen; have HQ := Lib.hid ((hr3.set (.bool true)).cell); have HE := Lib.hid ((HB3.out.trans (hbe3.mono HB3.out.size)).setCell (p := ⟨w.heap.size, 0, none⟩) (Nat.le_refl _) (.bool true)); have HKA : Hid (w31.heap[D1]? = some (.deferred (some []))) := (hb31.block _ (Array.getElem?_eq_some_iff.1 HK1'.out).1).trans HK1'.out; have HKB : Hid (w31.heap[D2]? = some (.deferred (some []))) := (hb31.block _ (Array.getElem?_eq_some_iff.1 HK2.out).1).trans HK2.out; clear hb31 hr3 hbe3)
                have hR0 := HR3.out.lt
                have hD1 : w3.heap.size < D1 := by have := HD1.out; have := HS14.out; have := HB8S1.out; omega
                have hD2 : w3.heap.size < D2 := by have := HD2.out; have := HS20.out; have := HB8S2.out; omega
                refine leaveM2 ((Below.heap_setCell _ _ _ _ (by show D2 ≠ w.heap.size; omega)).trans HKB.out) ((Below.heap_setCell _ _ _ _ (by show D1 ≠ w.heap.size; omega)).trans HKA.out) HSZ.out HQ.out (by omega) (by omega) HE.out ?_ rfl
                intro W' hq
                simp [results, Try.results5, go_sem, hq]
end Go.Proofs.Ytlanephpmoajiaa
