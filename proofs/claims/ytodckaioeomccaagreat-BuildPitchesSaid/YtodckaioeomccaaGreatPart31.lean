/- The walk of build.Sequence. Plain: the best arrangement's noise is least, a bound is no more than it; few arrangements of at most 7 pitches. Walks of the reference's Pitched and Total, of Noise and Autocorrelation. Walks of the reference's Autocorrelation and Noise. Walks of the reference's Noise and Arrangements. -/
import Derived.Test.YtodckaioeomccaaGreatPart17
import Derived.Test.YtodckaioeomccaaGreatPart20
import Derived.Test.YtodckaioeomccaaGreatPart14
import Derived.Test.YtodckaioeomccaaGreatPart28
import Derived.Deep.LoopGhost
import Derived.StillTailTactics
namespace Go.Proofs.YtodckaioeomccaaGreat
open Go.RowKit Go.Shelf Go.Sort
set_option linter.unusedVariables false
set_option linter.unusedSimpArgs false
def arrAt (l : List Int) (k : Nat) : List Int := (Arr.arrL l.length l).getD k []
def arrN (l : List Int) : Nat := (Arr.arrL l.length l).length
def noiseL (l : List Int) : Int := Cyc.noise (atL l) l.length
def bestA (l : List Int) : Nat → List Int
 | 0 => arrAt l 0
 | k + 1 => if noiseL (arrAt l (k + 1)) < noiseL (bestA l k) then arrAt l (k + 1) else bestA l k
theorem sortL_asc (l : List Int) : Arr.Asc (sortL l) := by
 unfold Arr.Asc sortL
 have := List.pairwise_mergeSort (le := fun x y : Int => decide (x ≤ y)) (fun a b c h1 h2 => by simp at *; omega) (fun a b => by simp; omega) l
 exact this.imp fun h => by simpa using h
theorem sortL_perm (l : List Int) : (sortL l).Perm l := List.mergeSort_perm l _
theorem arr_zero {l : List Int} (hs : SmallP l) : arrAt l 0 = sortL l ∧ 0 < arrN l := by
 have h := Arr.arr_first (n := l.length) rfl hs (sortL_asc l) (sortL_perm l)
 exact ⟨by unfold arrAt; rw [List.getD_eq_getElem?_getD, h]; rfl, (List.getElem?_eq_some_iff.1 h).1⟩
theorem arr_at {l : List Int} {k : Nat} (hk : k < arrN l) : (Arr.arrL l.length l)[k]? = some (arrAt l k) := by
 unfold arrAt
 rw [List.getD_eq_getElem?_getD, List.getElem?_eq_getElem hk]
 rfl
theorem arr_perm {l : List Int} (hs : SmallP l) {k : Nat} (hk : k < arrN l) : (arrAt l k).Perm l := (Arr.arr_mem rfl hs).1 (List.mem_of_getElem? (arr_at hk))
theorem arr_next {l : List Int} (hs : SmallP l) {k : Nat} (hk : k < arrN l) : nextR (arrAt l k) = if k + 1 < arrN l then (true, arrAt l (k + 1)) else (false, arrAt l k) := by
 have h := Arr.next_at (n := l.length) rfl hs (arr_at hk)
 split
 ·rename_i h2
  rw [arr_at h2] at h
  exact nextR_some h
 ·rename_i h2
  rw [List.getElem?_eq_none (by unfold arrN at h2; omega)] at h
  exact nextR_none h
theorem best_perm {l : List Int} (hs : SmallP l) : ∀ {k : Nat}, k < arrN l → (bestA l k).Perm l
 | 0, hk => arr_perm hs hk
 | k + 1, hk => by
  unfold bestA
  split
  ·exact arr_perm hs hk
  ·exact best_perm hs (by omega)
def boundL (l : List Int) : Int := if 1 < l.length then (l.sum * l.sum - (l.map fun x => x * x).sum + l.length - 2).tdiv ((l.length - 1 : Nat) : Int) else 0
theorem perm_sum {a b : List Int} (h : a.Perm b) : a.sum = b.sum := by
 induction h with
 | nil => rfl
 | cons x _ ih => simp [ih]
 | swap x y l => simp; omega
 | trans _ _ a b => exact a.trans b
theorem sumN_list (g : Int → Int) : ∀ l : List Int, Cyc.sumN l.length (fun i => g (atL l i)) = (l.map g).sum
 | [] => rfl
 | x :: l => by
  have h := Cyc.sumN_first (fun i => g (atL (x :: l) i)) l.length
  rw [List.length_cons, h, List.map_cons, List.sum_cons, ← sumN_list g l]
  have e : ∀ i, atL (x :: l) (i + 1) = atL l i := fun i => by unfold atL; simp [List.getD_eq_getElem?_getD]
  simp only [e]
  rfl
theorem cor_zero (l : List Int) : Cyc.cor (atL l) l.length 0 = (l.map fun x => x * x).sum := by
 rw [← sumN_list (fun x => x * x) l]
 exact Cyc.sumN_congr fun i hi => by rw [Nat.add_zero, Nat.mod_eq_of_lt hi]
theorem sq_small : ∀ {l : List Int}, SmallP l → 0 ≤ (l.map fun x => x * x).sum ∧ (l.map fun x => x * x).sum ≤ 10000 * l.length
 | [], _ => by simp
 | x :: l, h => by
  have h1 := sq_small (l := l) fun y hy => h y (List.mem_cons_of_mem _ hy)
  have h2 := h x (List.mem_cons_self ..)
  have h3 : 0 ≤ x * x := Int.mul_nonneg (by omega) (by omega)
  have h4 : x * x ≤ 100 * 100 := Int.mul_le_mul h2.2 h2.2 (by omega) (by omega)
  rw [List.map_cons, List.sum_cons, List.length_cons]
  omega
theorem tdiv_small {a b : Int} {c : Nat} (h : a.natAbs ≤ c) : (a.tdiv b).natAbs ≤ c := by
 rw [Int.natAbs_tdiv]
 exact Nat.le_trans (Nat.div_le_self _ _) h
structure SeqI (w wr : World) (g gb b2 b6 cap cb : Nat) (s bl : List Int) (x : Int) : Prop where
 bel : Below w.heap.size w wr
 row : OwnL wr w.heap.size (.slice (some ⟨g, 0, none⟩) s.length cap) s
 best : OwnL wr w.heap.size (.slice (some ⟨gb, 0, none⟩) bl.length cb) bl
 c2 : wr.heap[b2]? = some (.cells #[.slice none 0 0, .int .i64 0, .int .i64 0] 52 (0, 0))
 c6 : wr.heap[b6]? = some (.cells #[.slice (some ⟨gb, 0, none⟩) bl.length cb, .int .i64 x, .int .i64 0] 52 (0, 0))
 b2w : w.heap.size ≤ b2
 b6w : w.heap.size ≤ b6
 ne : gb ≠ g
 ne2 : b2 ≠ b6
theorem own_block {w : World} {B g n cap : Nat} {l : List Int} (h : OwnL w B (.slice (some ⟨g, 0, none⟩) n cap) l) : ∃ cur, B ≤ g ∧ w.heap[g]? = some (.cells cur 3 (0, 0)) := by
 rcases h.2 with ⟨e0, _⟩ | ⟨g', cap', cur, e0, a, b, _⟩
 ·cases e0
 ·injection e0 with e1 _ e3
  injection e1 with e1
  injection e1 with e1
  subst e1
  exact ⟨cur, a, b⟩
theorem OwnL.stay {w w' : World} {B : Nat} {v : Value} {l : List Int} (h : OwnL w B v l) (hb : Below w.heap.size w w') : OwnL w' B v l :=
 World.ownsRow.kept (row := none) h ⟨hb.os, hb.tape, hb.output, hb.size, fun j hj _ => hb.block j hj⟩ (by cases hv : v.ownBlock <;> simp)
theorem OwnL.some {w : World} {B : Nat} {v : Value} {l : List Int} (h : OwnL w B v l) (hl : l ≠ []) : ∃ g cap, v = .slice (some ⟨g, 0, none⟩) l.length cap := by
 rcases h.2 with ⟨rfl, hz⟩ | ⟨g, cap, cur, rfl, _⟩
 ·exact absurd (List.length_eq_zero_iff.1 hz) hl
 ·exact ⟨g, cap, rfl⟩
theorem SeqI.ne2g {w wr : World} {g gb b2 b6 cap cb : Nat} {s bl : List Int} {x : Int} (h : SeqI w wr g gb b2 b6 cap cb s bl x) : b2 ≠ g := fun e => by
 obtain ⟨cur, _, hc⟩ := own_block h.row
 have := h.c2
 rw [e, hc] at this
 simp at this
theorem SeqI.ne6g {w wr : World} {g gb b2 b6 cap cb : Nat} {s bl : List Int} {x : Int} (h : SeqI w wr g gb b2 b6 cap cb s bl x) : b6 ≠ g := fun e => by
 obtain ⟨cur, _, hc⟩ := own_block h.row
 have := h.c6
 rw [e, hc] at this
 simp at this
theorem SeqI.ne6b {w wr : World} {g gb b2 b6 cap cb : Nat} {s bl : List Int} {x : Int} (h : SeqI w wr g gb b2 b6 cap cb s bl x) : b6 ≠ gb := fun e => by
 obtain ⟨cur, _, hc⟩ := own_block h.best
 have := h.c6
 rw [e, hc] at this
 simp at this
theorem SeqI.next {w wr w' : World} {g gb b2 b6 cap cb : Nat} {s s' bl : List Int} {x : Int} (h : SeqI w wr g gb b2 b6 cap cb s bl x) (hn : NRow w.heap.size g cap wr w' s') : SeqI w w' g gb b2 b6 cap cb s' bl x where
 bel := h.bel.grown hn.gr h.bel.size (fun k hk => by cases hk; obtain ⟨_, a, _⟩ := own_block h.row; exact a)
 row := hn.own
 best := World.ownsRow.kept h.best hn.gr (.inr fun e => h.ne (by simp [Value.ownBlock] at e; exact e))
 c2 := (hn.gr.block _ (blk_lt h.c2) (fun e => h.ne2g (by cases e; rfl))).trans h.c2
 c6 := (hn.gr.block _ (blk_lt h.c6) (fun e => h.ne6g (by cases e; rfl))).trans h.c6
 b2w := h.b2w
 b6w := h.b6w
 ne := h.ne
 ne2 := h.ne2
theorem SeqI.clone {w wr w' : World} {g gb b2 b6 cap cb gn cn : Nat} {s bl : List Int} {x y : Int} (h : SeqI w wr g gb b2 b6 cap cb s bl x) (hb : Below wr.heap.size wr w') (ho : OwnL w' wr.heap.size (.slice (some ⟨gn, 0, none⟩) s.length cn) s) :
  SeqI w ((w'.setCell ⟨b6, 0, none⟩ (.slice (some ⟨gn, 0, none⟩) s.length cn)).setCell ⟨b6, 1, none⟩ (.int .i64 y)) g gn b2 b6 cap cn s s y := by
 obtain ⟨_, hgw, hgc⟩ := own_block h.row
 obtain ⟨_, hnw, hnc⟩ := own_block ho
 have hlt := blk_lt hgc
 have h6 : b6 < wr.heap.size := blk_lt h.c6
 have h6g := h.ne6g
 have e6 := blk_set (i := 1) (.int .i64 y) (blk_set (i := 0) (.slice (some ⟨gn, 0, none⟩) s.length cn) (blk_below h.c6 hb))
 have hgr : w'.grownBy ((w'.setCell ⟨b6, 0, none⟩ (.slice (some ⟨gn, 0, none⟩) s.length cn)).setCell ⟨b6, 1, none⟩ (.int .i64 y)) (some b6) :=
  ⟨rfl, rfl, rfl, by simp, fun k _ hk => by
   have hne : k ≠ b6 := fun e => hk (by rw [e])
   rw [heap_setCell_other _ _ _ _ hne, heap_setCell_other _ _ _ _ hne]⟩
 have hB := h.bel.trans (hb.mono h.bel.size)
 exact {
  bel := hB.grown hgr hB.size (fun k hk => by cases hk; exact h.b6w)
  row := World.ownsRow.kept (OwnL.stay h.row hb) hgr (.inr fun e => h6g (by simp [Value.ownBlock] at e; exact e.symm))
  best := World.ownsRow.kept (ownsRow_mono ho h.bel.size) hgr (.inr fun e => by simp [Value.ownBlock] at e; omega)
  c2 := blk_other _ (blk_other _ (blk_below h.c2 hb) h.ne2) h.ne2
  c6 := e6
  b2w := h.b2w
  b6w := h.b6w
  ne := by omega
  ne2 := h.ne2 }
theorem seq_fin {w w' : World} {b2 gb cb : Nat} {bl : List Int} {u0 u1 u2 : Value} (hB : Below w.heap.size w w') (ho : OwnL w' w.heap.size (.slice (some ⟨gb, 0, none⟩) bl.length cb) bl)
  (h2 : w'.heap[b2]? = some (.cells #[.slice none 0 0, .int .i64 0, .int .i64 0] 52 (0, 0))) (hbw : w.heap.size ≤ b2) :
  (((w'.setCell ⟨b2, 0, none⟩ u0).setCell ⟨b2, 1, none⟩ u1).setCell ⟨b2, 2, none⟩ u2).heap[b2]? = some (.cells #[u0, u1, u2] 52 (0, 0)) ∧
  OwnL (((w'.setCell ⟨b2, 0, none⟩ u0).setCell ⟨b2, 1, none⟩ u1).setCell ⟨b2, 2, none⟩ u2) w.heap.size (.slice (some ⟨gb, 0, none⟩) bl.length cb) bl ∧
  Below w.heap.size w (((w'.setCell ⟨b2, 0, none⟩ u0).setCell ⟨b2, 1, none⟩ u1).setCell ⟨b2, 2, none⟩ u2) := by
 have hgr : w'.grownBy (((w'.setCell ⟨b2, 0, none⟩ u0).setCell ⟨b2, 1, none⟩ u1).setCell ⟨b2, 2, none⟩ u2) (some b2) :=
  ⟨rfl, rfl, rfl, by simp, fun k _ hk => by
   have hne : k ≠ b2 := fun e => hk (by rw [e])
   rw [heap_setCell_other _ _ _ _ hne, heap_setCell_other _ _ _ _ hne, heap_setCell_other _ _ _ _ hne]⟩
 refine ⟨blk_set (i := 2) u2 (blk_set (i := 1) u1 (blk_set (i := 0) u0 h2)), World.ownsRow.kept ho hgr (.inr fun e => ?_), hB.grown hgr hB.size fun k hk => by cases hk; exact hbw⟩
 simp [Value.ownBlock] at e
 subst e
 obtain ⟨_, _, h⟩ := own_block ho
 rw [h2] at h
 simp at h
theorem SeqI.bound {w wr w' : World} {g gb b2 b6 cap cb : Nat} {s bl : List Int} {x z : Int} (h : SeqI w wr g gb b2 b6 cap cb s bl x) (hb : Below wr.heap.size wr w') :
  Below w.heap.size w (w'.setCell ⟨b6, 2, none⟩ (.int .i64 z)) ∧ OwnL (w'.setCell ⟨b6, 2, none⟩ (.int .i64 z)) w.heap.size (.slice (some ⟨gb, 0, none⟩) bl.length cb) bl ∧
  (w'.setCell ⟨b6, 2, none⟩ (.int .i64 z)).heap[b2]? = some (.cells #[.slice none 0 0, .int .i64 0, .int .i64 0] 52 (0, 0)) ∧
  (w'.setCell ⟨b6, 2, none⟩ (.int .i64 z)).heap[b6]? = some (.cells #[.slice (some ⟨gb, 0, none⟩) bl.length cb, .int .i64 x, .int .i64 z] 52 (0, 0)) := by
 have h6b := h.ne6b
 have hgr : w'.grownBy (w'.setCell ⟨b6, 2, none⟩ (.int .i64 z)) (some b6) :=
  ⟨rfl, rfl, rfl, by simp, fun k _ hk => by
   have hne : k ≠ b6 := fun e => hk (by rw [e])
   rw [heap_setCell_other _ _ _ _ hne]⟩
 have hB := h.bel.trans (hb.mono h.bel.size)
 exact ⟨hB.grown hgr hB.size (fun k hk => by cases hk; exact h.b6w), World.ownsRow.kept (h.best.stay hb) hgr (.inr fun e => h6b (by simp [Value.ownBlock] at e; exact e.symm)), blk_other _ (blk_below h.c2 hb) h.ne2, blk_set (i := 2) _ (blk_below h.c6 hb)⟩
def patV (v : Value) (x b : Int) : Value := .agg #[v, .int .i64 x, .int .i64 b]
def SeqPost (l : List Int) (w : World) (e : Ending) (w' : World) : Prop :=
 if pitchE l ≠ 0 then e = .returned (.tuple #[patV (.slice none 0 0) 0 0, .int .i64 (pitchE l)]) ∧ Below w.heap.size w w'
 else if 50000 < cntA (atL (sortL l)) l.length then e = .returned (.tuple #[patV (.slice none 0 0) 0 0, .int .i64 9]) ∧ Below w.heap.size w w'
 else (∃ v', e = .returned (.tuple #[patV v' (noiseL (bestA l (arrN l - 1))) (boundL l), .int .i64 0]) ∧ OwnL w' w.heap.size v' (bestA l (arrN l - 1))) ∧ Below w.heap.size w w'
theorem pitch_ok {l : List Int} (h : pitchE l = 0) : l ≠ [] ∧ l.length ≤ 12 ∧ SmallP l := by
 unfold pitchE at h
 split at h
 ·omega
 ·rename_i h1
  split at h
  ·rename_i h2
   exact ⟨fun e => h1 (.inl (by rw [e]; rfl)), by omega, h2⟩
  ·omega
theorem clone_own (v : Value) (l : List Int) (w : World) {B : Nat} (h : OwnL w B v l) (hl : l.length ≤ 1000) (hl0 : l ≠ []) :
  Calls Tryz.prog 111 #[v] w fun e w' => (∃ gn cn, e = .returned (.slice (some ⟨gn, 0, none⟩) l.length cn) ∧ OwnL w' w.heap.size (.slice (some ⟨gn, 0, none⟩) l.length cn) l) ∧ Below w.heap.size w w' := by
 obtain ⟨g, cap, rfl⟩ := h.some hl0
 have hr : NRow B g cap w w l := NRow.start h
 refine (Tryz.slices_Clone_int g 0 l.length cap l w (Nat.le_refl _) (by omega) (fun j hj => by rw [Nat.zero_add]; exact hr.cell j hj)).mono ?_
 rintro e w' ⟨v', rfl, ho, _, hb⟩
 rw [List.take_length] at ho
 have ho' : OwnL w' w.heap.size v' l := ho
 obtain ⟨gn, cn, rfl⟩ := ho'.some hl0
 exact ⟨⟨gn, cn, rfl, ho'⟩, hb⟩
set_option maxRecDepth 100000 in
set_option maxHeartbeats 1000000 in
theorem sequence_any (v : Value) (l : List Int) (w : World) (h : RdL w v l) : Calls Tryz.prog 24 #[v] w (SeqPost l w) := by
 have HV := h0d h
 obtain ⟨W1, hW1⟩ : ∃ W, W = w.alloc (.cells #[.slice none 0 0, .int .i64 0, .int .i64 0] 52) := ⟨_, rfl⟩
 have hb1 : Below w.heap.size w W1 := by rw [hW1]; exact (Below.refl _ _).alloc (Nat.le_refl _) _
 have hk := heap_alloc_new w (.cells #[.slice none 0 0, .int .i64 0, .int .i64 0] 52)
 rw [← hW1] at hk
 have H2 : Hid (W1.heap[w.heap.size]? = some (.cells #[.slice none 0 0, .int .i64 0, .int .i64 0] 52 (0, 0))) := hk
 have HV1 := h0d (h.below hb1)
 have HP := h0d (pitched_any v l W1 (h.below hb1))
 obtain ⟨A, n, cap, rfl, hn, -⟩ := h.open_
 have HNL := h0d hn
 have HB1 := h0d hb1
 have HW1 := h0d hW1
 clear hb1 hk hW1 h hn
 by_cases hpe : pitchE l = 0
 ·rw [hpe] at HP
  obtain ⟨hl0, hl12, hs⟩ := pitch_ok hpe
  have HPE := h0d hpe
  have HS := h0d hs
  have HL0 := h0d hl0
  have HL12 := h0d hl12
  clear hpe hs hl0 hl12
  go_enter Tryz.func24, Tryz.ntmps24
  go_wp2_with fail
  rw [← HW1.out]
  refine HP.out.mono ?_
  rintro e w1 ⟨rfl, hbx⟩
  have H2' := h0d (blk_below H2.out hbx)
  have HB2 := h0d (HB1.out.trans (hbx.mono HB1.out.size))
  have HV2 := h0d (HV1.out.below hbx)
  clear hbx
  go_wp2_with fail
  refine (values_any _ _ ⟨_, _, _, rfl⟩).mono ?_
  rintro e w2 ⟨rfl, hw2⟩
  have hbx : Below w1.heap.size w1 w2 := by rw [← hw2]; exact (Below.refl _ _).alloc (Nat.le_refl _) _
  have hcb := heap_alloc_new w1 (.cells #[.slice A n cap] 22)
  rw [hw2] at hcb
  have HCB : Hid (w2.cell? ⟨w1.heap.size, 0, none⟩ = some (.slice A n cap)) := blk_cell hcb 0
  have HLT : Hid (w1.heap.size < w2.heap.size) := by show _ < _; rw [← hw2]; simp
  replace H2' := h0d (blk_below H2'.out hbx)
  replace HB2 := h0d (HB2.out.trans (hbx.mono HB2.out.size))
  have HV3 := h0d (HV2.out.below hbx)
  have HSO := h0d (sorted_any _ l w2 w1.heap.size HV3.out (by have := HL12.out; omega) HL0.out HLT.out HCB.out)
  clear hbx hcb hw2
  go_wp2_with fail
  refine HSO.out.mono ?_
  rintro e w3 ⟨⟨v', rfl, ho⟩, hbx⟩
  have HLS : Hid ((sortL l).length = l.length) := sortL_len l
  have HRW : Hid (OwnL w3 w2.heap.size v' (sortL l)) := ho
  obtain ⟨s, hs⟩ : ∃ s, s = sortL l := ⟨_, rfl⟩
  rw [← hs] at HLS HRW
  have HSL := h0d hs
  replace H2' := h0d (blk_below H2'.out hbx)
  have HSZ : Hid (w.heap.size ≤ w2.heap.size) := HB2.out.size
  replace HB2 := h0d (HB2.out.trans (hbx.mono HB2.out.size))
  have HSP : Hid (SmallP s) := fun x hx => HS.out x ((sortL_perm l).mem_iff.1 (hs ▸ hx))
  have HARR := h0d (arranged_any v' s w3 HRW.out.rd (by have := HL12.out; have := HLS.out; omega))
  have HCL := h0d (clone_own v' s w3 HRW.out (by have := HL12.out; have := HLS.out; omega) (fun e => by have := HLS.out; rw [e] at this; exact HL0.out (List.length_eq_zero_iff.1 this.symm)))
  obtain ⟨g, cp, rfl⟩ := HRW.out.some (fun e => by have := HLS.out; rw [e] at this; exact HL0.out (List.length_eq_zero_iff.1 this.symm))
  obtain ⟨cnt, hcnt⟩ : ∃ c, c = cntA (atL s) s.length := ⟨_, rfl⟩
  rw [← hcnt] at HARR
  have HCNT := h0d hcnt
  clear ho hbx hs hcnt
  go_wp2_with fail
  refine HARR.out.mono ?_
  rintro e w4 ⟨rfl, hw4⟩
  obtain rfl := hw4.symm
  by_cases hct : 50000 < cnt
  ·have hct' : (50000 : Int) < (cnt : Int) := by omega
   have HC5 := h0d hct
   clear hct
   have c0 : w3.cell? ⟨w.heap.size, 0, none⟩ = some (.slice none 0 0) := blk_cell H2'.out 0
   have c1 : w3.cell? ⟨w.heap.size, 1, none⟩ = some (.int .i64 0) := blk_cell H2'.out 1
   have c2 : w3.cell? ⟨w.heap.size, 2, none⟩ = some (.int .i64 0) := blk_cell H2'.out 2
   have f0 : w3.frozen? ⟨w.heap.size, 0, none⟩ = false := blk_free H2'.out 0
   have f1 : w3.frozen? ⟨w.heap.size, 1, none⟩ = false := blk_free H2'.out 1
   have f2 : w3.frozen? ⟨w.heap.size, 2, none⟩ = false := blk_free H2'.out 2
   go_wp2_with fail
   have h9 := blk_set (i := 2) (.int .i64 0) (blk_set (i := 1) (.int .i64 0) (blk_set (i := 0) (.slice none 0 0) H2'.out))
   have h9b : Below w.heap.size w (((w3.setCell ⟨w.heap.size, 0, none⟩ (.slice none 0 0)).setCell ⟨w.heap.size, 1, none⟩ (.int .i64 0)).setCell ⟨w.heap.size, 2, none⟩ (.int .i64 0)) := ((HB2.out.setCell (Nat.le_refl _) _).setCell (Nat.le_refl _) _).setCell (Nat.le_refl _) _
   refine bodyPost_ret (v := .tuple #[.agg #[.slice none 0 0, .int .i64 0, .int .i64 0], .int .i64 9]) ?_ rfl (by unfold SeqPost; rw [if_neg (by rw [HPE.out]; simp), if_pos (by rw [← HSL.out, ← HLS.out, ← HCNT.out]; exact HC5.out)]; exact ⟨rfl, h9b⟩)
   exact results_cell_tmp (u := 3) (t := 2) rfl (by rfl) (blk_all (cs := [.slice none 0 0, .int .i64 0, .int .i64 0]) h9) Tryz.underlying52 rfl (by kernel_rfl)
  ·have hct' : ¬ (50000 : Int) < (cnt : Int) := by omega
   have HC5 := h0d hct
   clear hct
   have HNO := h0d (noise_any (.slice (some ⟨g, 0, none⟩) s.length cp) s)
   go_wp2_with fail
   refine HCL.out.mono ?_
   rintro e w4 ⟨⟨gb, cb, rfl, hob⟩, hbx⟩
   have HNE : Hid (gb ≠ g) := by
    obtain ⟨_, h1, _⟩ := own_block hob
    obtain ⟨_, _, h2⟩ := own_block HRW.out
    have := blk_lt h2
    show _ ≠ _
    omega
   have HOB : Hid (OwnL w4 w.heap.size (.slice (some ⟨gb, 0, none⟩) s.length cb) s) := ownsRow_mono hob HB2.out.size
   have HRW4 : Hid (OwnL w4 w.heap.size (.slice (some ⟨g, 0, none⟩) s.length cp) s) := ownsRow_mono (HRW.out.stay hbx) HSZ.out
   replace H2' := h0d (blk_below H2'.out hbx)
   replace HB2 := h0d (HB2.out.trans (hbx.mono HB2.out.size))
   have HNS := h0d (noise_any (.slice (some ⟨g, 0, none⟩) s.length cp) s w4 HRW4.out.rd (by have := HL12.out; have := HLS.out; omega) HSP.out)
   clear HNO hob hbx
   obtain ⟨x0, hx0⟩ : ∃ x, x = Cyc.noise (atL s) s.length := ⟨_, rfl⟩
   rw [← hx0] at HNS
   have HX0 := h0d hx0
   clear hx0
   go_wp2_with fail
   refine HNS.out.mono ?_
   rintro e w5 ⟨rfl, hw5⟩
   obtain rfl := hw5.symm
   go_wp2_with fail
   have HN0 : Hid (0 < arrN l ∧ arrAt l 0 = s) := ⟨(arr_zero HS.out).2, by rw [(arr_zero HS.out).1, HSL.out]⟩
   obtain ⟨W5, hW5⟩ : ∃ W, W = w4.alloc (.cells #[.slice (some ⟨gb, 0, none⟩) s.length cb, .int .i64 x0, .int .i64 0] 52) := ⟨_, rfl⟩
   have hb5 : Below w4.heap.size w4 W5 := by rw [hW5]; exact (Below.refl _ _).alloc (Nat.le_refl _) _
   have hk5 := heap_alloc_new w4 (.cells #[.slice (some ⟨gb, 0, none⟩) s.length cb, .int .i64 x0, .int .i64 0] 52)
   rw [← hW5] at hk5
   have HI : Hid (SeqI w W5 g gb w.heap.size w4.heap.size cp cb s s x0) := {
    bel := HB2.out.trans (hb5.mono HB2.out.size)
    row := HRW4.out.stay hb5
    best := HOB.out.stay hb5
    c2 := blk_below H2'.out hb5
    c6 := hk5
    b2w := Nat.le_refl _
    b6w := HB2.out.size
    ne := HNE.out
    ne2 := by have := blk_lt H2'.out; omega }
   have HW5 := h0d hW5
   clear hb5 hk5 hW5
   obtain ⟨b6, hb6⟩ : ∃ b, b = w4.heap.size := ⟨_, rfl⟩
   rw [← hb6] at HI ⊢
   rw [← HW5.out]
   clear HW5 H2' hb6
   have HLEN : Hid (∀ k, k < arrN l → (arrAt l k).length = s.length) := fun k hk => by rw [(arr_perm HS.out hk).length_eq, HLS.out]
   have HLENB : Hid (∀ k, k < arrN l → (bestA l k).length = s.length) := fun k hk => by rw [(best_perm HS.out hk).length_eq, HLS.out]
   have HS12 : Hid (s.length ≤ 12 ∧ 0 < s.length) := by have := HL12.out; have := HLS.out; have := List.length_pos_iff.2 HL0.out; exact ⟨by omega, by omega⟩
   obtain ⟨m, hm⟩ : ∃ m, m = s.length := ⟨_, rfl⟩
   rw [← hm] at HLEN HLENB HS12 ⊢
   have HM := h0d hm
   clear hm HRW HRW4 HOB HARR HCL HNS HV HV1 HV2 HV3 HSO HCB HLT HP H2
   go_loopg [7] (arrN l) (fun q _ wr => ∃ k gb cb, k < arrN l ∧ q = arrN l - k ∧ SeqI w wr g gb w.heap.size b6 cp cb (arrAt l k) (bestA l k) (noiseL (bestA l k)))
   case atStart =>
    refine ⟨0, gb, cb, HN0.out.1, rfl, ?_⟩
    show SeqI _ _ _ _ _ _ _ _ _ (arrAt l 0) (noiseL (arrAt l 0))
    rw [HN0.out.2]
    have := HI.out
    rw [HX0.out] at this
    exact this
   case round =>
    obtain ⟨k, gb, cb, hkN, hgk, hI⟩ := hrel
    have HKN := h0d hkN
    have HGK := h0d hgk
    have hlk := HLEN.out k hkN
    have hlb := HLENB.out k hkN
    have HNX := h0d (next_any w.heap.size g cp wr wr (arrAt l k) (NRow.start hI.row) (by have := HS12.out; omega) (fun e => by rw [e] at hlk; have := HS12.out; simp at hlk; omega))
    rw [hlk, arr_next HS.out hkN] at HNX
    have HI1 := h0d hI
    clear HI HNE hlk hlb hkN hgk hI
    by_cases hk1 : k + 1 < arrN l
    ·rw [if_pos hk1] at HNX
     have HK1 := h0d hk1
     clear hk1
     go_wp2_with fail
     refine HNX.out.mono ?_
     rintro e w6 ⟨rfl, hn6⟩
     have hI2 := HI1.out.next hn6
     have hla := HLEN.out _ HK1.out
     have HNO := h0d (noise_any (.slice (some ⟨g, 0, none⟩) (arrAt l (k + 1)).length cp) (arrAt l (k + 1)) w6 hI2.row.rd (by have := HS12.out; omega) (fun x hx => HS.out x ((arr_perm HS.out HK1.out).mem_iff.1 hx)))
     obtain ⟨y, hy⟩ : ∃ y, y = noiseL (arrAt l (k + 1)) := ⟨_, rfl⟩
     have hy' : Cyc.noise (atL (arrAt l (k + 1))) (arrAt l (k + 1)).length = y := hy.symm
     rw [hy', hla] at HNO
     obtain ⟨x, hx⟩ : ∃ x, x = noiseL (bestA l k) := ⟨_, rfl⟩
     rw [← hx] at hI2
     have c1 : w6.cell? ⟨b6, 1, none⟩ = some (.int .i64 x) := blk_cell hI2.c6 1
     have HI2 := h0d hI2
     have HX := h0d hx
     have HY := h0d hy
     clear hn6 hI2 hla hy hy' hx HNX HI1
     by_cases hlt : y < x
     ·have HBE : Hid (bestA l (k + 1) = arrAt l (k + 1)) := by show (if _ then _ else _) = _; rw [if_pos (by rw [← HX.out, ← HY.out]; exact hlt)]
      have hla := HLEN.out _ HK1.out
      have HCL := h0d (clone_own (.slice (some ⟨g, 0, none⟩) (arrAt l (k + 1)).length cp) (arrAt l (k + 1)) w6 HI2.out.row (by have := HS12.out; omega) (fun e => by rw [e] at hla; have := HS12.out; simp at hla; omega))
      rw [hla] at HCL
      clear hla
      go_wp2_with fail
      refine HNO.out.mono ?_
      rintro e w7 ⟨rfl, hw7⟩
      obtain rfl := hw7.symm
      clear hw7
      go_wp2_with fail
      clear c1
      refine HCL.out.mono ?_
      rintro e w7 ⟨⟨gn, cn, rfl, ho⟩, hb⟩
      have c0 : w7.cell? ⟨b6, 0, none⟩ = _ := blk_cell (blk_below HI2.out.c6 hb) 0
      have c1 : w7.cell? ⟨b6, 1, none⟩ = some (.int .i64 x) := blk_cell (blk_below HI2.out.c6 hb) 1
      have f0 : w7.frozen? ⟨b6, 0, none⟩ = false := blk_free (blk_below HI2.out.c6 hb) 0
      have f1 : w7.frozen? ⟨b6, 1, none⟩ = false := blk_free (blk_below HI2.out.c6 hb) 1
      have hla := HLEN.out _ HK1.out
      rw [← hla] at ho
      have hI3 := SeqI.clone (y := y) HI2.out hb ho
      rw [hla] at hI3
      have HI3 := h0d hI3
      clear ho hb hI3 hla
      go_wp2_with fail
      go_roundg (arrN l - (k + 1))
      case measure => have := HGK.out; have := HK1.out; omega
      case rel => exact ⟨k + 1, gn, cn, HK1.out, rfl, by rw [HBE.out, ← HY.out]; exact HI3.out⟩
     ·have HBE : Hid (bestA l (k + 1) = bestA l k) := by show (if _ then _ else _) = _; rw [if_neg (by rw [← HX.out, ← HY.out]; exact hlt)]
      go_wp2_with fail
      refine HNO.out.mono ?_
      rintro e w7 ⟨rfl, hw7⟩
      obtain rfl := hw7.symm
      clear hw7
      go_wp2_with fail
      clear c1
      go_roundg (arrN l - (k + 1))
      case measure => have := HGK.out; have := HK1.out; omega
      case rel => exact ⟨k + 1, gb, cb, HK1.out, rfl, by rw [HBE.out, ← HX.out]; exact HI2.out⟩
    ·rw [if_neg hk1] at HNX
     have HK1 : Hid (k = arrN l - 1) := by have := HKN.out; show _ = _; omega
     clear hk1
     go_wp2_with fail
     refine HNX.out.mono ?_
     rintro e w6 ⟨rfl, hn6⟩
     have HI2 := h0d (HI1.out.next hn6)
     clear hn6 HNX HI1
     obtain ⟨x, hx⟩ : ∃ x, x = noiseL (bestA l k) := ⟨_, rfl⟩
     rw [← hx] at HI2
     have HX := h0d hx
     have HLB := h0d (HLENB.out k HKN.out)
     have hne : w.heap.size ≠ b6 := HI2.out.ne2
     have hne' : b6 ≠ w.heap.size := fun e => hne e.symm
     clear hx
     by_cases hm1 : 1 < m
     ·have HPM := h0d (arr_perm HS.out HKN.out)
      obtain ⟨cur, hcur⟩ : ∃ c, c = arrAt l k := ⟨_, rfl⟩
      rw [← hcur] at HPM HI2
      have HCU : Hid (cur.length = m) := by rw [hcur]; exact HLEN.out k HKN.out
      have HSC : Hid (SmallP cur) := fun z hz => HS.out z (HPM.out.mem_iff.1 hz)
      have hsum : cur.sum = l.sum := perm_sum HPM.out
      have hsq : (cur.map fun x => x * x).sum = (l.map fun x => x * x).sum := perm_sum (HPM.out.map _)
      have hb1 := sum_small HSC.out (by have := HS12.out; have := HCU.out; omega) cur.length
      rw [List.take_length, hsum] at hb1
      have hb2 := sq_small HSC.out
      rw [hsq, HCU.out] at hb2
      have HST := h0d (starts_any (.slice (some ⟨g, 0, none⟩) cur.length cp) cur w6 HI2.out.row.rd (by have := HS12.out; have := HCU.out; omega) HSC.out)
      have HCO : Hid (∀ w7, Below w6.heap.size w6 w7 → Calls Tryz.prog 115 #[.slice (some ⟨g, 0, none⟩) m cp, .int .i64 ((0 : Nat) : Int)] w7 fun e w' => e = .returned (.int .i64 ((l.map fun x => x * x).sum)) ∧ w' = w7) := fun w7 hb => by
       have := corr_any (.slice (some ⟨g, 0, none⟩) cur.length cp) cur 0 w7 (HI2.out.row.rd.below hb) (by have := HS12.out; have := HCU.out; omega) HSC.out (by omega)
       rw [cor_zero, hsq, HCU.out] at this
       exact this
      rw [hsum, HCU.out] at HST
      obtain ⟨p, hp⟩ : ∃ p, p = l.sum := ⟨_, rfl⟩
      obtain ⟨q, hq⟩ : ∃ q, q = (l.map fun x => x * x).sum := ⟨_, rfl⟩
      rw [← hp] at HST hb1
      rw [← hq] at HCO hb2
      have hm12 := HS12.out
      obtain ⟨p2, hp2⟩ : ∃ p2, p2 = p * p := ⟨_, rfl⟩
      have hp2b : 0 ≤ p2 ∧ p2 ≤ 1440000 := by
       rw [hp2]
       refine ⟨Int.mul_nonneg hb1.1 hb1.1, ?_⟩
       have := Int.mul_le_mul hb1.2 hb1.2 hb1.1 (by omega)
       omega
      have hw1 : IntKind.i64.wrap (p * p) = p2 := by rw [← hp2]; exact IntWalk.i64_in _ (by omega)
      obtain ⟨r, hr⟩ : ∃ r, r = p2 - q := ⟨_, rfl⟩
      have hw2 : IntKind.i64.wrap (p2 - q) = r := by rw [hr]; exact IntWalk.i64_in _ (by omega)
      obtain ⟨t, ht⟩ : ∃ t, t = r + (m : Int) := ⟨_, rfl⟩
      have hw3 : IntKind.i64.wrap (r + (m : Int)) = t := by rw [ht]; exact IntWalk.i64_in _ (by omega)
      obtain ⟨t2, ht2⟩ : ∃ t2, t2 = t - 2 := ⟨_, rfl⟩
      have hw4 : IntKind.i64.wrap (t - 2) = t2 := by rw [ht2]; exact IntWalk.i64_in _ (by omega)
      obtain ⟨j, hj⟩ : ∃ j : Nat, j = m - 1 := ⟨_, rfl⟩
      have hw5 : IntKind.i64.wrap ((m : Int) - 1) = (j : Int) := by rw [IntWalk.i64_in _ (by omega)]; omega
      have hj0 : (((j : Int)) == 0) = false := beq_false_of_ne (by omega)
      have hj1 : (j : Int) ≠ 0 := by omega
      have hj2 : j ≠ 0 := by omega
      obtain ⟨z, hz⟩ : ∃ z, z = t2.tdiv (j : Int) := ⟨_, rfl⟩
      have hz2 := tdiv_small (a := t2) (b := (j : Int)) (c := 2000000) (by omega)
      rw [← hz] at hz2
      have hw6 : t2.tdiv (j : Int) = z := hz.symm
      have hw7 : IntKind.i64.wrap z = z := IntWalk.i64_in _ (by omega)
      have HB0 : Hid (boundL l = z) := by
       show (if _ then _ else _) = _
       rw [if_pos (by have := HM.out; have := HLS.out; omega), hz, ht2, ht, hr, hp2, hp, hq, hj, HM.out, HLS.out]
      have hm1' : (1 : Int) < (m : Int) := by omega
      clear hp hq hp2 hr ht ht2 hj hz hz2 hp2b hb1 hb2 hsum hsq hcur hm12 hm1
      go_wp2_with fail
      refine HST.out.mono ?_
      rintro e w7 ⟨⟨v7, rfl, -⟩, hb7⟩
      obtain ⟨k0, k1, k2, k3⟩ := HI2.out.bound (z := z) hb7
      have HK0 := h0d k0
      have HK1' := h0d k1
      have HK2 := h0d k2
      have HK3 := h0d k3
      have HC7 := h0d (HCO.out w7 hb7)
      have c2 : w7.cell? ⟨b6, 2, none⟩ = some (.int .i64 0) := blk_cell (blk_below HI2.out.c6 hb7) 2
      have f2 : w7.frozen? ⟨b6, 2, none⟩ = false := blk_free (blk_below HI2.out.c6 hb7) 2
      clear k0 k1 k2 k3 hb7 HCO
      go_wp2_with fail
      refine HC7.out.mono ?_
      rintro e w8 ⟨rfl, hw8⟩
      obtain rfl := hw8.symm
      clear hw8
      obtain ⟨W9, hW9⟩ : ∃ W, W = w7.setCell ⟨b6, 2, none⟩ (.int .i64 z) := ⟨_, rfl⟩
      rw [← hW9] at HK0 HK1' HK2 HK3
      have HW9 := h0d hW9
      clear hW9
      have c0 : W9.cell? ⟨b6, 0, none⟩ = _ := blk_cell HK3.out 0
      have c1 : W9.cell? ⟨b6, 1, none⟩ = some (.int .i64 x) := blk_cell HK3.out 1
      have c3 : W9.cell? ⟨b6, 2, none⟩ = some (.int .i64 z) := blk_cell HK3.out 2
      have d0 : W9.cell? ⟨w.heap.size, 0, none⟩ = some (.slice none 0 0) := blk_cell HK2.out 0
      have d1 : W9.cell? ⟨w.heap.size, 1, none⟩ = some (.int .i64 0) := blk_cell HK2.out 1
      have d2 : W9.cell? ⟨w.heap.size, 2, none⟩ = some (.int .i64 0) := blk_cell HK2.out 2
      have f0 : W9.frozen? ⟨w.heap.size, 0, none⟩ = false := blk_free HK2.out 0
      have f1 : W9.frozen? ⟨w.heap.size, 1, none⟩ = false := blk_free HK2.out 1
      have f3 : W9.frozen? ⟨w.heap.size, 2, none⟩ = false := blk_free HK2.out 2
      rw [HLB.out] at c0
      rw [HW9.out] at c0 c1 c3 d0 d1 d2 f0 f1 f3
      go_wp2_with fail
      rw [← HW9.out]
      obtain ⟨h9, h10, h11⟩ := seq_fin (u0 := .slice (some ⟨gb, 0, none⟩) m cb) (u1 := .int .i64 x) (u2 := .int .i64 z) HK0.out HK1'.out HK2.out (Nat.le_refl _)
      refine bodyPost_ret (v := .tuple #[.agg #[.slice (some ⟨gb, 0, none⟩) m cb, .int .i64 x, .int .i64 z], .int .i64 0]) ?_ rfl ?_
      ·exact results_cell_tmp (u := 3) (t := 2) rfl (by rfl) (blk_all (cs := [.slice (some ⟨gb, 0, none⟩) m cb, .int .i64 x, .int .i64 z]) h9) Tryz.underlying52 rfl (by kernel_rfl)
      ·unfold SeqPost
       rw [if_neg (by rw [HPE.out]; simp), if_neg (by rw [← HSL.out, ← HLS.out, ← HCNT.out]; exact HC5.out), HB0.out, ← HK1.out, ← HX.out]
       rw [HLB.out] at h10
       exact ⟨⟨_, rfl, h10⟩, h11⟩
     ·have HB0 : Hid (boundL l = 0) := by show (if _ then _ else _) = _; rw [if_neg (by have := HM.out; have := HLS.out; omega)]
      have hm1' : ¬ (1 : Int) < (m : Int) := by omega
      have c0 : w6.cell? ⟨b6, 0, none⟩ = _ := blk_cell HI2.out.c6 0
      have c1 : w6.cell? ⟨b6, 1, none⟩ = some (.int .i64 x) := blk_cell HI2.out.c6 1
      have c2 : w6.cell? ⟨b6, 2, none⟩ = some (.int .i64 0) := blk_cell HI2.out.c6 2
      have d0 : w6.cell? ⟨w.heap.size, 0, none⟩ = some (.slice none 0 0) := blk_cell HI2.out.c2 0
      have d1 : w6.cell? ⟨w.heap.size, 1, none⟩ = some (.int .i64 0) := blk_cell HI2.out.c2 1
      have d2 : w6.cell? ⟨w.heap.size, 2, none⟩ = some (.int .i64 0) := blk_cell HI2.out.c2 2
      have f0 : w6.frozen? ⟨w.heap.size, 0, none⟩ = false := blk_free HI2.out.c2 0
      have f1 : w6.frozen? ⟨w.heap.size, 1, none⟩ = false := blk_free HI2.out.c2 1
      have f2 : w6.frozen? ⟨w.heap.size, 2, none⟩ = false := blk_free HI2.out.c2 2
      rw [HLB.out] at c0
      go_wp2_with fail
      obtain ⟨h9, h10, h11⟩ := seq_fin (u0 := .slice (some ⟨gb, 0, none⟩) m cb) (u1 := .int .i64 x) (u2 := .int .i64 0) HI2.out.bel HI2.out.best HI2.out.c2 (Nat.le_refl _)
      refine bodyPost_ret (v := .tuple #[.agg #[.slice (some ⟨gb, 0, none⟩) m cb, .int .i64 x, .int .i64 0], .int .i64 0]) ?_ rfl ?_
      ·exact results_cell_tmp (u := 3) (t := 2) rfl (by rfl) (blk_all (cs := [.slice (some ⟨gb, 0, none⟩) m cb, .int .i64 x, .int .i64 0]) h9) Tryz.underlying52 rfl (by kernel_rfl)
      ·unfold SeqPost
       rw [if_neg (by rw [HPE.out]; simp), if_neg (by rw [← HSL.out, ← HLS.out, ← HCNT.out]; exact HC5.out), HB0.out, ← HK1.out, ← HX.out]
       rw [HLB.out] at h10
       exact ⟨⟨_, rfl, h10⟩, h11⟩
 ·have HPE := h0d hpe
  obtain ⟨pe, hpe2⟩ : ∃ pe, pe = pitchE l := ⟨_, rfl⟩
  have HPP := h0d hpe2
  rw [← hpe2] at HP hpe
  clear hpe2
  have hb0 : (pe == 0) = false := beq_false_of_ne hpe
  go_enter Tryz.func24, Tryz.ntmps24
  go_wp2_with fail
  rw [← HW1.out]
  refine HP.out.mono ?_
  rintro e w1 ⟨rfl, hbx⟩
  have H2' := h0d (blk_below H2.out hbx)
  have HB2 := h0d (HB1.out.trans (hbx.mono HB1.out.size))
  clear hbx
  have c0 : w1.cell? ⟨w.heap.size, 0, none⟩ = some (.slice none 0 0) := blk_cell H2'.out 0
  have c1 : w1.cell? ⟨w.heap.size, 1, none⟩ = some (.int .i64 0) := blk_cell H2'.out 1
  have c2 : w1.cell? ⟨w.heap.size, 2, none⟩ = some (.int .i64 0) := blk_cell H2'.out 2
  have f0 : w1.frozen? ⟨w.heap.size, 0, none⟩ = false := blk_free H2'.out 0
  have f1 : w1.frozen? ⟨w.heap.size, 1, none⟩ = false := blk_free H2'.out 1
  have f2 : w1.frozen? ⟨w.heap.size, 2, none⟩ = false := blk_free H2'.out 2
  go_wp2_with fail
  have h9 := blk_set (i := 2) (.int .i64 0) (blk_set (i := 1) (.int .i64 0) (blk_set (i := 0) (.slice none 0 0) H2'.out))
  have h9b : Below w.heap.size w (((w1.setCell ⟨w.heap.size, 0, none⟩ (.slice none 0 0)).setCell ⟨w.heap.size, 1, none⟩ (.int .i64 0)).setCell ⟨w.heap.size, 2, none⟩ (.int .i64 0)) := ((HB2.out.setCell (Nat.le_refl _) _).setCell (Nat.le_refl _) _).setCell (Nat.le_refl _) _
  refine bodyPost_ret (v := .tuple #[.agg #[.slice none 0 0, .int .i64 0, .int .i64 0], .int .i64 pe]) ?_ rfl (by unfold SeqPost; rw [if_pos HPE.out, ← HPP.out]; exact ⟨rfl, h9b⟩)
  exact results_cell_tmp (u := 3) (t := 2) rfl (by rfl) (blk_all (cs := [.slice none 0 0, .int .i64 0, .int .i64 0]) h9) Tryz.underlying52 rfl (by kernel_rfl)
end Go.Proofs.YtodckaioeomccaaGreat
namespace Go.Proofs.YtodckaioeomccaaGreat
set_option linter.unusedVariables false
theorem noise_pos (f : Nat → Int) (n : Nat) : ∀ k, 0 ≤ Cyc.noiseN f n k
 | 0 => Int.le_refl _
 | k + 1 => by
  unfold Cyc.noiseN
  split
  ·exact noise_pos f n k
  ·exact Int.le_trans (noise_pos f n k) (Int.le_max_left _ _)
def corL (l : List Int) : List Int := (List.range l.length).map fun d => Cyc.cor (atL l) l.length d
theorem at_map {n : Nat} (f : Nat → Int) {i : Nat} (h : i < n) : atL ((List.range n).map f) i = f i := by
 refine atL_of ?_
 rw [List.getElem?_map, List.getElem?_range h]; rfl
theorem at_mem {l : List Int} {i : Nat} (h : i < l.length) : atL l i ∈ l := by
 rw [atL_of (List.getElem?_eq_getElem h)]; exact List.getElem_mem h
theorem map_take {α : Type} (f : Nat → α) (n k : Nat) (hk : k < n) : ((List.range n).map f).take (k + 1) = ((List.range n).map f).take k ++ [f k] := by
 refine take_snoc? ?_
 rw [List.getElem?_map, List.getElem?_range hk]; rfl
end Go.Proofs.YtodckaioeomccaaGreat
namespace Go.Proofs.YtodckaioeomccaaGreat
open Go.RowKit Go.Shelf
set_option linter.unusedVariables false
set_option linter.unusedSimpArgs false
theorem RdL.at_ {w : World} {v : Value} {l : List Int} (h : RdL w v l) : ∃ A cap, v = .slice A l.length cap ∧ l.length ≤ cap ∧ l.length ≤ 9223372036854775807 ∧ cap ≤ maxLen ∧
  (∀ k, k < l.length → ∃ b off, A = some ⟨b, off, none⟩ ∧ b < w.heap.size ∧ w.cell? ⟨b, off + k, none⟩ = some (.int .i64 (atL l k))) := by
 obtain ⟨A, n, cap, rfl, hn, h1, h2, h3, h4⟩ := h.open_
 subst hn
 exact ⟨A, cap, rfl, h1, h2, h3, fun k hk => by obtain ⟨b, off, x, e, hb, hx, hc⟩ := h4 k hk; exact ⟨b, off, e, hb, by rw [atL_of hx]; exact hc⟩⟩
theorem pitchE_bad {l : List Int} (h : ¬ (l.length = 0 ∨ 12 < l.length)) {k : Nat} (hk : k < l.length) (hx : ¬ (1 ≤ atL l k ∧ atL l k ≤ 100)) : pitchE l = 1 :=
 pitchE_arg h fun hall => hx (hall _ (at_mem hk))
theorem pitchE_all {l : List Int} (h : ¬ (l.length = 0 ∨ 12 < l.length)) (hx : ∀ k, k < l.length → 1 ≤ atL l k ∧ atL l k ≤ 100) : pitchE l = 0 :=
 pitchE_ok h fun x hxm => by obtain ⟨i, hi, rfl⟩ := List.mem_iff_getElem.1 hxm; have := hx i hi; rwa [atL_of (List.getElem?_eq_getElem hi)] at this
set_option maxRecDepth 100000 in
set_option maxHeartbeats 1000000 in
theorem rpitched_any (v : Value) (l : List Int) (w : World) (h : RdL w v l) :
  Calls Tryz.prog 33 #[v] w fun e w' => e = .returned (.int .i64 (pitchE l)) ∧ w' = w := by
 obtain ⟨A, cap, rfl, hcap, hmax, hcm, hc⟩ := h.at_
 have HC := h0d hc
 have HE1 := h0d (@pitchE_size l)
 have HE2 := h0d (@pitchE_all l)
 have HE3 := h0d (@pitchE_bad l)
 obtain ⟨pe, hpe⟩ : ∃ p, p = pitchE l := ⟨_, rfl⟩
 rw [← hpe] at HE1 HE2 HE3 ⊢
 obtain ⟨n, hn⟩ : ∃ n, n = l.length := ⟨_, rfl⟩
 rw [← hn] at HE1 HE2 HE3 HC hcap hmax ⊢
 clear h hc hn hcm hpe
 by_cases h0 : n = 0
 ·have he := HE1.out (.inl h0)
  subst he; subst h0
  go_enter Tryz.func33, Tryz.ntmps33
  go_wp2_with fail
  go_ret
  exact ⟨rfl, rfl⟩
 ·have hb0 : ¬ (n : Int) < 1 := by omega
  by_cases h12 : 12 < n
  ·have he := HE1.out (.inr h12)
   subst he
   have hb1 : (12 : Int) < (n : Int) := by omega
   go_enter Tryz.func33, Tryz.ntmps33
   go_wp2_with fail
   go_ret
   exact ⟨rfl, rfl⟩
  ·have hb1 : ¬ (12 : Int) < (n : Int) := by omega
   have hno : Hid (¬ (n = 0 ∨ 12 < n)) := by show ¬ _; omega
   go_enter Tryz.func33, Tryz.ntmps33
   go_wp2_with fail
   go_loop [3] (fun iv => ∃ k : Nat, k ≤ n ∧ iv = .int .i64 (k : Int) ∧ Hid (∀ j, j < k → 1 ≤ atL l j ∧ atL l j ≤ 100)) (fun iv => n - (intOf iv).toNat)
   case atStart => exact ⟨0, by omega, rfl, fun j hj => absurd hj (by omega)⟩
   case round =>
    obtain ⟨k, hk, rfl, HK⟩ := hrel
    by_cases hlt : k < n
    ·obtain ⟨b, off, rfl, hb, hx⟩ := HC.out k hlt
     have HBD := h0d (HE3.out hno.out hlt)
     have hK1 : (1 ≤ atL l k ∧ atL l k ≤ 100) → ∀ j, j < k + 1 → 1 ≤ atL l j ∧ atL l j ≤ 100 := fun hh j hj => by
      rcases Nat.lt_or_ge j k with h | h
      ·exact HK.out j h
      ·obtain rfl : j = k := by omega
       exact hh
     have HK1 := h0d hK1
     obtain ⟨x, hxx⟩ : ∃ x, x = atL l k := ⟨_, rfl⟩
     rw [← hxx] at hx HBD HK1
     clear hK1 hxx hb
     by_cases h1 : x < 1
     ·have he := HBD.out (by omega)
      subst he
      go_wp2_with fail
      go_ret
      exact ⟨rfl, rfl⟩
     ·by_cases h2 : (100 : Int) < x
      ·have he := HBD.out (by omega)
       subst he
       go_wp2_with fail
       go_ret
       exact ⟨rfl, rfl⟩
      ·have HK2 := h0d (HK1.out (by omega))
       go_wp2_with fail
       go_round
       case rel => exact ⟨k + 1, by omega, by go_num, HK2⟩
       case measure => simp [intOf]; omega
    ·have he := HE2.out hno.out (fun j hj => HK.out j (by omega))
     subst he
     go_wp2_with fail
     go_ret
     exact ⟨rfl, rfl⟩
set_option maxRecDepth 100000 in
set_option maxHeartbeats 1000000 in
theorem total_any (v : Value) (l : List Int) (w : World) (h : RdL w v l) (hl : l.length ≤ 12) (hs : SmallP l) :
  Calls Tryz.prog 36 #[v] w fun e w' => e = .returned (.int .i64 l.sum) ∧ w' = w := by
 have HSB := h0d (sum_small hs hl)
 obtain ⟨A, n, cap, rfl, hn, hcap, hmax, hcm, hc⟩ := h.open_
 have HFS : Hid ((l.take n).sum = l.sum) := by show _ = _; rw [← hn, List.take_length]
 have HC := h0d hc
 have HSM : Hid (∀ (k : Nat) (x : Int), l[k]? = some x → (l.take (k + 1)).sum = (l.take k).sum + x) := fun k x h => sum_take h
 clear hc hn h hs hcm hl
 go_enter Tryz.func36, Tryz.ntmps36
 go_wp2_with fail
 go_loop [3, 4] (fun sv iv => ∃ (k : Nat) (s : Int), k ≤ n ∧ iv = .int .i64 (k : Int) ∧ sv = .int .i64 s ∧ Hid (s = (l.take k).sum)) (fun _ iv => n - (intOf iv).toNat)
 case atStart => exact ⟨0, 0, Nat.zero_le _, rfl, rfl, rfl⟩
 case round =>
  obtain ⟨k, s, hk, rfl, rfl, HS⟩ := hrel
  by_cases hlt : k < n
  ·obtain ⟨b, off, x, rfl, hb, hx, hcx⟩ := HC.out k hlt
   obtain ⟨s', hs'⟩ : ∃ s', s' = (l.take (k + 1)).sum := ⟨_, rfl⟩
   have hw : IntKind.i64.wrap (s + x) = s' := by
    have h1 := HSB.out (k + 1)
    rw [hs', HSM.out k x hx, HS.out]; rw [HSM.out k x hx] at h1
    exact IntWalk.i64_in _ (by omega)
   have HS' := h0d hs'
   clear hs' hx hb
   go_wp2_with fail
   go_round
   case rel => exact ⟨k + 1, s', by omega, by go_num, rfl, HS'⟩
   case measure => simp [intOf]; omega
  ·obtain rfl : k = n := by omega
   have HE : Hid (s = l.sum) := HS.out.trans HFS.out
   go_wp2_with fail
   go_ret
   exact ⟨ret_int HE.out, rfl⟩
set_option maxRecDepth 100000 in
set_option maxHeartbeats 1000000 in
theorem noise35_any (v : Value) (l : List Int) (w : World) (h : RdL w v l) (hp : pitchE l = 0) :
  Calls Tryz.prog 35 #[v] w fun e w' => e = .returned (.tuple #[.int .i64 (noiseL l), .int .i64 0]) ∧ Below w.heap.size w w' := by
 obtain ⟨h0, h12, hs⟩ := pitch_ok hp
 have HP := h0d (pitched_any v l w h)
 rw [hp] at HP
 have HN : Hid (∀ w', Below w.heap.size w w' → Calls Tryz.prog 112 #[v] w' fun e w'' => e = .returned (.int .i64 (noiseL l)) ∧ w'' = w') := fun w' hb => noise_any v l w' (h.below hb) h12 hs
 obtain ⟨z, hz⟩ : ∃ z, z = noiseL l := ⟨_, rfl⟩
 rw [← hz] at HN ⊢
 clear h hs hp hz h0 h12
 go_enter Tryz.func35, Tryz.ntmps35
 go_wp2_with fail
 refine HP.out.mono ?_
 rintro e w1 ⟨rfl, hbx⟩
 have HB := h0d hbx
 clear hbx
 go_wp2_with fail
 refine (HN.out w1 HB.out).mono ?_
 rintro e w2 ⟨rfl, hw⟩
 obtain rfl := hw
 go_wp2_with fail
 go_ret2
 exact ⟨rfl, HB.out⟩
def BlkI (w : World) (g : Nat) (xs : List Int) : Prop := w.heap[g]? = some (.cells (xs.map intV).toArray 3 (0, 0))
theorem BlkI.cell {w : World} {g : Nat} {xs : List Int} {i : Nat} {x : Int} (h : BlkI w g xs) (hx : xs[i]? = some x) : w.cell? ⟨g, i, none⟩ = some (.int .i64 x) := by
 rw [cell_of_row w g i _ 3 (0, 0) h]; simp [hx, intV]
theorem BlkI.frozen {w : World} {g : Nat} {xs : List Int} (h : BlkI w g xs) (i : Nat) : w.frozen? ⟨g, i, none⟩ = false := frozen_of_row w g i _ 3 h
theorem BlkI.set_ {w : World} {g : Nat} {xs : List Int} (h : BlkI w g xs) (i : Nat) (y : Int) : BlkI (w.setCell ⟨g, i, none⟩ (.int .i64 y)) g (xs.set i y) := by
 have := heap_setCell_same w g i _ 3 (.int .i64 y) h
 unfold BlkI
 rw [this]
 congr 1
 rw [List.map_set, List.setIfInBounds_toArray]; rfl
theorem BlkI.new (w : World) (xs : List Int) : BlkI (w.alloc (.cells (xs.map intV).toArray 3)) w.heap.size xs := heap_alloc_new w _
theorem BlkI.own {w : World} {g base : Nat} {xs : List Int} (h : BlkI w g xs) (hb : base ≤ g) (hm : xs.length ≤ maxLen) : OwnL w base (.slice (some ⟨g, 0, none⟩) xs.length xs.length) xs := by
 refine ⟨by simp, .inr ⟨g, xs.length, _, rfl, hb, h, Nat.le_refl _, hm, by simp, ?_⟩⟩
 simp [List.take_of_length_le]
theorem info3N : (Tryz.prog.info? 3).map (fun i => (i.zero, i.size, i.bytes)) = some (some (.int .i64 0), 1, 8) := by kernel_rfl
theorem madeInts (n : Nat) : (madeCells (Value.int .i64 0).cells (n * 1)) = ((List.replicate n (0 : Int)).map intV).toArray := by
 rw [Nat.mul_one]
 apply Array.ext'
 have : ∀ x : Nat, x % 1 = 0 := fun x => Nat.mod_one x
 simp [madeCells, Value.cells, intV, this]
 refine List.ext_getElem (by simp) fun i h1 h2 => by simp
theorem make_ints (n : Nat) (hc : n ≤ 1000) (w : World) :
  (Instr.makeSlice 22 (.int .i64 (n : Int)) (.int .i64 (n : Int))).run Tryz.prog w = .ok (.slice (some ⟨w.heap.size, 0, none⟩) n n) (w.alloc (.cells ((List.replicate n (0 : Int)).map intV).toArray 3)) := by
 obtain ⟨i0, hi, hz0, hz1, hz2⟩ := info_parts info3N
 rw [run_make_rowN 22 3 i0 (.int .i64 0) Tryz.underlying22 hi hz0 .i64 .i64 n n (Nat.le_refl _) (by rw [hz2]; omega) (by omega) w, hz1, madeInts]
set_option maxRecDepth 100000 in
set_option maxHeartbeats 2000000 in
theorem auto_any (v : Value) (l : List Int) (w : World) (h : RdL w v l) (hp : pitchE l = 0) :
  Calls Tryz.prog 34 #[v] w fun e w' => (∃ v', e = .returned (.tuple #[v', .int .i64 0]) ∧ OwnL w' w.heap.size v' (corL l)) ∧ Below w.heap.size w w' := by
 obtain ⟨h0, h12, hs⟩ := pitch_ok hp
 have HP := h0d (pitched_any v l w h)
 rw [hp] at HP
 have HC : Hid (∀ (d : Nat) w', d ≤ 12 → Below w.heap.size w w' → Calls Tryz.prog 115 #[v, .int .i64 (d : Int)] w' fun e w'' => e = .returned (.int .i64 (Cyc.cor (atL l) l.length d)) ∧ w'' = w') := fun d w' hd hb => corr_any v l d w' (h.below hb) h12 hs hd
 obtain ⟨A, cap, rfl, -⟩ := h.at_
 have HLC : Hid ((corL l).length = l.length) := by show _ = _; unfold corL; rw [List.length_map, List.length_range]
 have HCK : Hid (∀ k, k < l.length → (corL l).take (k + 1) = (corL l).take k ++ [Cyc.cor (atL l) l.length k]) := fun k hk => map_take _ _ _ hk
 obtain ⟨g, hg⟩ : ∃ g : Nat → Int, g = fun d => Cyc.cor (atL l) l.length d := ⟨_, rfl⟩
 have HC1 : Hid (∀ (d : Nat) w', d ≤ 12 → Below w.heap.size w w' → Calls Tryz.prog 115 #[.slice A l.length cap, .int .i64 (d : Int)] w' fun e w'' => e = .returned (.int .i64 (g d)) ∧ w'' = w') := by rw [hg]; exact HC.out
 have HCK1 : Hid (∀ k, k < l.length → (corL l).take (k + 1) = (corL l).take k ++ [g k]) := by rw [hg]; exact HCK.out
 obtain ⟨n, hn⟩ : ∃ n, n = l.length := ⟨_, rfl⟩
 rw [← hn] at HC1 HCK1 HLC h12
 have HP1 : Hid (Calls Tryz.prog 107 #[.slice A n cap] w fun e w' => e = .returned (.int .i64 0) ∧ Below w.heap.size w w') := by rw [hn]; exact HP.out
 show Calls _ _ #[.slice A l.length cap] _ _
 rw [← hn]
 clear h hs hp h0 HC HCK hg HP hn
 go_enter Tryz.func34, Tryz.ntmps34
 go_wp2_with fail
 refine HP1.out.mono ?_
 rintro e w1 ⟨rfl, hbx⟩
 have HB := h0d hbx
 clear hbx HP1
 have HMK := make_ints n (by omega)
 obtain ⟨C0, hC0⟩ : ∃ C, C = ((List.replicate n (0 : Int)).map intV).toArray := ⟨_, rfl⟩
 rw [← hC0] at HMK
 have HB0 : Hid (BlkI (w1.alloc (.cells C0 3)) w1.heap.size (List.replicate n 0)) := by rw [hC0]; exact BlkI.new w1 _
 have HB1 : Hid (Below w.heap.size w (w1.alloc (.cells C0 3))) := HB.out.alloc HB.out.size _
 have HSZ := h0d HB.out.size
 clear hC0
 go_wp2_with fail
 go_loopw [6, 17] (fun _ iv wr => ∃ (k : Nat) (O : List Int), k ≤ n ∧ iv = .int .i64 (k : Int) ∧ Hid (O.length = n) ∧ Hid (BlkI wr w1.heap.size O) ∧ Hid (O.take k = (corL l).take k) ∧ Hid (Below w.heap.size w wr)) (fun _ iv _ => n - (intOf iv).toNat)
 case atStart => exact ⟨0, List.replicate n 0, Nat.zero_le _, rfl, by show _ = _; simp, HB0, by show _ = _; simp, HB1⟩
 case round =>
  obtain ⟨k, O, hk, rfl, HOL, HBK, HT, HBE⟩ := hrel
  by_cases hlt : k < n
  ·have hcg := HBK.out.cell (i := k) (x := O.getD k 0) (by rw [List.getD_eq_getElem?_getD, List.getElem?_eq_getElem (by have := HOL.out; omega)]; rfl)
   have hfg := HBK.out.frozen k
   have HCA := h0d (HC1.out k wr (by omega) HBE.out)
   have HT1 := h0d (HCK1.out k hlt)
   obtain ⟨z, hz⟩ : ∃ z, z = g k := ⟨_, rfl⟩
   rw [← hz] at HCA HT1
   have HBK1 := h0d (HBK.out.set_ k z)
   have HBE1 : Hid (Below w.heap.size w (wr.setCell ⟨w1.heap.size, k, none⟩ (.int .i64 z))) := HBE.out.setCell HSZ.out _
   have HT2 : Hid ((O.set k z).take (k + 1) = (corL l).take (k + 1)) := by
    show _ = _
    rw [HT1.out, set_take_succ (by have := HOL.out; omega), HT.out]
   have HOL1 : Hid ((O.set k z).length = n) := by show _ = _; rw [List.length_set]; exact HOL.out
   clear hz
   go_wp2_with (go_at_call 115; refine HCA.out.mono ?_; rintro e w2 ⟨rfl, hwx⟩; obtain rfl := hwx.symm)
   go_roundw
   case rel => exact ⟨k + 1, _, by omega, by go_num, HOL1, HBK1, HT2, HBE1⟩
   case measure => simp [intOf]; omega
  ·obtain rfl : k = n := by omega
   have HOW : Hid (OwnL wr w.heap.size (.slice (some ⟨w1.heap.size, 0, none⟩) k k) (corL l)) := by
    have e : O = corL l := by
     have := HT.out
     rwa [List.take_of_length_le (by rw [HOL.out]; omega), List.take_of_length_le (by rw [HLC.out]; omega)] at this
    have := HBK.out.own HSZ.out (by rw [HOL.out]; unfold maxLen; omega)
    rw [HOL.out, e] at this
    exact this
   go_wp2_with fail
   go_ret2
   exact ⟨⟨_, rfl, HOW.out⟩, HBE.out⟩
end Go.Proofs.YtodckaioeomccaaGreat
namespace Go.Proofs.YtodckaioeomccaaGreat
open Go.RowKit Go.Shelf
set_option linter.unusedVariables false
set_option linter.unusedSimpArgs false
theorem set_mid {P Z : List Int} {s s' : Int} {k : Nat} (h : P.length = k) : (P ++ s :: Z).set k s' = P ++ s' :: Z := by subst h; simp
theorem get_mid {P Z : List Int} {s : Int} {k : Nat} (h : P.length = k) : (P ++ s :: Z)[k]? = some s := by subst h; simp
theorem cor_small {l : List Int} (hl : l.length ≤ 12) (hs : SmallP l) (d k : Nat) (hk : k ≤ l.length) : 0 ≤ Cyc.sumN k (fun i => atL l i * atL l ((i + d) % l.length)) ∧ Cyc.sumN k (fun i => atL l i * atL l ((i + d) % l.length)) ≤ 120000 := by
 have := sumN_bound (n := k) (g := fun i => atL l i * atL l ((i + d) % l.length)) (c := 10000) fun i hi => by
  have a := hs _ (at_mem (l := l) (i := i) (by omega))
  have b := hs _ (at_mem (l := l) (i := (i + d) % l.length) (Nat.mod_lt _ (by omega)))
  constructor
  ·exact Int.mul_nonneg (by omega) (by omega)
  ·exact Int.mul_le_mul a.2 b.2 (by omega) (by omega)
 omega
set_option maxRecDepth 100000 in
set_option maxHeartbeats 2000000 in
theorem rauto_any (v : Value) (l : List Int) (w : World) (h : RdL w v l) (h12 : l.length ≤ 12) (hs : SmallP l) :
  Calls Tryz.prog 55 #[v] w fun e w' => (∃ v', e = .returned v' ∧ OwnL w' w.heap.size v' (corL l)) ∧ Below w.heap.size w w' := by
 obtain ⟨A, cap, rfl, hcap, hmax, hcm, hc⟩ := h.at_
 have HC := h0d hc
 have HLC : Hid ((corL l).length = l.length) := by show _ = _; unfold corL; rw [List.length_map, List.length_range]
 have HCK : Hid (∀ k, k < l.length → (corL l).take (k + 1) = (corL l).take k ++ [Cyc.cor (atL l) l.length k]) := fun k hk => map_take _ _ _ hk
 have HCS := h0d (cor_small h12 hs)
 have HXS : Hid (∀ k, k < l.length → 1 ≤ atL l k ∧ atL l k ≤ 100) := fun k hk => hs _ (at_mem hk)
 obtain ⟨g, hg⟩ : ∃ g : Nat → Nat → Int, g = fun d k => Cyc.sumN k (fun i => atL l i * atL l ((i + d) % l.length)) := ⟨_, rfl⟩
 have HG0 : Hid (∀ d, g d 0 = 0) := fun d => by rw [hg]; rfl
 have HG1 : Hid (∀ d k, g d (k + 1) = g d k + atL l k * atL l ((k + d) % l.length)) := fun d k => by rw [hg]; rfl
 have HGN : Hid (∀ d, Cyc.cor (atL l) l.length d = g d l.length) := fun d => by rw [hg]; rfl
 have HGS : Hid (∀ d k, k ≤ l.length → 0 ≤ g d k ∧ g d k ≤ 120000) := by rw [hg]; exact HCS.out
 obtain ⟨n, hn⟩ : ∃ n, n = l.length := ⟨_, rfl⟩
 rw [← hn] at HC HLC HCK HXS HG1 HGN HGS hcap hmax h12 ⊢
 clear h hc hcm hs hg hn HCS
 have HMK := make_ints n (by omega)
 obtain ⟨C0, hC0⟩ : ∃ C, C = ((List.replicate n (0 : Int)).map intV).toArray := ⟨_, rfl⟩
 rw [← hC0] at HMK
 have HB0 : Hid (BlkI (w.alloc (.cells C0 3)) w.heap.size (List.replicate n 0)) := by rw [hC0]; exact BlkI.new w _
 have HB1 : Hid (Below w.heap.size w (w.alloc (.cells C0 3))) := (Below.refl _ _).alloc (Nat.le_refl _) _
 clear hC0
 go_enter Tryz.func55, Tryz.ntmps55
 go_wp2_with fail
 go_loopw [4, 5] (fun dv _ wr => ∃ (d : Nat), d ≤ n ∧ dv = .int .i64 (d : Int) ∧ Hid (BlkI wr w.heap.size ((corL l).take d ++ List.replicate (n - d) 0)) ∧ Hid (Below w.heap.size w wr)) (fun dv _ _ => n - (intOf dv).toNat)
 case atStart => exact ⟨0, Nat.zero_le _, rfl, HB0, HB1⟩
 case round =>
  clear HB0 HB1 HMK
  obtain ⟨d, hd, rfl, HBK, HBE⟩ := hrel
  by_cases hlt : d < n
  ·obtain ⟨P, hP⟩ : ∃ P, P = (corL l).take d := ⟨_, rfl⟩
   have HPL : Hid (P.length = d) := by show _ = _; rw [hP, List.length_take, HLC.out]; omega
   have HPN : Hid ((corL l).take (d + 1) = P ++ [g d n]) := by show _ = _; rw [HCK.out d hlt, HGN.out, hP]
   obtain ⟨Z, hZ⟩ : ∃ Z, Z = List.replicate (n - (d + 1)) (0 : Int) := ⟨_, rfl⟩
   have HBK1 : Hid (BlkI wr w.heap.size (P ++ g d 0 :: Z)) := by
    have := HBK.out
    rw [show n - d = (n - (d + 1)) + 1 by omega, List.replicate_succ, ← hP, ← hZ, ← HG0.out d] at this
    rw [HG0.out d] at this ⊢
    exact this
   have HZ := h0d hZ
   clear hP hZ HBK
   obtain ⟨wo, rfl⟩ : ∃ wo : World, wo = wr := ⟨_, rfl⟩
   go_wp2_with fail
   go_loopw [5] (fun iv wr => ∃ (i : Nat), i ≤ n ∧ iv = .int .i64 (i : Int) ∧ Hid (BlkI wr w.heap.size (P ++ g d i :: Z)) ∧ Hid (Below w.heap.size w wr)) (fun iv _ => n - (intOf iv).toNat)
   case atStart => exact ⟨0, Nat.zero_le _, rfl, HBK1, HBE⟩
   case round =>
    clear HBK1 HBE
    obtain ⟨i, hi, rfl, HBK, HBE⟩ := hrel
    by_cases hin : i < n
    ·obtain ⟨j, hj⟩ : ∃ j, j = (i + d) % n := ⟨_, rfl⟩
     have hjn : j < n := by rw [hj]; exact Nat.mod_lt _ (by omega)
     obtain ⟨b, off, rfl, hb, hx⟩ := HC.out i hin
     obtain ⟨b', off', e, hb', hy⟩ := HC.out j hjn
     simp only [Option.some.injEq, Addr.mk.injEq] at e
     obtain ⟨rfl, rfl, _⟩ := e
     have h1 := HG1.out d i
     rw [← hj] at h1
     have hxs := HXS.out i hin
     have hys := HXS.out j hjn
     have hs1 := HGS.out d i (by omega)
     have hs2 := HGS.out d (i + 1) (by omega)
     obtain ⟨x, hxx⟩ : ∃ x, x = atL l i := ⟨_, rfl⟩
     obtain ⟨y, hyy⟩ : ∃ y, y = atL l j := ⟨_, rfl⟩
     rw [← hxx] at hx h1 hxs
     rw [← hyy] at hy h1 hys
     have c1 : wr.cell? ⟨w.heap.size, d, none⟩ = some (.int .i64 (g d i)) := HBK.out.cell (get_mid HPL.out)
     have f1 := HBK.out.frozen d
     have HBS : ∀ s' : Int, BlkI (wr.setCell ⟨w.heap.size, d, none⟩ (.int .i64 s')) w.heap.size (P ++ s' :: Z) := fun s' => by
      have := HBK.out.set_ d s'
      rwa [set_mid HPL.out] at this
     obtain ⟨s, hss⟩ : ∃ s, s = g d i := ⟨_, rfl⟩
     obtain ⟨s', hss'⟩ : ∃ s, s = g d (i + 1) := ⟨_, rfl⟩
     have HSS := h0d hss'
     have HSS0 := h0d hss
     rw [← hss'] at h1 hs2
     rw [← hss] at h1 hs1 c1
     have HB2 := h0d (HBS s')
     have HE2 : Hid (Below w.heap.size w (wr.setCell ⟨w.heap.size, d, none⟩ (.int .i64 s'))) := HBE.out.setCell (Nat.le_refl _) _
     have c2 := (HBE.out.cell (p := ⟨b, off + i, none⟩) hb).trans hx
     have c3 := (HBE.out.cell (p := ⟨b, off + j, none⟩) hb').trans hy
     obtain ⟨q, hq⟩ : ∃ q : Nat, q = i + d := ⟨_, rfl⟩
     have hw1 : IntKind.i64.wrap ((i : Int) + (d : Int)) = (q : Int) := by rw [IntWalk.i64_in _ (by omega), hq]; omega
     have hrem : ((q : Int)).tmod (n : Int) = (j : Int) := by rw [hj, ← hq, Int.tmod_eq_emod_of_nonneg (by omega), Int.natCast_emod]
     have hw0 : IntKind.i64.wrap (j : Int) = (j : Int) := IntWalk.i64_in _ (by omega)
     have hnz : ((n : Int) == 0) = false := beq_false_of_ne (by omega)
     have hnz2 : ¬ n = 0 := by omega
     obtain ⟨p, hp⟩ : ∃ p, p = x * y := ⟨_, rfl⟩
     have hp0 : 0 ≤ p ∧ p ≤ 10000 := by
      rw [hp]
      exact ⟨Int.mul_nonneg (by omega) (by omega), Int.mul_le_mul hxs.2 hys.2 (by omega) (by omega)⟩
     have hw2 : IntKind.i64.wrap (x * y) = p := by rw [← hp]; exact IntWalk.i64_in _ (by omega)
     have hw3 : IntKind.i64.wrap (s + p) = s' := by rw [h1, ← hp]; exact IntWalk.i64_in _ (by omega)
     clear hxx hyy hj hb hb' hx hy h1 hxs hys hs1 hs2 hss hss' hq hp hp0 HBS
     go_wp2_with fail
     go_still_tail 22, (by kernel_rfl)
     clear c2 c3 hw1 hw2 hw3 hrem hw0 hnz hnz2
     go_wp2_with fail
     clear f1 c1
     go_roundw
     case rel => exact ⟨i + 1, by omega, by go_num, by rw [← HSS.out]; exact HB2.out, HE2.out.drew⟩
     case measure => simp [intOf]; omega
    ·obtain rfl : n = i := by omega
     have HB2 : Hid (BlkI wr w.heap.size ((corL l).take (d + 1) ++ List.replicate (n - (d + 1)) 0)) := by
      rw [HPN.out, ← HZ.out, List.append_assoc]; exact HBK.out
     go_wp2_with fail
     go_roundw
     case rel => exact ⟨d + 1, by omega, by go_num, HB2, HBE⟩
     case measure => simp [intOf]; omega
  ·obtain rfl : n = d := by omega
   have HOW : Hid (OwnL wr w.heap.size (.slice (some ⟨w.heap.size, 0, none⟩) n n) (corL l)) := by
    have h1 := HBK.out
    rw [List.take_of_length_le (by rw [HLC.out]; omega), Nat.sub_self, List.replicate_zero, List.append_nil] at h1
    have := h1.own (Nat.le_refl _) (by rw [HLC.out]; unfold maxLen; omega)
    rwa [HLC.out] at this
   go_wp2_with fail
   go_ret
   exact ⟨⟨_, rfl, HOW.out⟩, HBE.out⟩
end Go.Proofs.YtodckaioeomccaaGreat
namespace Go.Proofs.YtodckaioeomccaaGreat
open Go.RowKit Go.Shelf
set_option linter.unusedVariables false
set_option linter.unusedSimpArgs false
theorem ownCells {w : World} {B : Nat} {A : Option Addr} {n cap : Nat} {l : List Int} (h : OwnL w B (.slice A n cap) l) : ∀ k, k < l.length → ∃ b off, A = some ⟨b, off, none⟩ ∧ b < w.heap.size ∧ w.cell? ⟨b, off + k, none⟩ = some (.int .i64 (atL l k)) := by
 obtain ⟨A', cap', e, _, _, _, hc⟩ := h.rd.at_
 injection e with e1 e2 e3
 subst e1
 exact hc
set_option maxRecDepth 100000 in
set_option maxHeartbeats 1000000 in
theorem rnoise_any (v : Value) (l : List Int) (w : World) (h : RdL w v l) (h12 : l.length ≤ 12) (hs : SmallP l) :
  Calls Tryz.prog 56 #[v] w fun e w' => e = .returned (.int .i64 (noiseL l)) ∧ Below w.heap.size w w' := by
 have HA := h0d (rauto_any v l w h h12 hs)
 have HLC : Hid ((corL l).length = l.length) := by show _ = _; unfold corL; rw [List.length_map, List.length_range]
 have HAT : Hid (∀ d, d < l.length → atL (corL l) d = Cyc.cor (atL l) l.length d) := fun d hd => at_map _ hd
 obtain ⟨A, cap, rfl, hcap, hmax, hcm, hc⟩ := h.at_
 obtain ⟨f, hf⟩ : ∃ f : Nat → Int, f = fun k => Cyc.noiseN (atL l) l.length k := ⟨_, rfl⟩
 obtain ⟨g, hg⟩ : ∃ g : Nat → Int, g = fun d => Cyc.cor (atL l) l.length d := ⟨_, rfl⟩
 have HATG : Hid (∀ d, d < l.length → atL (corL l) d = g d) := by rw [hg]; exact HAT.out
 have HF0 : Hid (f 0 = 0) := by rw [hf]; rfl
 have HF1 : Hid (f 1 = 0) := by rw [hf]; rfl
 have HFS : Hid (∀ k, 1 ≤ k → f (k + 1) = max (f k) (g k)) := fun k hk => by
  rw [hf, hg]
  show (if k = 0 then _ else _) = _
  rw [if_neg (by omega)]
 have HFN : Hid (noiseL l = f l.length) := by rw [hf]; rfl
 have HFZ : Hid (∀ k, 0 ≤ f k) := fun k => by rw [hf]; exact noise_pos _ _ _
 rw [HFN.out]
 obtain ⟨n, hn⟩ : ∃ n, n = l.length := ⟨_, rfl⟩
 rw [← hn] at HA HLC HATG h12 hcap hmax ⊢
 clear h hs hc hcm hf hg HFN hn HAT
 go_enter Tryz.func56, Tryz.ntmps56
 go_wp2_with fail
 refine HA.out.mono ?_
 rintro e w1 ⟨⟨va, rfl, ho⟩, hbx⟩
 obtain ⟨Aa, ca, rfl⟩ := ho.slice
 have HO := h0d ho
 have HB := h0d hbx
 rw [HLC.out] at HO ⊢
 clear ho hbx HA
 go_wp2_with fail
 go_loop [3, 5] (fun sv iv => ∃ (k : Nat) (s : Int), 1 ≤ k ∧ (k ≤ n ∨ k = 1) ∧ iv = .int .i64 (k : Int) ∧ sv = .int .i64 s ∧ Hid (s = f k)) (fun _ iv => n - (intOf iv).toNat)
 case atStart => exact ⟨1, 0, Nat.le_refl _, .inr rfl, rfl, rfl, HF1.out.symm⟩
 case round =>
  obtain ⟨k, s, hk1, hk, rfl, rfl, HS⟩ := hrel
  by_cases hlt : k < n
  ·obtain ⟨b, off, rfl, hb, hx⟩ := ownCells HO.out k (by rw [HLC.out]; exact hlt)
   rw [HATG.out k hlt] at hx
   obtain ⟨x, hxx⟩ : ∃ x, x = g k := ⟨_, rfl⟩
   have HFK := h0d (HFS.out k hk1)
   rw [← hxx, ← HS.out] at HFK
   rw [← hxx] at hx
   clear hxx hb
   by_cases hgt : s < x
   ·have HS1 : Hid (x = f (k + 1)) := by show _ = _; rw [HFK.out]; omega
    go_wp2_with fail
    go_round
    case rel => exact ⟨k + 1, x, by omega, by omega, by go_num, rfl, HS1⟩
    case measure => simp [intOf]; omega
   ·have HS1 : Hid (s = f (k + 1)) := by show _ = _; rw [HFK.out]; omega
    go_wp2_with fail
    go_round
    case rel => exact ⟨k + 1, s, by omega, by omega, by go_num, rfl, HS1⟩
    case measure => simp [intOf]; omega
  ·have HE : Hid (s = f n) := by
    show _ = _
    rcases hk with h | h
    ·rw [HS.out, show k = n by omega]
    ·rcases (show n = 0 ∨ n = 1 by omega) with h0 | h0
     ·rw [HS.out, h, h0, HF0.out, HF1.out]
     ·rw [HS.out, h, h0]
   go_wp2_with fail
   go_ret
   exact ⟨ret_int HE.out, HB.out⟩
end Go.Proofs.YtodckaioeomccaaGreat
