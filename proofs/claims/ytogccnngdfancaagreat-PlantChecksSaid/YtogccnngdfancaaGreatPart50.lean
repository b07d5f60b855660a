/- The walk of the statement PlantChecks. -/
import Derived.Test.YtogccnngdfancaaGreatPart37
import Derived.Test.YtogccnngdfancaaGreatPart41
import Derived.Test.YtogccnngdfancaaGreatPart42
import Derived.Test.YtogccnngdfancaaGreatPart43
import Derived.Test.YtogccnngdfancaaGreatPart48
import Derived.Test.YtogccnngdfancaaGreatPart49
import Derived.Test.YtogccnngdfancaaGreatPart51
import Derived.Test.YtogccnngdfancaaGreatPart02
namespace Go.Proofs.YtogccnngdfancaaGreat
open Go.RowKit
set_option linter.unusedVariables false
set_option linter.unusedSimpArgs false
/-- The cells of plain data of a fraction. -/
def ratioC (c : Int × Int) : List Value := [.int .i64 c.1, .int .i64 c.2]
theorem ratioC_0 (x : Int × Int) : ∃ u, (ratioC x)[0]? = some u := ⟨_, rfl⟩
def I64 (n : Int) : Prop := -9223372036854775808 ≤ n ∧ n ≤ 9223372036854775807
def ofR (c : Int × Int) : Rat := ofRatio c.1 c.2
theorem info52q : (Tryz.prog.info? 52).map (fun i => (i.zero, i.size, i.bytes)) = some (some (.agg #[.bool false, .slice none 0 0, .slice none 0 0]), 3, 56) := by kernel_rfl
theorem info56q : (Tryz.prog.info? 56).map (fun i => (i.zero, i.size, i.bytes)) = some (some (.agg #[.bool false, .slice none 0 0, .slice none 0 0]), 3, 56) := by kernel_rfl
theorem le56 : 56 ≤ 1000 := by decide
theorem one3q (s : Bool) (A : Option Addr) (k c : Nat) (B : Option Addr) (l m : Nat) : ∀ u ∈ (#[.bool s, .slice A k c, .slice B l m] : Array Value).toList, u.oneCell' = true := by
  intro u hu; simp at hu; rcases hu with rfl | rfl | rfl <;> rfl
theorem ni3q (s : Bool) (A : Option Addr) (k c : Nat) (B : Option Addr) (l m : Nat) : ∀ u ∈ (#[.bool s, .slice A k c, .slice B l m] : Array Value).toList, NI u := by
  intro u hu; simp at hu; rcases hu with rfl | rfl | rfl <;> intro _ _ <;> simp
theorem ni3z : ∀ u ∈ (Value.agg #[.bool false, .slice none 0 0, .slice none 0 0]).cells, NI u := by
  intro u hu; simp [Value.cells] at hu; rcases hu with rfl | rfl <;> intro _ _ <;> simp
theorem ofRatio_num {n d : Int} (h1 : I64 n) (h2 : I64 d) : QS 1 (ofRatio n d) := by
  have hb : ∀ z : Int, I64 z → dl z.natAbs ≤ 1 := fun z hz => dl_small (by unfold I64 at hz; unfold B64; omega)
  unfold ofRatio
  split
  · exact ⟨hb n h1, by show dl 1 ≤ 1; rw [dl_one]; omega⟩
  · rename_i hd
    have hd2 : d.natAbs ≠ 0 := by omega
    unfold ratio
    obtain ⟨_, k2, k3⟩ := mk_parts (z := if d < 0 then -n else n) hd2
    refine ⟨?_, ?_⟩
    · rw [k2]
      refine Nat.le_trans (dl_mono (Nat.div_le_self _ _)) ?_
      have : (if d < 0 then -n else n).natAbs = n.natAbs := by split <;> omega
      rw [this]; exact hb n h1
    · rw [k3]; exact Nat.le_trans (dl_mono (Nat.div_le_self _ _)) (hb d h2)
theorem QS.eSum {f : JobD → Rat} {k : Nat} (hk : ∀ j, QS k (f j)) : ∀ l : List JobD, QS ((k + 1) * l.length + 1) (eSum f l) := by
  intro l
  induction l with
  | nil => exact QS.zero (by omega)
  | cons x l ih =>
    rw [eSum_cons]
    refine ((hk x).add ih).mono ?_
    rw [List.length_cons, Nat.mul_add]; omega
theorem qs_sum {d : WorksD} {l : List JobD} {qs : List Rat} {ch : Rat} (h : ∀ q ∈ qs, QS 1 q) (hc : QS 1 ch) (hl : l.length ≤ 1000) : QS 900000 (enSum d l qs ch) := by
  unfold enSum
  split
  · refine (QS.eSum (k := 3) (fun j => ?_) l).mono (by omega)
    have h1 : QS 1 (qAt qs j.kind) := by
      unfold qAt
      cases e : qs[j.kind.toNat]? with
      | none => exact QS.zero (by omega)
      | some q => exact h q (mem_of_get? e)
    by_cases ht : Turns l j
    · rw [enF_yes ht]; exact (h1.add hc).mono (by omega)
    · rw [enF_no ht]; exact h1.mono (by omega)
  · exact QS.zero (by omega)
theorem grown_cell {w w' : World} {row : Option Nat} (hg : w.grownBy w' row) {b i : Nat} {u : Value} (hc : w.cell? ⟨b, i, none⟩ = some u) (hr : row ≠ some b) : w'.cell? ⟨b, i, none⟩ = some u :=
  (World.cell?_of_block (w := w) (a := ⟨b, i, none⟩) (hg.block b (World.block_lt_of_cell? w ⟨b, i, none⟩ hc) (fun e => hr e.symm))).trans hc
set_option maxRecDepth 100000 in
set_option maxHeartbeats 8000000 in
theorem checks_any (v vl vq : Value) (d : WorksD) (l : List JobD) (rs : List (Int × Int)) (cn cd : Int) (S T U : Nat → Prop) (w : World) (hv : WkV w S v d) (hl : RdK 3 jobC w T vl l) (hr : RdK 2 ratioC w U vq rs) (hri : ∀ r ∈ rs, I64 r.1 ∧ I64 r.2) (hcn : I64 cn) (hcd : I64 cd) :
    Calls Tryz.prog 3 #[v, vl, vq, .agg #[.int .i64 cn, .int .i64 cd]] w fun e w' => e = .returned (.bool true) ∧ Below w.heap.size w w' := by
  obtain ⟨i0, hi0, hz0, hz1, hz2⟩ := info_parts info52q
  obtain ⟨j0, hj0, hy0, hy1, hy2⟩ := info_parts info56q
  have HV := Lib.hid hv
  have HL := Lib.hid hl
  have HRI := Lib.hid hri
  have HCN := Lib.hid hcn
  have HCD := Lib.hid hcd
  obtain ⟨vc, vn, vm, rfl, q1, q2, q3⟩ := hv.lt
  obtain ⟨Ac, nc, cc, rfl, hnc, -, hmc, -⟩ := q1.open_
  obtain ⟨An, nn, cnn, rfl, -, -, -, -⟩ := q2.open_
  obtain ⟨Am, nm, cm, rfl, -, -, -, -⟩ := q3.open_
  obtain ⟨Aj, nj, cj, rfl, hnj, hcj, hmj, -⟩ := hl.open_
  obtain ⟨Aq, nq, cq, rfl, hnq, hcapq, hmq, hqc⟩ := (hr.lt ratioC_0).open_
  have HQC := Lib.hid hqc
  have HNJ := Lib.hid hnj
  have HNQ := Lib.hid hnq
  obtain ⟨W1, hW1⟩ : ∃ W1, W1 = ((w.alloc (.cells #[.int .i64 d.presses, .int .i64 d.change, .slice Ac nc cc, .slice An nn cnn, .slice Am nm cm] 24)).alloc (.cells #[.int .i64 cn, .int .i64 cd] 28)) := ⟨_, rfl⟩
  have hb1 : Below w.heap.size w W1 := by rw [hW1]; exact ((Below.refl _ w).alloc (Nat.le_refl _) _).alloc (by simp) _
  have HSZ : Hid (W1.heap.size = w.heap.size + 2) := by show _ = _; rw [hW1]; simp
  have hm4 : W1.heap[w.heap.size]? = some (.cells #[.int .i64 d.presses, .int .i64 d.change, .slice Ac nc cc, .slice An nn cnn, .slice Am nm cm] 24 (0, 0)) := by
    rw [hW1]
    exact ((Below.refl (w.alloc _).heap.size (w.alloc _)).alloc (Nat.le_refl _) _ |>.block _ (by simp)).trans (heap_alloc_new w _)
  have hm7 : W1.heap[w.heap.size + 1]? = some (.cells #[.int .i64 cn, .int .i64 cd] 28 (0, 0)) := by
    rw [hW1]
    have := heap_alloc_new (w.alloc (.cells #[.int .i64 d.presses, .int .i64 d.change, .slice Ac nc cc, .slice An nn cnn, .slice Am nm cm] 24)) (.cells #[.int .i64 cn, .int .i64 cd] 28)
    rwa [show (w.alloc (.cells #[.int .i64 d.presses, .int .i64 d.change, .slice Ac nc cc, .slice An nn cnn, .slice Am nm cm] 24)).heap.size = w.heap.size + 1 by simp] at this
  have HCELL : Hid (∀ w', Below W1.heap.size W1 w' → w'.cell? ⟨w.heap.size, 0, none⟩ = some (.int .i64 d.presses) ∧ w'.cell? ⟨w.heap.size, 1, none⟩ = some (.int .i64 d.change) ∧ w'.cell? ⟨w.heap.size, 2, none⟩ = some (.slice Ac nc cc) ∧ w'.cell? ⟨w.heap.size, 3, none⟩ = some (.slice An nn cnn) ∧ w'.cell? ⟨w.heap.size, 4, none⟩ = some (.slice Am nm cm)) := fun w' hb =>
    ⟨(resL hm4 hb 0).1, (resL hm4 hb 1).1, (resL hm4 hb 2).1, (resL hm4 hb 3).1, (resL hm4 hb 4).1⟩
  have HC7 : Hid (∀ w', Below W1.heap.size W1 w' → w'.cell? ⟨w.heap.size + 1, 0, none⟩ = some (.int .i64 cn) ∧ w'.cell? ⟨w.heap.size + 1, 1, none⟩ = some (.int .i64 cd)) := fun w' hb => ⟨(resL hm7 hb 0).1, (resL hm7 hb 1).1⟩
  obtain ⟨x0, x1, x2, x3, x4⟩ := HCELL.out W1 (Below.refl _ _)
  have HW1 := Lib.hid hW1
  have HB1 := Lib.hid hb1
  have HSL := Lib.hid (fun w' (h : Below W1.heap.size W1 w') => slight_any _ d S w' (HV.out.below (HB1.out.trans (h.mono HB1.out.size))))
  obtain ⟨sl, hsl⟩ : ∃ sl, sl = slB d := ⟨_, rfl⟩
  rw [← hsl] at HSL
  clear hW1 hm4 hm7 hb1 hqc hnj hnq hnc q1 q2 q3 hv hl hr hri hcn hcd hsl
  by_cases hall : sl = true ∧ nj ≤ 70 ∧ nq ≤ 12
  · obtain ⟨rfl, h70, h12⟩ := hall
    have h70i : (nj : Int) ≤ 70 := by omega
    have h12i : (nq : Int) ≤ 12 := by omega
    have HLL : Hid (l.length ≤ 1000) := by show _ ≤ _; rw [HNJ.out]; omega
    go_enter Tryz.func3, Tryz.ntmps3
    go_wp2_with fail
    rw [← HW1.out]
    refine (HSL.out W1 (Below.refl _ _)).mono ?_
    rintro e w2 ⟨rfl, hb2⟩
    have HB2' := Lib.hid hb2
    have HBW2 := Lib.hid (HB1.out.trans (hb2.mono HB1.out.size))
    clear hb2 x0 x1 x2 x3 x4
    go_wp2_with fail
    refine (jobs_any _ l T w2 (HL.out.below jobC_0 HBW2.out) HLL.out).mono ?_
    rintro e w3 ⟨va, vb, rfl, ra, rb, hb3⟩
    have HB3' := Lib.hid (HB2'.out.trans (hb3.mono HB2'.out.size))
    have HBW3 := Lib.hid (HB1.out.trans (HB3'.out.mono HB1.out.size))
    obtain ⟨Aa, na, ca, rfl, _, _, _, _⟩ := ra.open_
    obtain ⟨Ab, nb, cb, rfl, _, _, _, _⟩ := rb.open_
    obtain ⟨ce, hce⟩ : ∃ ce, ce = chkE d l := ⟨_, rfl⟩
    obtain ⟨en, hen⟩ : ∃ en, en = endE d l := ⟨_, rfl⟩
    obtain ⟨we, hwe⟩ : ∃ we, we = wErr d := ⟨_, rfl⟩
    obtain ⟨bo, hbo⟩ : ∃ bo, bo = (if wErr d = 0 then boundW d else 0) := ⟨_, rfl⟩
    have HVW := Lib.hid (fun w' (h : Below W1.heap.size W1 w') => HV.out.below (HB1.out.trans (h.mono HB1.out.size)))
    have HE1 := Lib.hid (fun w' (h : Below W1.heap.size W1 w') (h3 : Below w3.heap.size w3 w') => End_any _ _ d l S (w2.heap.size ≤ ·) w' (HVW.out w' h) (ra.below jobC_0 h3) HLL.out)
    have HE2 := Lib.hid (fun w' (h : Below W1.heap.size W1 w') (h3 : Below w3.heap.size w3 w') => rEnd_any _ _ d l S (w2.heap.size ≤ ·) w' (HVW.out w' h) (rb.below jobC_0 h3) HLL.out)
    have HE3 := Lib.hid (fun w' (h : Below W1.heap.size W1 w') => Bound_any _ d S w' (HVW.out w' h))
    have HE4 := Lib.hid (fun w' (h : Below W1.heap.size W1 w') => rBound_any _ d S w' (HVW.out w' h))
    have HE5 := Lib.hid (fun w' (h : Below W1.heap.size W1 w') (h3 : Below w3.heap.size w3 w') => Check_any _ _ d l S (w2.heap.size ≤ ·) w' (HVW.out w' h) (ra.below jobC_0 h3) HLL.out)
    have HE6 := Lib.hid (fun w' (h : Below W1.heap.size W1 w') (h3 : Below w3.heap.size w3 w') => rCheck_any _ _ d l S (w2.heap.size ≤ ·) w' (HVW.out w' h) (rb.below jobC_0 h3) HLL.out)
    unfold EndPost at HE1 HE2
    unfold CheckPost at HE5
    unfold RCheckPost at HE6
    rw [rchk_eq] at HE6
    rw [← hce, ← hen] at HE1 HE2
    rw [← hce] at HE5 HE6
    rw [← hbo, ← hwe] at HE3 HE4
    have HRA := Lib.hid ra
    have HRB := Lib.hid rb
    clear ra rb hb3 hce hen hwe hbo
    have HT3 : Hid (Below w3.heap.size w3 w3) := Below.refl _ _
    obtain ⟨x0, x1, x2, x3, x4⟩ := HCELL.out w3 HB3'.out
    go_wp2_with fail
    refine (HE1.out w3 HB3'.out HT3.out).mono ?_
    rintro e w4 ⟨rfl, hb⟩
    have HB4' := Lib.hid (HB3'.out.trans (hb.mono HB3'.out.size))
    have HT4 := Lib.hid (HT3.out.trans (hb.mono HT3.out.size))
    clear hb x0 x1 x2 x3 x4
    obtain ⟨x0, x1, x2, x3, x4⟩ := HCELL.out w4 HB4'.out
    go_wp2_with fail
    refine (HE2.out w4 HB4'.out HT4.out).mono ?_
    rintro e w5 ⟨rfl, hb⟩
    have HB5' := Lib.hid (HB4'.out.trans (hb.mono HB4'.out.size))
    have HT5 := Lib.hid (HT4.out.trans (hb.mono HT4.out.size))
    clear hb x0 x1 x2 x3 x4
    obtain ⟨x0, x1, x2, x3, x4⟩ := HCELL.out w5 HB5'.out
    go_wp2_with fail
    refine (HE3.out w5 HB5'.out).mono ?_
    rintro e w6 ⟨rfl, hb⟩
    have HB6' := Lib.hid (HB5'.out.trans (hb.mono HB5'.out.size))
    have HT6 := Lib.hid (HT5.out.trans (hb.mono HT5.out.size))
    clear hb x0 x1 x2 x3 x4
    obtain ⟨x0, x1, x2, x3, x4⟩ := HCELL.out w6 HB6'.out
    go_wp2_with fail
    refine (HE4.out w6 HB6'.out).mono ?_
    rintro e w7 ⟨rfl, hb⟩
    have HB7' := Lib.hid (HB6'.out.trans (hb.mono HB6'.out.size))
    have HT7 := Lib.hid (HT6.out.trans (hb.mono HT6.out.size))
    clear hb x0 x1 x2 x3 x4
    go_upto_region 8 with fail
    have HBD7 : Hid (Below W1.heap.size W1 w7.drew) := HB7'.out.drew
    have HTD7 : Hid (Below w3.heap.size w3 w7.drew) := HT7.out.drew
    refine seq_start (S := fun w' => w'.cell? ⟨w.heap.size, 0, none⟩ = some (.int .i64 d.presses) ∧ w'.cell? ⟨w.heap.size, 1, none⟩ = some (.int .i64 d.change) ∧ w'.cell? ⟨w.heap.size, 2, none⟩ = some (.slice Ac nc cc) ∧ w'.cell? ⟨w.heap.size, 3, none⟩ = some (.slice An nn cnn) ∧ w'.cell? ⟨w.heap.size, 4, none⟩ = some (.slice Am nm cm)) (by kernel_rfl) (by kernel_rfl) (by exact HCELL.out _ HBD7.out) ?_
    repeat (first
      | (refine seq_take0 (v := ?_) ?_ (fun _ _ _ h => h) (by kernel_rfl) ?_ ?_; rotate_left; (focus rfl); (focus (intro w' hSw; (try dsimp only at hSw); go_simp; (try with_reducible rfl); done)); (try simp only [Act.put, List.setIfInBounds_toArray, List.set_cons_zero, List.set_cons_succ]))
      | (refine seq_takeG (v := ?_) (g := ?_) (d := ?_) (b := ?_) (u := ?_) ?_ ?_ ?_ ?_ (fun _ _ _ h => h) (by kernel_rfl) ?_ ?_; rotate_left 5; (focus rfl); (focus rfl); (focus rfl); (focus (first | rfl | (go_simp; done))); (focus (intro w' hSw; (try dsimp only at hSw); go_simp; (try with_reducible rfl); done)); (try simp only [Act.put, List.setIfInBounds_toArray, List.set_cons_zero, List.set_cons_succ]))
      | (refine seq_skipG (g := ?_) (d := ?_) (b := ?_) (u := ?_) ?_ ?_ ?_ ?_ (fun _ _ _ h => h) (by kernel_rfl) ?_; rotate_left 4; (focus rfl); (focus rfl); (focus rfl); (focus (first | rfl | (go_simp; done))); (try simp only [Act.put, List.setIfInBounds_toArray, List.set_cons_zero, List.set_cons_succ])))
    repeat (refine seq_swap ?_; first
      | (refine seq_take0 (v := ?_) ?_ (fun _ _ _ h => h) (by kernel_rfl) ?_ ?_; rotate_left; (focus rfl); (focus (intro w' hSw; (try dsimp only at hSw); go_simp; (try with_reducible rfl); done)); (try simp only [Act.put, List.setIfInBounds_toArray, List.set_cons_zero, List.set_cons_succ]))
      | (refine seq_takeG (v := ?_) (g := ?_) (d := ?_) (b := ?_) (u := ?_) ?_ ?_ ?_ ?_ (fun _ _ _ h => h) (by kernel_rfl) ?_ ?_; rotate_left 5; (focus rfl); (focus rfl); (focus rfl); (focus (first | rfl | (go_simp; done))); (focus (intro w' hSw; (try dsimp only at hSw); go_simp; (try with_reducible rfl); done)); (try simp only [Act.put, List.setIfInBounds_toArray, List.set_cons_zero, List.set_cons_succ]))
      | (refine seq_skipG (g := ?_) (d := ?_) (b := ?_) (u := ?_) ?_ ?_ ?_ ?_ (fun _ _ _ h => h) (by kernel_rfl) ?_; rotate_left 4; (focus rfl); (focus rfl); (focus rfl); (focus (first | rfl | (go_simp; done))); (try simp only [Act.put, List.setIfInBounds_toArray, List.set_cons_zero, List.set_cons_succ])))
    refine seq_op (by kernel_rfl) (by rfl) (fun K hK => ?_)
    go_simp
    refine (HE5.out _ HBD7.out HTD7.out).mono ?_
    rintro e w8 ⟨rfl, hb⟩
    have HB8' := Lib.hid (HBD7.out.trans (hb.mono HBD7.out.size))
    have HT8 := Lib.hid (HTD7.out.trans (hb.mono HTD7.out.size))
    clear hb
    refine hK.out _ _ (by exact HCELL.out _ HB8'.out) ?_
    clear hK K
    repeat (first
      | (refine seq_take0 (v := ?_) ?_ (fun _ _ _ h => h) (by kernel_rfl) ?_ ?_; rotate_left; (focus rfl); (focus (intro w' hSw; (try dsimp only at hSw); go_simp; (try with_reducible rfl); done)); (try simp only [Act.put, List.setIfInBounds_toArray, List.set_cons_zero, List.set_cons_succ]))
      | (refine seq_takeG (v := ?_) (g := ?_) (d := ?_) (b := ?_) (u := ?_) ?_ ?_ ?_ ?_ (fun _ _ _ h => h) (by kernel_rfl) ?_ ?_; rotate_left 5; (focus rfl); (focus rfl); (focus rfl); (focus (first | rfl | (go_simp; done))); (focus (intro w' hSw; (try dsimp only at hSw); go_simp; (try with_reducible rfl); done)); (try simp only [Act.put, List.setIfInBounds_toArray, List.set_cons_zero, List.set_cons_succ]))
      | (refine seq_skipG (g := ?_) (d := ?_) (b := ?_) (u := ?_) ?_ ?_ ?_ ?_ (fun _ _ _ h => h) (by kernel_rfl) ?_; rotate_left 4; (focus rfl); (focus rfl); (focus rfl); (focus (first | rfl | (go_simp; done))); (try simp only [Act.put, List.setIfInBounds_toArray, List.set_cons_zero, List.set_cons_succ])))
    refine seq_op (by kernel_rfl) (by rfl) (fun K hK => ?_)
    go_simp
    refine (HE6.out _ HB8'.out HT8.out).mono ?_
    rintro e w9 ⟨rfl, hb⟩
    have HB9' := Lib.hid (HB8'.out.trans (hb.mono HB8'.out.size))
    have HT9 := Lib.hid (HT8.out.trans (hb.mono HT8.out.size))
    clear hb
    refine hK.out _ _ (by exact HCELL.out _ HB9'.out) ?_
    clear hK K
    repeat (first
      | (refine seq_take0 (v := ?_) ?_ (fun _ _ _ h => h) (by kernel_rfl) ?_ ?_; rotate_left; (focus rfl); (focus (intro w' hSw; (try dsimp only at hSw); go_simp; (try with_reducible rfl); done)); (try simp only [Act.put, List.setIfInBounds_toArray, List.set_cons_zero, List.set_cons_succ]))
      | (refine seq_takeG (v := ?_) (g := ?_) (d := ?_) (b := ?_) (u := ?_) ?_ ?_ ?_ ?_ (fun _ _ _ h => h) (by kernel_rfl) ?_ ?_; rotate_left 5; (focus rfl); (focus rfl); (focus rfl); (focus (first | rfl | (go_simp; done))); (focus (intro w' hSw; (try dsimp only at hSw); go_simp; (try with_reducible rfl); done)); (try simp only [Act.put, List.setIfInBounds_toArray, List.set_cons_zero, List.set_cons_succ]))
      | (refine seq_skipG (g := ?_) (d := ?_) (b := ?_) (u := ?_) ?_ ?_ ?_ ?_ (fun _ _ _ h => h) (by kernel_rfl) ?_; rotate_left 4; (focus rfl); (focus rfl); (focus rfl); (focus (first | rfl | (go_simp; done))); (try simp only [Act.put, List.setIfInBounds_toArray, List.set_cons_zero, List.set_cons_succ])))
    refine seq_done (by kernel_rfl) ?_
    go_wp2_with fail
    clear HE1 HE2 HE3 HE4 HE5 HE6
    have HTQ0 : Hid (TwoQ w9.heap.size (.slice none 0 0) (.slice none 0 0) ((rs.take 0).map ofR) ((rs.take 0).map ofR) w9 w9 [] []) := by
      show TwoQ _ _ _ _ _ _ _ _ _
      rw [List.take_zero]
      exact TwoQ.start (Nat.le_refl _)
    go_loopw [19, 20, 95] (fun va vb iv wr => ∃ (k : Nat) (cs ds : List (Bool × Value × Value)), k ≤ nq ∧ iv = .int .i64 (k : Int) ∧ TwoQ w9.heap.size va vb ((rs.take k).map ofR) ((rs.take k).map ofR) w9 wr cs ds) (fun _ _ iv _ => nq - (intOf iv).toNat)
    case atStart => exact ⟨0, [], [], Nat.zero_le _, rfl, HTQ0.out⟩
    case round =>
      clear HTQ0
      obtain ⟨k, cs, ds, hk, rfl, hT⟩ := hrel
      have HB9r : Hid (Below w.heap.size w w9) := HB1.out.trans (HB9'.out.mono HB1.out.size)
      have HBR : Hid (Below W1.heap.size W1 wr) := HB9'.out.trans (hT.t.bel.mono HB9'.out.size)
      have HBRw : Hid (Below w.heap.size w wr) := HB1.out.trans (HBR.out.mono HB1.out.size)
      by_cases hlt : k < nq
      · obtain ⟨b, off, x, rfl, ⟨_, hbl⟩, hx, hcell⟩ := HQC.out k hlt
        have d0 : wr.cell? ⟨b, off + k * 2, none⟩ = some (.int .i64 x.1) := (HBRw.out.cell (p := ⟨b, _, none⟩) hbl).trans (hcell 0 _ rfl)
        have d1 : wr.cell? ⟨b, off + k * 2 + 1, none⟩ = some (.int .i64 x.2) := (HBRw.out.cell (p := ⟨b, _, none⟩) hbl).trans (hcell 1 _ rfl)
        have HXI := Lib.hid (HRI.out x (mem_of_get? hx))
        have HSN : Hid ((rs.take (k + 1)).map ofR = (rs.take k).map ofR ++ [ofR x]) := by show _ = _; rw [take_snoc? hx, List.map_append]; rfl
        have hll : ((rs.take k).map ofR).length = k := by rw [List.length_map, List.length_take]; have := HNQ.out; omega
        obtain ⟨ps, hps⟩ : ∃ ps, ps = (rs.take k).map ofR := ⟨_, rfl⟩
        rw [← hps] at hT HSN hll
        obtain ⟨a0, a1⟩ := x
        simp only [] at d0 d1
        have HXR : Hid (ofR (a0, a1) = ofRatio a0 a1) := rfl
        obtain ⟨A1, cp1, rfl⟩ := ownsRow_slice hT.t.a
        obtain ⟨A2, cp2, rfl⟩ := ownsRow_slice hT.t.b
        rw [hll] at hT ⊢
        obtain ⟨wa, hwa⟩ : ∃ wa, wa = wr.alloc (.cells #[.int .i64 a0, .int .i64 a1] 28) := ⟨_, rfl⟩
        have hma := heap_alloc_new wr (.cells #[.int .i64 a0, .int .i64 a1] 28)
        have hba : Below wr.heap.size wr wa := by rw [hwa]; exact (Below.refl _ _).alloc (Nat.le_refl _) _
        rw [← hwa] at hma
        have HWA := Lib.hid hwa
        have HTA := Lib.hid (hT.grow hba)
        have HA1 : Hid ((Value.slice A1 k cp1).ownBlock ≠ some wr.heap.size) := fun e => by have := (hT.t.a.lt _ e).2; omega
        have HA2 : Hid ((Value.slice A2 k cp2).ownBlock ≠ some wr.heap.size) := fun e => by have := (hT.t.b.lt _ e).2; omega
        have HSA : Hid (wr.heap.size + 1 = wa.heap.size) := by show _ = _; rw [hwa]; simp
        have HMA : Hid (∀ w', Below wa.heap.size wa w' → w'.cell? ⟨wr.heap.size, 0, none⟩ = some (.int .i64 a0) ∧ w'.cell? ⟨wr.heap.size, 1, none⟩ = some (.int .i64 a1)) := fun w' hb => ⟨(resL hma hb 0).1, (resL hma hb 1).1⟩
        have hkI : (k : Int) < (nq : Int) := by omega
        have hk0 : (0 : Int) ≤ (k : Int) := by omega
        clear hx hcell hps hwa hma hba hT
        go_upto_region 15 with fail
        clear d0 d1
        rw [← HWA.out]
        have HBA0 : Hid (Below wa.heap.size wa wa.drew) := (Below.refl _ _).drew
        refine seq_start (S := fun w' => w'.cell? ⟨wr.heap.size, 0, none⟩ = some (.int .i64 a0) ∧ w'.cell? ⟨wr.heap.size, 1, none⟩ = some (.int .i64 a1)) (by kernel_rfl) (by kernel_rfl) (by exact HMA.out _ HBA0.out) ?_
        repeat (first
          | (refine seq_take0 (v := ?_) ?_ (fun _ _ _ h => h) (by kernel_rfl) ?_ ?_; rotate_left; (focus rfl); (focus (intro w' hSw; (try dsimp only at hSw); go_simp; (try with_reducible rfl); done)); (try simp only [Act.put, List.setIfInBounds_toArray, List.set_cons_zero, List.set_cons_succ])))
        refine seq_pull 3 ?_
        simp only [places, pull]
        (first
          | (refine seq_take0 (v := ?_) ?_ (fun _ _ _ h => h) (by kernel_rfl) ?_ ?_; rotate_left; (focus rfl); (focus (intro w' hSw; (try dsimp only at hSw); go_simp; (try with_reducible rfl); done)); (try simp only [Act.put, List.setIfInBounds_toArray, List.set_cons_zero, List.set_cons_succ])))
        refine seq_pull 3 ?_
        simp only [places, pull]
        (first
          | (refine seq_take0 (v := ?_) ?_ (fun _ _ _ h => h) (by kernel_rfl) ?_ ?_; rotate_left; (focus rfl); (focus (intro w' hSw; (try dsimp only at hSw); go_simp; (try with_reducible rfl); done)); (try simp only [Act.put, List.setIfInBounds_toArray, List.set_cons_zero, List.set_cons_succ])))
        refine seq_op (by kernel_rfl) (by rfl) (fun K hK => ?_)
        go_simp
        refine (lof_agg a0 a1 _ HXI.out.1.1 HXI.out.1.2 HXI.out.2.1 HXI.out.2.2).mono ?_
        rintro e wb ⟨⟨v1, rfl, hr1⟩, hb⟩
        obtain ⟨s1, B1, k1, c1, D1, l1, m1, rfl⟩ := hr1.shape
        have HBB := Lib.hid (HBA0.out.trans (hb.mono HBA0.out.size))
        have HR1 := Lib.hid hr1
        clear hb hr1
        refine hK.out _ _ (by exact HMA.out _ HBB.out) ?_
        clear hK K
        repeat (first
          | (refine seq_take0 (v := ?_) ?_ (fun _ _ _ h => h) (by kernel_rfl) ?_ ?_; rotate_left; (focus rfl); (focus (intro w' hSw; (try dsimp only at hSw); go_simp; (try with_reducible rfl); done)); (try simp only [Act.put, List.setIfInBounds_toArray, List.set_cons_zero, List.set_cons_succ])))
        refine seq_op (by kernel_rfl) (by rfl) (fun K hK => ?_)
        go_simp
        obtain ⟨wc, hwc⟩ : ∃ wc, wc = wb.alloc (.cells #[.bool s1, .slice B1 k1 c1, .slice D1 l1 m1] 52) := ⟨_, rfl⟩
        have hbc : Below wb.heap.size wb wc := by rw [hwc]; exact (Below.refl _ _).alloc (Nat.le_refl _) _
        have HMC : Hid (wc.heap[wb.heap.size]? = some (.cells #[.bool s1, .slice B1 k1 c1, .slice D1 l1 m1] 52 (0, 0))) := by show _ = _; rw [hwc]; exact heap_alloc_new wb _
        have HBC := Lib.hid (HBB.out.trans (hbc.mono HBB.out.size))
        have HTC := Lib.hid (HTA.out.grow HBC.out)
        have HRC := Lib.hid (HR1.out.below hbc)
        rw [← hwc]
        clear hwc hbc
        refine hK.out _ _ (by exact HMA.out _ HBC.out) ?_
        clear hK K
        repeat (first
          | (refine seq_take0 (v := ?_) ?_ (fun _ _ _ h => h) (by kernel_rfl) ?_ ?_; rotate_left; (focus rfl); (focus (intro w' hSw; (try dsimp only at hSw); go_simp; (try with_reducible rfl); done)); (try simp only [Act.put, List.setIfInBounds_toArray, List.set_cons_zero, List.set_cons_succ])))
        refine seq_op (by kernel_rfl) (by rfl) (fun K hK => ?_)
        have hT3 : TwoO w9.heap.size 52 56 i0.size 3 (.slice A1 k cp1) k (cs.flatMap ratC) (.slice A2 k cp2) k (ds.flatMap ratC) (fun _ _ => False) w9 wc := by have := HTC.out.t; rw [hll] at this; rw [hz1]; exact this
        refine step_twoR NI (.tmp 99) (.tmp 102) 45 rfl w9.heap.size 52 i0 _ 56 Tryz.underlying45 hi0 hz0 hz2 (by rw [hz1]; rfl) (by rw [hz1]; omega) rfl wb.heap.size 1 #[.bool s1, .slice B1 k1 c1, .slice D1 l1 m1] 52 rfl (by rw [hz1]; rfl) (one3q _ _ _ _ _ _ _) (by omega) le56 hT3 HMC.out HTC.out.a1 (ni3q _ _ _ _ _ _ _) ni3z ?_
        rintro v4 wd hT4 hg4 ha4 ⟨A4, cp4, rfl⟩
        rw [hz1] at hT4
        have HTD : Hid (TwoQ w9.heap.size (.slice A4 (k + 1) cp4) (.slice A2 k cp2) (ps ++ [ofR (a0, a1)]) ps w9 wd (cs ++ [(s1, .slice B1 k1 c1, .slice D1 l1 m1)]) ds) :=
          HTC.out.app1 (c := (s1, .slice B1 k1 c1, .slice D1 l1 m1)) HRC.out (by rw [hll]; exact hT4) hg4 ha4
        have hS4 : wd.cell? ⟨wr.heap.size, 0, none⟩ = some (.int .i64 a0) ∧ wd.cell? ⟨wr.heap.size, 1, none⟩ = some (.int .i64 a1) :=
          ⟨grown_cell hg4 (HMA.out _ HBC.out).1 HA1.out, grown_cell hg4 (HMA.out _ HBC.out).2 HA1.out⟩
        have HS4 := Lib.hid hS4
        refine hK.out _ _ (by exact hS4) ?_
        clear hK K hS4 hT3 hT4 hg4 ha4
        simp only [Act.put, List.setIfInBounds_toArray, List.set_cons_zero, List.set_cons_succ]
        repeat (first
          | (refine seq_take0 (v := ?_) ?_ (fun _ _ _ h => h) (by kernel_rfl) ?_ ?_; rotate_left; (focus rfl); (focus (intro w' hSw; (try dsimp only at hSw); go_simp; (try with_reducible rfl); done)); (try simp only [Act.put, List.setIfInBounds_toArray, List.set_cons_zero, List.set_cons_succ])))
        refine seq_op (by kernel_rfl) (by rfl) (fun K hK => ?_)
        go_simp
        refine (rof_agg a0 a1 _ HXI.out.1.1 HXI.out.1.2 HXI.out.2.1 HXI.out.2.2).mono ?_
        rintro e we ⟨⟨v5, rfl, hr5⟩, hb5⟩
        obtain ⟨s5, B5, k5, c5, D5, l5, m5, rfl⟩ := hr5.shape
        have HTE := Lib.hid (HTD.out.grow hb5)
        have HS5 : Hid (we.cell? ⟨wr.heap.size, 0, none⟩ = some (.int .i64 a0) ∧ we.cell? ⟨wr.heap.size, 1, none⟩ = some (.int .i64 a1)) :=
          ⟨(hb5.cell (p := ⟨_, _, none⟩) (World.block_lt_of_cell? wd ⟨_, 0, none⟩ HS4.out.1)).trans HS4.out.1, (hb5.cell (p := ⟨_, _, none⟩) (World.block_lt_of_cell? wd ⟨_, 1, none⟩ HS4.out.2)).trans HS4.out.2⟩
        have HR5 := Lib.hid hr5
        clear hb5 hr5
        refine hK.out _ _ (by exact HS5.out) ?_
        clear hK K
        repeat (first
          | (refine seq_take0 (v := ?_) ?_ (fun _ _ _ h => h) (by kernel_rfl) ?_ ?_; rotate_left; (focus rfl); (focus (intro w' hSw; (try dsimp only at hSw); go_simp; (try with_reducible rfl); done)); (try simp only [Act.put, List.setIfInBounds_toArray, List.set_cons_zero, List.set_cons_succ])))
        refine seq_op (by kernel_rfl) (by rfl) (fun K hK => ?_)
        go_simp
        obtain ⟨wf, hwf⟩ : ∃ wf, wf = we.alloc (.cells #[.bool s5, .slice B5 k5 c5, .slice D5 l5 m5] 56) := ⟨_, rfl⟩
        have hbf : Below we.heap.size we wf := by rw [hwf]; exact (Below.refl _ _).alloc (Nat.le_refl _) _
        have HMF : Hid (wf.heap[we.heap.size]? = some (.cells #[.bool s5, .slice B5 k5 c5, .slice D5 l5 m5] 56 (0, 0))) := by show _ = _; rw [hwf]; exact heap_alloc_new we _
        have HTF := Lib.hid (HTE.out.grow hbf)
        have HRF := Lib.hid (HR5.out.below hbf)
        have HS6 : Hid (wf.cell? ⟨wr.heap.size, 0, none⟩ = some (.int .i64 a0) ∧ wf.cell? ⟨wr.heap.size, 1, none⟩ = some (.int .i64 a1)) :=
          ⟨(hbf.cell (p := ⟨_, _, none⟩) (World.block_lt_of_cell? we ⟨_, 0, none⟩ HS5.out.1)).trans HS5.out.1, (hbf.cell (p := ⟨_, _, none⟩) (World.block_lt_of_cell? we ⟨_, 1, none⟩ HS5.out.2)).trans HS5.out.2⟩
        rw [← hwf]
        clear hwf hbf
        refine hK.out _ _ (by exact HS6.out) ?_
        clear hK K
        repeat (first
          | (refine seq_take0 (v := ?_) ?_ (fun _ _ _ h => h) (by kernel_rfl) ?_ ?_; rotate_left; (focus rfl); (focus (intro w' hSw; (try dsimp only at hSw); go_simp; (try with_reducible rfl); done)); (try simp only [Act.put, List.setIfInBounds_toArray, List.set_cons_zero, List.set_cons_succ])))
        refine seq_op (by kernel_rfl) (by rfl) (fun K hK => ?_)
        have hT3 : TwoO w9.heap.size 56 52 j0.size 3 (.slice A2 k cp2) k (ds.flatMap ratC) (.slice A4 (k + 1) cp4) (k + 1) ((cs ++ [(s1, Value.slice B1 k1 c1, Value.slice D1 l1 m1)]).flatMap ratC) (fun _ _ => False) w9 wf := by
          have := HTF.out.t.swap
          rw [List.length_append, hll] at this
          rw [hy1]; exact this
        refine step_twoR NI (.tmp 104) (.tmp 107) 46 rfl w9.heap.size 56 j0 _ 56 Tryz.underlying46 hj0 hy0 hy2 (by rw [hy1]; rfl) (by rw [hy1]; omega) rfl we.heap.size 1 #[.bool s5, .slice B5 k5 c5, .slice D5 l5 m5] 56 rfl (by rw [hy1]; rfl) (one3q _ _ _ _ _ _ _) (by omega) le56 hT3 HMF.out HTF.out.a2 (ni3q _ _ _ _ _ _ _) ni3z ?_
        rintro v6 wg hT6 hg6 ha6 ⟨A6, cp6, rfl⟩
        rw [hy1] at hT6
        have HTG : Hid (TwoQ w9.heap.size (.slice A4 (k + 1) cp4) (.slice A6 (k + 1) cp6) ((rs.take (k + 1)).map ofR) ((rs.take (k + 1)).map ofR) w9 wg (cs ++ [(s1, .slice B1 k1 c1, .slice D1 l1 m1)]) (ds ++ [(s5, .slice B5 k5 c5, .slice D5 l5 m5)])) := by
          show TwoQ _ _ _ _ _ _ _ _ _
          rw [HSN.out]
          exact HTF.out.app2 (c := (s5, .slice B5 k5 c5, .slice D5 l5 m5)) HRF.out (by rw [hll, List.length_append, hll]; exact hT6.swap) hg6 ha6
        refine hK.out _ _ (by exact ⟨grown_cell hg6 HS6.out.1 HA2.out, grown_cell hg6 HS6.out.2 HA2.out⟩) ?_
        clear hK K hT3 hT6 hg6 ha6
        simp only [Act.put, List.setIfInBounds_toArray, List.set_cons_zero, List.set_cons_succ]
        repeat (first
          | (refine seq_take0 (v := ?_) ?_ (fun _ _ _ h => h) (by kernel_rfl) ?_ ?_; rotate_left; (focus rfl); (focus (intro w' hSw; (try dsimp only at hSw); go_simp; (try with_reducible rfl); done)); (try simp only [Act.put, List.setIfInBounds_toArray, List.set_cons_zero, List.set_cons_succ])))
        refine seq_done (by kernel_rfl) ?_
        go_wp2_with fail
        go_roundw
        case rel => exact ⟨k + 1, _, _, by omega, by go_num, HTG.out⟩
        case measure => simp [intOf]; omega
      · have hkn : k = nq := by omega
        subst hkn
        have hta : rs.take k = rs := List.take_of_length_le (by rw [HNQ.out]; omega)
        rw [hta] at hT
        have hkI : ¬ ((k : Int) < (k : Int)) := by omega
        have HRD1 := Lib.hid hT.rd1
        have HRD2 := Lib.hid hT.rd2
        obtain ⟨A1, cp1, rfl⟩ := ownsRow_slice hT.t.a
        obtain ⟨A2, cp2, rfl⟩ := ownsRow_slice hT.t.b
        have HTR : Hid (Below w3.heap.size w3 wr) := HT9.out.trans (hT.t.bel.mono HT9.out.size)
        have HQ1 : Hid (∀ q ∈ rs.map ofR, QS 1 q) := fun q hq => by
          obtain ⟨r, hr, rfl⟩ := List.mem_map.1 hq
          exact ofRatio_num (HRI.out r hr).1 (HRI.out r hr).2
        have HQC1 : Hid (QS 1 (ofR (cn, cd))) := ofRatio_num HCN.out HCD.out
        have HFIN : Hid (QS 900000 (enSum d l (rs.map ofR) (ofR (cn, cd)))) := qs_sum HQ1.out HQC1.out HLL.out
        have hlen : ((rs.map ofR).length) = k := by rw [List.length_map, HNQ.out]
        rw [hlen] at HRD1 HRD2 ⊢
        obtain ⟨er, her⟩ : ∃ er, er = enErr d l k := ⟨_, rfl⟩
        obtain ⟨sm, hsm⟩ : ∃ sm, sm = enSum d l (rs.map ofR) (ofR (cn, cd)) := ⟨_, rfl⟩
        rw [← hsm] at HFIN
        have HEN := Lib.hid (fun w' (h : Below wr.heap.size wr w') u (hu : RdQ w' u (ofR (cn, cd))) => energy_any _ _ _ u d l (rs.map ofR) (ofR (cn, cd)) S (w2.heap.size ≤ ·) (w9.heap.size ≤ ·) w' (HVW.out w' (HBR.out.trans (h.mono HBR.out.size))) (HRA.out.below jobC_0 (HTR.out.trans (h.mono HTR.out.size))) HLL.out (HRD1.out.below h) hu (fun q hq => (HQ1.out q hq).mono (by omega)) (HQC1.out.mono (by omega)))
        have HRE := Lib.hid (fun w' (h : Below wr.heap.size wr w') u (hu : RdF w' u (ofR (cn, cd))) => renergy_any _ _ _ u d l (rs.map ofR) (ofR (cn, cd)) S (w2.heap.size ≤ ·) (w9.heap.size ≤ ·) w' (HVW.out w' (HBR.out.trans (h.mono HBR.out.size))) (HRB.out.below jobC_0 (HTR.out.trans (h.mono HTR.out.size))) HLL.out (HRD2.out.below h) hu (fun q hq => ((HQ1.out q hq).qm).mono (by omega)) (HQC1.out.qm.mono (by omega)))
        unfold EnPost at HEN
        unfold REnPost at HRE
        rw [hlen, ← her, ← hsm] at HEN HRE
        have HOR : Hid (ofR (cn, cd) = ofRatio cn cd) := rfl
        rw [HOR.out] at HEN HRE
        have HSS := Lib.hid (fun w' (h : Below wr.heap.size wr w') => And.intro (HCELL.out w' (HBR.out.trans (h.mono HBR.out.size))) (HC7.out w' (HBR.out.trans (h.mono HBR.out.size))))
        clear hT hta hlt hlen her hsm HQ1 HQC1
        go_upto_region 17 with fail
        go_cut [12, 23] (fun ev pv wx => ∃ (bp : Nat) (s : Bool) (A : Option Addr) (k c : Nat) (B : Option Addr) (l m : Nat), ev = .int .i64 er ∧ pv = .pointer (some ⟨bp, 0, none⟩) ∧ Hid (CellQ wx bp 52 s A k c B l m sm) ∧ Hid (Below wr.heap.size wr wx))
        case first =>
          obtain ⟨wd, hwd⟩ : ∃ wd, wd = wr.drew := ⟨_, rfl⟩
          have HBD : Hid (Below wr.heap.size wr wd) := by rw [hwd]; exact (Below.refl _ _).drew
          refine seq_start (S := fun w' => (w'.cell? ⟨w.heap.size, 0, none⟩ = some (.int .i64 d.presses) ∧ w'.cell? ⟨w.heap.size, 1, none⟩ = some (.int .i64 d.change) ∧ w'.cell? ⟨w.heap.size, 2, none⟩ = some (.slice Ac nc cc) ∧ w'.cell? ⟨w.heap.size, 3, none⟩ = some (.slice An nn cnn) ∧ w'.cell? ⟨w.heap.size, 4, none⟩ = some (.slice Am nm cm)) ∧ (w'.cell? ⟨w.heap.size + 1, 0, none⟩ = some (.int .i64 cn) ∧ w'.cell? ⟨w.heap.size + 1, 1, none⟩ = some (.int .i64 cd))) (by kernel_rfl) (by kernel_rfl) (by rw [← hwd]; exact HSS.out _ HBD.out) ?_
          rw [← hwd]
          clear hwd
          repeat (first
            | (refine seq_take0 (v := ?_) ?_ (fun _ _ _ h => h) (by kernel_rfl) ?_ ?_; rotate_left; (focus rfl); (focus (intro w' hSw; (try dsimp only at hSw); go_simp; (try with_reducible rfl); done)); (try simp only [Act.put, List.setIfInBounds_toArray, List.set_cons_zero, List.set_cons_succ])))
          refine seq_pull 5 ?_
          simp only [places, pull]
          refine seq_both ?_ ?_ ?_ ?_ ?_
          · kernel_rfl
          · rfl
          · rfl
          · intro K hK
            go_simp
            obtain ⟨wA, hal⟩ : ∃ wx, wx = (wd).alloc (.cells #[.bool false, .slice none 0 0, .slice none 0 0] 52) := ⟨_, rfl⟩
            have hba : Below (wd).heap.size (wd) wA := by rw [hal]; exact (Below.refl _ _).alloc (Nat.le_refl _) _
            obtain ⟨bp, hbp⟩ : ∃ bp, bp = (wd).heap.size := ⟨_, rfl⟩
            have HZ : Hid (wA.heap[bp]? = some (.cells #[.bool false, .slice none 0 0, .slice none 0 0] 52 (0, 0))) := by show _ = _; rw [hal, hbp]; exact heap_alloc_new _ _
            have HBA := Lib.hid (HBD.out.trans (hba.mono HBD.out.size))
            have HGE : Hid (wr.heap.size ≤ bp) := by show _ ≤ _; rw [hbp]; exact HBD.out.size
            rw [← hal]
            try rw [← hbp]
            clear hal hba hbp
            refine hK.out _ _ (by exact HSS.out _ HBA.out) ?_
            clear hK K
            repeat (first
              | (refine seq_take0 (v := ?_) ?_ (fun _ _ _ h => h) (by kernel_rfl) ?_ ?_; rotate_left; (focus rfl); (focus (intro w' hSw; (try dsimp only at hSw); go_simp; (try with_reducible rfl); done)); (try simp only [Act.put, List.setIfInBounds_toArray, List.set_cons_zero, List.set_cons_succ])))
            refine seq_op (by kernel_rfl) (by rfl) (fun K hK => ?_)
            go_simp
            refine (lof_agg cn cd _ HCN.out.1 HCN.out.2 HCD.out.1 HCD.out.2).mono ?_
            rintro e wB ⟨⟨vX, rfl, hrX⟩, hbX⟩
            obtain ⟨s1, C1, k1, c1, D1, l1, m1, rfl⟩ := hrX.shape
            have HBB := Lib.hid (HBA.out.trans (hbX.mono HBA.out.size))
            have HRX := Lib.hid hrX
            have HZ' := Lib.hid ((hbX.block _ (Array.getElem?_eq_some_iff.1 HZ.out).1).trans HZ.out)
            clear hrX hbX
            refine hK.out _ _ (by exact HSS.out _ HBB.out) ?_
            clear hK K
            repeat (first
              | (refine seq_take0 (v := ?_) ?_ (fun _ _ _ h => h) (by kernel_rfl) ?_ ?_; rotate_left; (focus rfl); (focus (intro w' hSw; (try dsimp only at hSw); go_simp; (try with_reducible rfl); done)); (try simp only [Act.put, List.setIfInBounds_toArray, List.set_cons_zero, List.set_cons_succ])))
            refine seq_op (by kernel_rfl) (by rfl) (fun K hK => ?_)
            go_simp
            refine (HEN.out _ HBB.out _ HRX.out).mono ?_
            rintro e wC ⟨⟨vY, rfl, hrY⟩, hbY⟩
            obtain ⟨s2, C2, k2, c2, D2, l2, m2, rfl⟩ := hrY.shape
            have HBC := Lib.hid (HBB.out.trans (hbY.mono HBB.out.size))
            have HRY := Lib.hid hrY
            have HZ'' := Lib.hid ((hbY.block _ (Array.getElem?_eq_some_iff.1 HZ'.out).1).trans HZ'.out)
            clear hrY hbY
            refine hK.out _ _ (by exact HSS.out _ HBC.out) ?_
            clear hK K
            repeat (first
              | (refine seq_take0 (v := ?_) ?_ (fun _ _ _ h => h) (by kernel_rfl) ?_ ?_; rotate_left; (focus rfl); (focus (intro w' hSw; (try dsimp only at hSw); go_simp; (try with_reducible rfl); done)); (try simp only [Act.put, List.setIfInBounds_toArray, List.set_cons_zero, List.set_cons_succ])))
            refine seq_op (by kernel_rfl) (by rfl) (fun K hK => ?_)
            obtain ⟨y0, y1, y2, f0, f1, f2⟩ := cells3 HZ''.out
            go_simp
            have HCX := Lib.hid (show CellQ (((wC.setCell ⟨bp, 0, none⟩ (.bool s2)).setCell ⟨bp, 1, none⟩ (.slice C2 k2 c2)).setCell ⟨bp, 2, none⟩ (.slice D2 l2 m2)) bp 52 s2 C2 k2 c2 D2 l2 m2 sm from ⟨set3_blk HZ''.out _ _ _, HRY.out.set3 y0 y1 y2 _ _ _⟩)
            have HBX : Hid (Below wr.heap.size wr (((wC.setCell ⟨bp, 0, none⟩ (.bool s2)).setCell ⟨bp, 1, none⟩ (.slice C2 k2 c2)).setCell ⟨bp, 2, none⟩ (.slice D2 l2 m2))) := ((HBC.out.setCell HGE.out _).setCell HGE.out _).setCell HGE.out _
            refine hK.out _ _ (by exact HSS.out _ HBX.out) ?_
            clear hK K y0 y1 y2 f0 f1 f2
            repeat (first
              | (refine seq_take0 (v := ?_) ?_ (fun _ _ _ h => h) (by kernel_rfl) ?_ ?_; rotate_left; (focus rfl); (focus (intro w' hSw; (try dsimp only at hSw); go_simp; (try with_reducible rfl); done)); (try simp only [Act.put, List.setIfInBounds_toArray, List.set_cons_zero, List.set_cons_succ])))
            refine seq_done (by kernel_rfl) ?_
            go_wp2_with fail
            go_meet
            case rel => exact ⟨bp, s2, C2, k2, c2, D2, l2, m2, rfl, rfl, HCX, HBX⟩
          · intro K hK
            go_simp
            refine (lof_agg cn cd _ HCN.out.1 HCN.out.2 HCD.out.1 HCD.out.2).mono ?_
            rintro e wB ⟨⟨vX, rfl, hrX⟩, hbX⟩
            obtain ⟨s1, C1, k1, c1, D1, l1, m1, rfl⟩ := hrX.shape
            have HBB := Lib.hid (HBD.out.trans (hbX.mono HBD.out.size))
            have HRX := Lib.hid hrX
            clear hrX hbX
            refine hK.out _ _ (by exact HSS.out _ HBB.out) ?_
            clear hK K
            refine seq_both ?_ ?_ ?_ ?_ ?_
            · kernel_rfl
            · rfl
            · rfl
            · intro K hK
              go_simp
              obtain ⟨wA, hal⟩ : ∃ wx, wx = (wB).alloc (.cells #[.bool false, .slice none 0 0, .slice none 0 0] 52) := ⟨_, rfl⟩
              have hba : Below (wB).heap.size (wB) wA := by rw [hal]; exact (Below.refl _ _).alloc (Nat.le_refl _) _
              obtain ⟨bp, hbp⟩ : ∃ bp, bp = (wB).heap.size := ⟨_, rfl⟩
              have HZ : Hid (wA.heap[bp]? = some (.cells #[.bool false, .slice none 0 0, .slice none 0 0] 52 (0, 0))) := by show _ = _; rw [hal, hbp]; exact heap_alloc_new _ _
              have HBA := Lib.hid (HBB.out.trans (hba.mono HBB.out.size))
              have HGE : Hid (wr.heap.size ≤ bp) := by show _ ≤ _; rw [hbp]; exact HBB.out.size
              have HRX' := Lib.hid (HRX.out.below hba)
              rw [← hal]
              try rw [← hbp]
              clear hal hba hbp
              refine hK.out _ _ (by exact HSS.out _ HBA.out) ?_
              clear hK K
              clear HRX
              have HRX := HRX'
              clear HRX'
              repeat (first
                | (refine seq_take0 (v := ?_) ?_ (fun _ _ _ h => h) (by kernel_rfl) ?_ ?_; rotate_left; (focus rfl); (focus (intro w' hSw; (try dsimp only at hSw); go_simp; (try with_reducible rfl); done)); (try simp only [Act.put, List.setIfInBounds_toArray, List.set_cons_zero, List.set_cons_succ])))
              refine seq_op (by kernel_rfl) (by rfl) (fun K hK => ?_)
              go_simp
              refine (HEN.out _ HBA.out _ HRX.out).mono ?_
              rintro e wC ⟨⟨vY, rfl, hrY⟩, hbY⟩
              obtain ⟨s2, C2, k2, c2, D2, l2, m2, rfl⟩ := hrY.shape
              have HBC := Lib.hid (HBA.out.trans (hbY.mono HBA.out.size))
              have HRY := Lib.hid hrY
              have HZ' := Lib.hid ((hbY.block _ (Array.getElem?_eq_some_iff.1 HZ.out).1).trans HZ.out)
              clear hrY hbY
              refine hK.out _ _ (by exact HSS.out _ HBC.out) ?_
              clear hK K
              repeat (first
                | (refine seq_take0 (v := ?_) ?_ (fun _ _ _ h => h) (by kernel_rfl) ?_ ?_; rotate_left; (focus rfl); (focus (intro w' hSw; (try dsimp only at hSw); go_simp; (try with_reducible rfl); done)); (try simp only [Act.put, List.setIfInBounds_toArray, List.set_cons_zero, List.set_cons_succ])))
              refine seq_op (by kernel_rfl) (by rfl) (fun K hK => ?_)
              obtain ⟨y0, y1, y2, f0, f1, f2⟩ := cells3 HZ'.out
              go_simp
              have HCX := Lib.hid (show CellQ (((wC.setCell ⟨bp, 0, none⟩ (.bool s2)).setCell ⟨bp, 1, none⟩ (.slice C2 k2 c2)).setCell ⟨bp, 2, none⟩ (.slice D2 l2 m2)) bp 52 s2 C2 k2 c2 D2 l2 m2 sm from ⟨set3_blk HZ'.out _ _ _, HRY.out.set3 y0 y1 y2 _ _ _⟩)
              have HBX : Hid (Below wr.heap.size wr (((wC.setCell ⟨bp, 0, none⟩ (.bool s2)).setCell ⟨bp, 1, none⟩ (.slice C2 k2 c2)).setCell ⟨bp, 2, none⟩ (.slice D2 l2 m2))) := ((HBC.out.setCell HGE.out _).setCell HGE.out _).setCell HGE.out _
              refine hK.out _ _ (by exact HSS.out _ HBX.out) ?_
              clear hK K y0 y1 y2 f0 f1 f2
              repeat (first
                | (refine seq_take0 (v := ?_) ?_ (fun _ _ _ h => h) (by kernel_rfl) ?_ ?_; rotate_left; (focus rfl); (focus (intro w' hSw; (try dsimp only at hSw); go_simp; (try with_reducible rfl); done)); (try simp only [Act.put, List.setIfInBounds_toArray, List.set_cons_zero, List.set_cons_succ])))
              refine seq_done (by kernel_rfl) ?_
              go_wp2_with fail
              go_meet
              case rel => exact ⟨bp, s2, C2, k2, c2, D2, l2, m2, rfl, rfl, HCX, HBX⟩
            · intro K hK
              go_simp
              refine (HEN.out _ HBB.out _ HRX.out).mono ?_
              rintro e wC ⟨⟨vY, rfl, hrY⟩, hbY⟩
              obtain ⟨s2, C2, k2, c2, D2, l2, m2, rfl⟩ := hrY.shape
              have HBC := Lib.hid (HBB.out.trans (hbY.mono HBB.out.size))
              have HRY := Lib.hid hrY
              clear hrY hbY
              refine hK.out _ _ (by exact HSS.out _ HBC.out) ?_
              clear hK K
              refine seq_pull 1 ?_
              simp only [places, pull]
              (first
                | (refine seq_take0 (v := ?_) ?_ (fun _ _ _ h => h) (by kernel_rfl) ?_ ?_; rotate_left; (focus rfl); (focus (intro w' hSw; (try dsimp only at hSw); go_simp; (try with_reducible rfl); done)); (try simp only [Act.put, List.setIfInBounds_toArray, List.set_cons_zero, List.set_cons_succ])))
              refine seq_pull 1 ?_
              simp only [places, pull]
              (first
                | (refine seq_take0 (v := ?_) ?_ (fun _ _ _ h => h) (by kernel_rfl) ?_ ?_; rotate_left; (focus rfl); (focus (intro w' hSw; (try dsimp only at hSw); go_simp; (try with_reducible rfl); done)); (try simp only [Act.put, List.setIfInBounds_toArray, List.set_cons_zero, List.set_cons_succ])))
              refine seq_pull 1 ?_
              simp only [places, pull]
              (first
                | (refine seq_take0 (v := ?_) ?_ (fun _ _ _ h => h) (by kernel_rfl) ?_ ?_; rotate_left; (focus rfl); (focus (intro w' hSw; (try dsimp only at hSw); go_simp; (try with_reducible rfl); done)); (try simp only [Act.put, List.setIfInBounds_toArray, List.set_cons_zero, List.set_cons_succ])))
              repeat (first
                | (refine seq_take0 (v := ?_) ?_ (fun _ _ _ h => h) (by kernel_rfl) ?_ ?_; rotate_left; (focus rfl); (focus (intro w' hSw; (try dsimp only at hSw); go_simp; (try with_reducible rfl); done)); (try simp only [Act.put, List.setIfInBounds_toArray, List.set_cons_zero, List.set_cons_succ])))
              refine seq_op (by kernel_rfl) (by rfl) (fun K hK => ?_)
              go_simp
              obtain ⟨wA, hal⟩ : ∃ wx, wx = (wC).alloc (.cells #[.bool false, .slice none 0 0, .slice none 0 0] 52) := ⟨_, rfl⟩
              have hba : Below (wC).heap.size (wC) wA := by rw [hal]; exact (Below.refl _ _).alloc (Nat.le_refl _) _
              obtain ⟨bp, hbp⟩ : ∃ bp, bp = (wC).heap.size := ⟨_, rfl⟩
              have HZ : Hid (wA.heap[bp]? = some (.cells #[.bool false, .slice none 0 0, .slice none 0 0] 52 (0, 0))) := by show _ = _; rw [hal, hbp]; exact heap_alloc_new _ _
              have HBA := Lib.hid (HBC.out.trans (hba.mono HBC.out.size))
              have HGE : Hid (wr.heap.size ≤ bp) := by show _ ≤ _; rw [hbp]; exact HBC.out.size
              have HRY' := Lib.hid (HRY.out.below hba)
              rw [← hal]
              try rw [← hbp]
              clear hal hba hbp
              refine hK.out _ _ (by exact HSS.out _ HBA.out) ?_
              clear hK K
              repeat (first
                | (refine seq_take0 (v := ?_) ?_ (fun _ _ _ h => h) (by kernel_rfl) ?_ ?_; rotate_left; (focus rfl); (focus (intro w' hSw; (try dsimp only at hSw); go_simp; (try with_reducible rfl); done)); (try simp only [Act.put, List.setIfInBounds_toArray, List.set_cons_zero, List.set_cons_succ])))
              refine seq_op (by kernel_rfl) (by rfl) (fun K hK => ?_)
              obtain ⟨y0, y1, y2, f0, f1, f2⟩ := cells3 HZ.out
              go_simp
              have HCX := Lib.hid (show CellQ (((wA.setCell ⟨bp, 0, none⟩ (.bool s2)).setCell ⟨bp, 1, none⟩ (.slice C2 k2 c2)).setCell ⟨bp, 2, none⟩ (.slice D2 l2 m2)) bp 52 s2 C2 k2 c2 D2 l2 m2 sm from ⟨set3_blk HZ.out _ _ _, HRY'.out.set3 y0 y1 y2 _ _ _⟩)
              have HBX : Hid (Below wr.heap.size wr (((wA.setCell ⟨bp, 0, none⟩ (.bool s2)).setCell ⟨bp, 1, none⟩ (.slice C2 k2 c2)).setCell ⟨bp, 2, none⟩ (.slice D2 l2 m2))) := ((HBA.out.setCell HGE.out _).setCell HGE.out _).setCell HGE.out _
              refine hK.out _ _ (by exact HSS.out _ HBX.out) ?_
              clear hK K y0 y1 y2 f0 f1 f2
              repeat (first
                | (refine seq_take0 (v := ?_) ?_ (fun _ _ _ h => h) (by kernel_rfl) ?_ ?_; rotate_left; (focus rfl); (focus (intro w' hSw; (try dsimp only at hSw); go_simp; (try with_reducible rfl); done)); (try simp only [Act.put, List.setIfInBounds_toArray, List.set_cons_zero, List.set_cons_succ])))
              refine seq_done (by kernel_rfl) ?_
              go_wp2_with fail
              go_meet
              case rel => exact ⟨bp, s2, C2, k2, c2, D2, l2, m2, rfl, rfl, HCX, HBX⟩
        case rest =>
          obtain ⟨bq, sq, Aq1, kq1, cq1, Bq1, lq1, mq1, rfl, rfl, HCQ, HBQ⟩ := hcut
          have HSS2 := Lib.hid (fun w' (h : Below wc.heap.size wc w') => HSS.out w' (HBQ.out.trans (h.mono HBQ.out.size)))
          have HRE2 := Lib.hid (fun w' (h : Below wc.heap.size wc w') => HRE.out w' (HBQ.out.trans (h.mono HBQ.out.size)))
          have HBRc : Hid (Below w.heap.size w wc) := HBRw.out.trans (HBQ.out.mono HBRw.out.size)
          clear HSS HRE HEN
          have HSS := HSS2
          have HRE := HRE2
          clear HSS2 HRE2
          go_upto_region 18 with fail
          go_cut [14, 24] (fun ev pv wx => ∃ (bp : Nat) (s : Bool) (A : Option Addr) (k c : Nat) (B : Option Addr) (l m : Nat), ev = .int .i64 er ∧ pv = .pointer (some ⟨bp, 0, none⟩) ∧ Hid (CellF wx bp 56 s A k c B l m sm) ∧ Hid (Below wc.heap.size wc wx))
          case first =>
            obtain ⟨wd, hwd⟩ : ∃ wd, wd = wc.drew := ⟨_, rfl⟩
            have HBD : Hid (Below wc.heap.size wc wd) := by rw [hwd]; exact (Below.refl _ _).drew
            refine seq_start (S := fun w' => (w'.cell? ⟨w.heap.size, 0, none⟩ = some (.int .i64 d.presses) ∧ w'.cell? ⟨w.heap.size, 1, none⟩ = some (.int .i64 d.change) ∧ w'.cell? ⟨w.heap.size, 2, none⟩ = some (.slice Ac nc cc) ∧ w'.cell? ⟨w.heap.size, 3, none⟩ = some (.slice An nn cnn) ∧ w'.cell? ⟨w.heap.size, 4, none⟩ = some (.slice Am nm cm)) ∧ (w'.cell? ⟨w.heap.size + 1, 0, none⟩ = some (.int .i64 cn) ∧ w'.cell? ⟨w.heap.size + 1, 1, none⟩ = some (.int .i64 cd))) (by kernel_rfl) (by kernel_rfl) (by rw [← hwd]; exact HSS.out _ HBD.out) ?_
            rw [← hwd]
            clear hwd
            repeat (first
              | (refine seq_take0 (v := ?_) ?_ (fun _ _ _ h => h) (by kernel_rfl) ?_ ?_; rotate_left; (focus rfl); (focus (intro w' hSw; (try dsimp only at hSw); go_simp; (try with_reducible rfl); done)); (try simp only [Act.put, List.setIfInBounds_toArray, List.set_cons_zero, List.set_cons_succ])))
            refine seq_pull 5 ?_
            simp only [places, pull]
            refine seq_both ?_ ?_ ?_ ?_ ?_
            · kernel_rfl
            · rfl
            · rfl
            · intro K hK
              go_simp
              obtain ⟨wA, hal⟩ : ∃ wx, wx = (wd).alloc (.cells #[.bool false, .slice none 0 0, .slice none 0 0] 56) := ⟨_, rfl⟩
              have hba : Below (wd).heap.size (wd) wA := by rw [hal]; exact (Below.refl _ _).alloc (Nat.le_refl _) _
              obtain ⟨bp, hbp⟩ : ∃ bp, bp = (wd).heap.size := ⟨_, rfl⟩
              have HZ : Hid (wA.heap[bp]? = some (.cells #[.bool false, .slice none 0 0, .slice none 0 0] 56 (0, 0))) := by show _ = _; rw [hal, hbp]; exact heap_alloc_new _ _
              have HBA := Lib.hid (HBD.out.trans (hba.mono HBD.out.size))
              have HGE : Hid (wc.heap.size ≤ bp) := by show _ ≤ _; rw [hbp]; exact HBD.out.size
              rw [← hal]
              try rw [← hbp]
              clear hal hba hbp
              refine hK.out _ _ (by exact HSS.out _ HBA.out) ?_
              clear hK K
              repeat (first
                | (refine seq_take0 (v := ?_) ?_ (fun _ _ _ h => h) (by kernel_rfl) ?_ ?_; rotate_left; (focus rfl); (focus (intro w' hSw; (try dsimp only at hSw); go_simp; (try with_reducible rfl); done)); (try simp only [Act.put, List.setIfInBounds_toArray, List.set_cons_zero, List.set_cons_succ])))
              refine seq_op (by kernel_rfl) (by rfl) (fun K hK => ?_)
              go_simp
              refine (rof_agg cn cd _ HCN.out.1 HCN.out.2 HCD.out.1 HCD.out.2).mono ?_
              rintro e wB ⟨⟨vX, rfl, hrX⟩, hbX⟩
              obtain ⟨s1, C1, k1, c1, D1, l1, m1, rfl⟩ := hrX.shape
              have HBB := Lib.hid (HBA.out.trans (hbX.mono HBA.out.size))
              have HRX := Lib.hid hrX
              have HZ' := Lib.hid ((hbX.block _ (Array.getElem?_eq_some_iff.1 HZ.out).1).trans HZ.out)
              clear hrX hbX
              refine hK.out _ _ (by exact HSS.out _ HBB.out) ?_
              clear hK K
              repeat (first
                | (refine seq_take0 (v := ?_) ?_ (fun _ _ _ h => h) (by kernel_rfl) ?_ ?_; rotate_left; (focus rfl); (focus (intro w' hSw; (try dsimp only at hSw); go_simp; (try with_reducible rfl); done)); (try simp only [Act.put, List.setIfInBounds_toArray, List.set_cons_zero, List.set_cons_succ])))
              refine seq_op (by kernel_rfl) (by rfl) (fun K hK => ?_)
              go_simp
              refine (HRE.out _ HBB.out _ HRX.out).mono ?_
              rintro e wC ⟨⟨vY, rfl, hrY⟩, hbY⟩
              obtain ⟨s2, C2, k2, c2, D2, l2, m2, rfl⟩ := hrY.shape
              have HBC := Lib.hid (HBB.out.trans (hbY.mono HBB.out.size))
              have HRY := Lib.hid hrY
              have HZ'' := Lib.hid ((hbY.block _ (Array.getElem?_eq_some_iff.1 HZ'.out).1).trans HZ'.out)
              clear hrY hbY
              refine hK.out _ _ (by exact HSS.out _ HBC.out) ?_
              clear hK K
              repeat (first
                | (refine seq_take0 (v := ?_) ?_ (fun _ _ _ h => h) (by kernel_rfl) ?_ ?_; rotate_left; (focus rfl); (focus (intro w' hSw; (try dsimp only at hSw); go_simp; (try with_reducible rfl); done)); (try simp only [Act.put, List.setIfInBounds_toArray, List.set_cons_zero, List.set_cons_succ])))
              refine seq_op (by kernel_rfl) (by rfl) (fun K hK => ?_)
              obtain ⟨y0, y1, y2, f0, f1, f2⟩ := cells3 HZ''.out
              go_simp
              have HCX := Lib.hid (show CellF (((wC.setCell ⟨bp, 0, none⟩ (.bool s2)).setCell ⟨bp, 1, none⟩ (.slice C2 k2 c2)).setCell ⟨bp, 2, none⟩ (.slice D2 l2 m2)) bp 56 s2 C2 k2 c2 D2 l2 m2 sm from ⟨set3_blk HZ''.out _ _ _, HRY.out.set3 y0 y1 y2 _ _ _⟩)
              have HBX : Hid (Below wc.heap.size wc (((wC.setCell ⟨bp, 0, none⟩ (.bool s2)).setCell ⟨bp, 1, none⟩ (.slice C2 k2 c2)).setCell ⟨bp, 2, none⟩ (.slice D2 l2 m2))) := ((HBC.out.setCell HGE.out _).setCell HGE.out _).setCell HGE.out _
              refine hK.out _ _ (by exact HSS.out _ HBX.out) ?_
              clear hK K y0 y1 y2 f0 f1 f2
              repeat (first
                | (refine seq_take0 (v := ?_) ?_ (fun _ _ _ h => h) (by kernel_rfl) ?_ ?_; rotate_left; (focus rfl); (focus (intro w' hSw; (try dsimp only at hSw); go_simp; (try with_reducible rfl); done)); (try simp only [Act.put, List.setIfInBounds_toArray, List.set_cons_zero, List.set_cons_succ])))
              refine seq_done (by kernel_rfl) ?_
              go_wp2_with fail
              go_meet
              case rel => exact ⟨bp, s2, C2, k2, c2, D2, l2, m2, rfl, rfl, HCX, HBX⟩
            · intro K hK
              go_simp
              refine (rof_agg cn cd _ HCN.out.1 HCN.out.2 HCD.out.1 HCD.out.2).mono ?_
              rintro e wB ⟨⟨vX, rfl, hrX⟩, hbX⟩
              obtain ⟨s1, C1, k1, c1, D1, l1, m1, rfl⟩ := hrX.shape
              have HBB := Lib.hid (HBD.out.trans (hbX.mono HBD.out.size))
              have HRX := Lib.hid hrX
              clear hrX hbX
              refine hK.out _ _ (by exact HSS.out _ HBB.out) ?_
              clear hK K
              refine seq_both ?_ ?_ ?_ ?_ ?_
              · kernel_rfl
              · rfl
              · rfl
              · intro K hK
                go_simp
                obtain ⟨wA, hal⟩ : ∃ wx, wx = (wB).alloc (.cells #[.bool false, .slice none 0 0, .slice none 0 0] 56) := ⟨_, rfl⟩
                have hba : Below (wB).heap.size (wB) wA := by rw [hal]; exact (Below.refl _ _).alloc (Nat.le_refl _) _
                obtain ⟨bp, hbp⟩ : ∃ bp, bp = (wB).heap.size := ⟨_, rfl⟩
                have HZ : Hid (wA.heap[bp]? = some (.cells #[.bool false, .slice none 0 0, .slice none 0 0] 56 (0, 0))) := by show _ = _; rw [hal, hbp]; exact heap_alloc_new _ _
                have HBA := Lib.hid (HBB.out.trans (hba.mono HBB.out.size))
                have HGE : Hid (wc.heap.size ≤ bp) := by show _ ≤ _; rw [hbp]; exact HBB.out.size
                have HRX' := Lib.hid (HRX.out.below hba)
                rw [← hal]
                try rw [← hbp]
                clear hal hba hbp
                refine hK.out _ _ (by exact HSS.out _ HBA.out) ?_
                clear hK K
                clear HRX
                have HRX := HRX'
                clear HRX'
                repeat (first
                  | (refine seq_take0 (v := ?_) ?_ (fun _ _ _ h => h) (by kernel_rfl) ?_ ?_; rotate_left; (focus rfl); (focus (intro w' hSw; (try dsimp only at hSw); go_simp; (try with_reducible rfl); done)); (try simp only [Act.put, List.setIfInBounds_toArray, List.set_cons_zero, List.set_cons_succ])))
                refine seq_op (by kernel_rfl) (by rfl) (fun K hK => ?_)
                go_simp
                refine (HRE.out _ HBA.out _ HRX.out).mono ?_
                rintro e wC ⟨⟨vY, rfl, hrY⟩, hbY⟩
                obtain ⟨s2, C2, k2, c2, D2, l2, m2, rfl⟩ := hrY.shape
                have HBC := Lib.hid (HBA.out.trans (hbY.mono HBA.out.size))
                have HRY := Lib.hid hrY
                have HZ' := Lib.hid ((hbY.block _ (Array.getElem?_eq_some_iff.1 HZ.out).1).trans HZ.out)
                clear hrY hbY
                refine hK.out _ _ (by exact HSS.out _ HBC.out) ?_
                clear hK K
                repeat (first
                  | (refine seq_take0 (v := ?_) ?_ (fun _ _ _ h => h) (by kernel_rfl) ?_ ?_; rotate_left; (focus rfl); (focus (intro w' hSw; (try dsimp only at hSw); go_simp; (try with_reducible rfl); done)); (try simp only [Act.put, List.setIfInBounds_toArray, List.set_cons_zero, List.set_cons_succ])))
                refine seq_op (by kernel_rfl) (by rfl) (fun K hK => ?_)
                obtain ⟨y0, y1, y2, f0, f1, f2⟩ := cells3 HZ'.out
                go_simp
                have HCX := Lib.hid (show CellF (((wC.setCell ⟨bp, 0, none⟩ (.bool s2)).setCell ⟨bp, 1, none⟩ (.slice C2 k2 c2)).setCell ⟨bp, 2, none⟩ (.slice D2 l2 m2)) bp 56 s2 C2 k2 c2 D2 l2 m2 sm from ⟨set3_blk HZ'.out _ _ _, HRY.out.set3 y0 y1 y2 _ _ _⟩)
                have HBX : Hid (Below wc.heap.size wc (((wC.setCell ⟨bp, 0, none⟩ (.bool s2)).setCell ⟨bp, 1, none⟩ (.slice C2 k2 c2)).setCell ⟨bp, 2, none⟩ (.slice D2 l2 m2))) := ((HBC.out.setCell HGE.out _).setCell HGE.out _).setCell HGE.out _
                refine hK.out _ _ (by exact HSS.out _ HBX.out) ?_
                clear hK K y0 y1 y2 f0 f1 f2
                repeat (first
                  | (refine seq_take0 (v := ?_) ?_ (fun _ _ _ h => h) (by kernel_rfl) ?_ ?_; rotate_left; (focus rfl); (focus (intro w' hSw; (try dsimp only at hSw); go_simp; (try with_reducible rfl); done)); (try simp only [Act.put, List.setIfInBounds_toArray, List.set_cons_zero, List.set_cons_succ])))
                refine seq_done (by kernel_rfl) ?_
                go_wp2_with fail
                go_meet
                case rel => exact ⟨bp, s2, C2, k2, c2, D2, l2, m2, rfl, rfl, HCX, HBX⟩
              · intro K hK
                go_simp
                refine (HRE.out _ HBB.out _ HRX.out).mono ?_
                rintro e wC ⟨⟨vY, rfl, hrY⟩, hbY⟩
                obtain ⟨s2, C2, k2, c2, D2, l2, m2, rfl⟩ := hrY.shape
                have HBC := Lib.hid (HBB.out.trans (hbY.mono HBB.out.size))
                have HRY := Lib.hid hrY
                clear hrY hbY
                refine hK.out _ _ (by exact HSS.out _ HBC.out) ?_
                clear hK K
                refine seq_pull 1 ?_
                simp only [places, pull]
                (first
                  | (refine seq_take0 (v := ?_) ?_ (fun _ _ _ h => h) (by kernel_rfl) ?_ ?_; rotate_left; (focus rfl); (focus (intro w' hSw; (try dsimp only at hSw); go_simp; (try with_reducible rfl); done)); (try simp only [Act.put, List.setIfInBounds_toArray, List.set_cons_zero, List.set_cons_succ])))
                refine seq_pull 1 ?_
                simp only [places, pull]
                (first
                  | (refine seq_take0 (v := ?_) ?_ (fun _ _ _ h => h) (by kernel_rfl) ?_ ?_; rotate_left; (focus rfl); (focus (intro w' hSw; (try dsimp only at hSw); go_simp; (try with_reducible rfl); done)); (try simp only [Act.put, List.setIfInBounds_toArray, List.set_cons_zero, List.set_cons_succ])))
                refine seq_pull 1 ?_
                simp only [places, pull]
                (first
                  | (refine seq_take0 (v := ?_) ?_ (fun _ _ _ h => h) (by kernel_rfl) ?_ ?_; rotate_left; (focus rfl); (focus (intro w' hSw; (try dsimp only at hSw); go_simp; (try with_reducible rfl); done)); (try simp only [Act.put, List.setIfInBounds_toArray, List.set_cons_zero, List.set_cons_succ])))
                repeat (first
                  | (refine seq_take0 (v := ?_) ?_ (fun _ _ _ h => h) (by kernel_rfl) ?_ ?_; rotate_left; (focus rfl); (focus (intro w' hSw; (try dsimp only at hSw); go_simp; (try with_reducible rfl); done)); (try simp only [Act.put, List.setIfInBounds_toArray, List.set_cons_zero, List.set_cons_succ])))
                refine seq_op (by kernel_rfl) (by rfl) (fun K hK => ?_)
                go_simp
                obtain ⟨wA, hal⟩ : ∃ wx, wx = (wC).alloc (.cells #[.bool false, .slice none 0 0, .slice none 0 0] 56) := ⟨_, rfl⟩
                have hba : Below (wC).heap.size (wC) wA := by rw [hal]; exact (Below.refl _ _).alloc (Nat.le_refl _) _
                obtain ⟨bp, hbp⟩ : ∃ bp, bp = (wC).heap.size := ⟨_, rfl⟩
                have HZ : Hid (wA.heap[bp]? = some (.cells #[.bool false, .slice none 0 0, .slice none 0 0] 56 (0, 0))) := by show _ = _; rw [hal, hbp]; exact heap_alloc_new _ _
                have HBA := Lib.hid (HBC.out.trans (hba.mono HBC.out.size))
                have HGE : Hid (wc.heap.size ≤ bp) := by show _ ≤ _; rw [hbp]; exact HBC.out.size
                have HRY' := Lib.hid (HRY.out.below hba)
                rw [← hal]
                try rw [← hbp]
                clear hal hba hbp
                refine hK.out _ _ (by exact HSS.out _ HBA.out) ?_
                clear hK K
                repeat (first
                  | (refine seq_take0 (v := ?_) ?_ (fun _ _ _ h => h) (by kernel_rfl) ?_ ?_; rotate_left; (focus rfl); (focus (intro w' hSw; (try dsimp only at hSw); go_simp; (try with_reducible rfl); done)); (try simp only [Act.put, List.setIfInBounds_toArray, List.set_cons_zero, List.set_cons_succ])))
                refine seq_op (by kernel_rfl) (by rfl) (fun K hK => ?_)
                obtain ⟨y0, y1, y2, f0, f1, f2⟩ := cells3 HZ.out
                go_simp
                have HCX := Lib.hid (show CellF (((wA.setCell ⟨bp, 0, none⟩ (.bool s2)).setCell ⟨bp, 1, none⟩ (.slice C2 k2 c2)).setCell ⟨bp, 2, none⟩ (.slice D2 l2 m2)) bp 56 s2 C2 k2 c2 D2 l2 m2 sm from ⟨set3_blk HZ.out _ _ _, HRY'.out.set3 y0 y1 y2 _ _ _⟩)
                have HBX : Hid (Below wc.heap.size wc (((wA.setCell ⟨bp, 0, none⟩ (.bool s2)).setCell ⟨bp, 1, none⟩ (.slice C2 k2 c2)).setCell ⟨bp, 2, none⟩ (.slice D2 l2 m2))) := ((HBA.out.setCell HGE.out _).setCell HGE.out _).setCell HGE.out _
                refine hK.out _ _ (by exact HSS.out _ HBX.out) ?_
                clear hK K y0 y1 y2 f0 f1 f2
                repeat (first
                  | (refine seq_take0 (v := ?_) ?_ (fun _ _ _ h => h) (by kernel_rfl) ?_ ?_; rotate_left; (focus rfl); (focus (intro w' hSw; (try dsimp only at hSw); go_simp; (try with_reducible rfl); done)); (try simp only [Act.put, List.setIfInBounds_toArray, List.set_cons_zero, List.set_cons_succ])))
                refine seq_done (by kernel_rfl) ?_
                go_wp2_with fail
                go_meet
                case rel => exact ⟨bp, s2, C2, k2, c2, D2, l2, m2, rfl, rfl, HCX, HBX⟩
          case rest =>
            obtain ⟨bf, sf, Af1, kf1, cf1, Bf1, lf1, mf1, rfl, rfl, HCF, HBF⟩ := hcut
            have HCQ2 := Lib.hid (CellQ.mk (w := wc) ((HBF.out.block bq (Array.getElem?_eq_some_iff.1 HCQ.out.blk).1).trans HCQ.out.blk) (HCQ.out.rd.below HBF.out))
            have HBW := Lib.hid (HBRc.out.trans (HBF.out.mono HBRc.out.size))
            obtain ⟨y0, y1, y2, -, -, -⟩ := cells3 HCQ2.out.blk
            obtain ⟨z0, z1, z2, -, -, -⟩ := cells3 HCF.out.blk
            clear HSS HRE HBF HCQ HBRc
            go_wp2_with fail
            refine (is_any _ _ sm wc HCQ2.out.rd HCF.out.rd HFIN.out).mono ?_
            rintro e wy ⟨rfl, hby⟩
            have HBY := Lib.hid (HBW.out.trans (hby.mono HBW.out.size))
            clear hby y0 y1 y2 z0 z1 z2
            go_wp2_with fail
            refine (awake_any wy).mono ?_
            rintro e wz ⟨rfl, hbz⟩
            have HBZ := Lib.hid (HBY.out.trans (hbz.mono HBY.out.size))
            clear hbz
            go_wp2_with fail
            go_ret
            exact ⟨rfl, HBZ.out⟩
  · have hno : sl = false ∨ (sl = true ∧ 70 < nj) ∨ (sl = true ∧ nj ≤ 70 ∧ 12 < nq) := by
      cases sl
      · exact .inl rfl
      · by_cases h7 : nj ≤ 70
        · exact .inr (.inr ⟨rfl, h7, by simp only [true_and] at hall; omega⟩)
        · exact .inr (.inl ⟨rfl, by omega⟩)
    clear hall
    rcases hno with rfl | ⟨rfl, h70⟩ | ⟨rfl, h70, h12⟩
    · go_enter Tryz.func3, Tryz.ntmps3
      go_wp2_with fail
      rw [← HW1.out]
      refine (HSL.out W1 (Below.refl _ _)).mono ?_
      rintro e w2 ⟨rfl, hb2⟩
      have HBW2 := Lib.hid (HB1.out.trans (hb2.mono HB1.out.size))
      clear hb2 x0 x1 x2 x3 x4
      go_wp2_with fail
      refine (awake_any w2).mono ?_
      rintro e w3 ⟨rfl, hb3⟩
      have HB3 := Lib.hid (HBW2.out.trans (hb3.mono HBW2.out.size))
      clear hb3
      go_wp2_with fail
      go_ret
      exact ⟨rfl, HB3.out⟩
    · have h70i : (70 : Int) < (nj : Int) := by omega
      go_enter Tryz.func3, Tryz.ntmps3
      go_wp2_with fail
      rw [← HW1.out]
      refine (HSL.out W1 (Below.refl _ _)).mono ?_
      rintro e w2 ⟨rfl, hb2⟩
      have HBW2 := Lib.hid (HB1.out.trans (hb2.mono HB1.out.size))
      clear hb2 x0 x1 x2 x3 x4
      go_wp2_with fail
      refine (awake_any w2).mono ?_
      rintro e w3 ⟨rfl, hb3⟩
      have HB3 := Lib.hid (HBW2.out.trans (hb3.mono HBW2.out.size))
      clear hb3
      go_wp2_with fail
      go_ret
      exact ⟨rfl, HB3.out⟩
    · have h70i : (nj : Int) ≤ 70 := by omega
      have h12i : (12 : Int) < (nq : Int) := by omega
      go_enter Tryz.func3, Tryz.ntmps3
      go_wp2_with fail
      rw [← HW1.out]
      refine (HSL.out W1 (Below.refl _ _)).mono ?_
      rintro e w2 ⟨rfl, hb2⟩
      have HBW2 := Lib.hid (HB1.out.trans (hb2.mono HB1.out.size))
      clear hb2 x0 x1 x2 x3 x4
      go_wp2_with fail
      refine (awake_any w2).mono ?_
      rintro e w3 ⟨rfl, hb3⟩
      have HB3 := Lib.hid (HBW2.out.trans (hb3.mono HBW2.out.size))
      clear hb3
      go_wp2_with fail
      go_ret
      exact ⟨rfl, HB3.out⟩
end Go.Proofs.YtogccnngdfancaaGreat
