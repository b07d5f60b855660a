/- Walks of slices.Values, AppendSeq, Collect and Sorted, of a list of ints. -/
import Derived.Test.YtodckaioeomccaaGreatPart18
import Derived.Test.YtodckaioeomccaaGreatPart04
import Derived.Sort.OwnSortedInts
namespace Go.Proofs.YtodckaioeomccaaGreat
open Go.RowKit Go.Shelf Go.Sort
set_option linter.unusedVariables false
set_option linter.unusedSimpArgs false
attribute [local go_sem] Oper.semAt_some
theorem values_any (v : Value) (w : World) (hv : ∃ A n c, v = .slice A n c) : Calls Tryz.prog 109 #[v] w fun e w' => e = .returned (.func (.func 195) #[] #[.pointer (some ⟨w.heap.size, 0, none⟩)]) ∧ w.alloc (.cells #[v] 22) = w' := by
 obtain ⟨A, n, c, rfl⟩ := hv
 go_enter Tryz.func109, Tryz.ntmps109
 go_wp2_with fail
 go_ret
 exact ⟨rfl, rfl⟩
theorem valR_put {l : List Int} (pre : List Int) (x : Int) (b0 : Nat) (W : World) (k : Nat) (o o' : Obj) (hl : W.heap[k]? = some o) (ho : o.isCells = false) (h : ValR l pre x b0 W) : ValR l pre x b0 (W.putObj k o') := h
def CollI (w0 : World) (b : Nat) (pre : List Int) (W : World) : Prop :=
 (∃ v, Boxed W b 22 v ∧ W.ownsRow b 3 1 v pre.length (pre.map intV) ∧ True) ∧ Below b w0 W
theorem collI_own (w0 : World) (b B : Nat) (hb : b ≤ w0.heap.size) (hB : b ≤ B) : OwnFrom B (CollI w0 b) :=
 OwnFrom.and (Own.from (holdsRow_own _ _ _ _ _ (fun pre : List Int => pre.length) _ (fun _ _ => True)) _) (ownFrom_below hb hB)
theorem rowck {W W' : World} {base : Nat} {e : TypeId} {size : Nat} {v : Value} {k : Nat} {xs : List Value} (h : W.ownsRow base e size v k xs) (hk : CellsKept W W') : W'.ownsRow base e size v k xs := by
 refine ⟨h.1, h.2.imp id ?_⟩
 rintro ⟨g, cap, cur, e1, e2, e3, e4⟩
 exact ⟨g, cap, cur, e1, e2, hk.same _ _ e3 rfl, e4⟩
theorem enters_val1 : ∀ args w, (callFunc 195 args).run Tryz.prog w = .ok (.enter 195 args) w := enters_of Tryz.func195 (by kernel_rfl) rfl
theorem leaveR {fn : Func} {R : Ending → World → Prop} {a : Act} {W : World} {D : Nat} {v : Value} (hK : W.heap[D]? = some (.deferred (some []))) {k : Nat} (hr : fn.results = #[.tmp k]) (hv : a.tmps.getD k undef = v)
  (hd : a.defers = [{ target := .collected D, args := #[] }]) (hR : ∀ o', R (.returned v) (W.putObj D o')) : bodyPostM Fence.wide 3 Tryz.prog fn R .ret a W := by
 show LeavesInM Fence.wide 3 Tryz.prog fn a.tmps _ a.defers .returning W
 rw [hd]
 subst hv
 exact ⟨by simp, .inl ⟨_, _, rfl, run_takeDeferred hK, _, results_tmp hr _ _ _, hR _⟩⟩
set_option maxRecDepth 100000 in
set_option maxHeartbeats 4000000 in
theorem appendSeq_any (v : Value) (l : List Int) (w : World) (Bs : Nat) (hv : RdL w v l) (hl : l.length ≤ 1000) (hBs : Bs < w.heap.size) (hc : w.cell? ⟨Bs, 0, none⟩ = some v) :
  Calls Tryz.prog 247 #[.slice none 0 0, .func (.func 195) #[] #[.pointer (some ⟨Bs, 0, none⟩)]] w fun e w' => (∃ v', e = .returned v' ∧ w'.ownsRow w.heap.size 3 1 v' l.length (l.map intV)) ∧ Below w.heap.size w w' := by
 obtain ⟨j0, hj0, hy0, hy1, hy2⟩ := info_parts info3
 obtain ⟨W1, hW1⟩ : ∃ W1, W1 = w.alloc (.cells #[.slice none 0 0] 22) := ⟨_, rfl⟩
 have hb1 : Below w.heap.size w W1 := by rw [hW1]; exact (Below.refl _ _).alloc (Nat.le_refl _) _
 have hs1 : W1.heap.size = w.heap.size + 1 := by rw [hW1]; simp
 have hI0 : CollI w w.heap.size [] W1 := by
  refine ⟨⟨.slice none 0 0, ?_, World.ownsRow_nil _ _ _ _, trivial⟩, hb1⟩
  rw [hW1]; exact Boxed.new w 22 (.slice none 0 0)
 have HTO := h0d (values_told v l w W1 hv hb1 Bs hBs hc)
 have HI0 := h0d hI0
 have HW1 := h0d hW1
 have HS1 := h0d hs1
 have HL := h0d hl
 clear hv hc hBs hb1 hW1 hI0 hs1 hl
 refine callsIn_wide.1 (callsIn_of_wp_marks (n := 3) Tryz.func247 rfl trivial (wpIn_wide.2 ?_) rfl)
 simp only [Tryz.ntmps247, List.size_toArray, List.length_cons, List.length_nil, Nat.reduceAdd, Nat.reduceSub, Array.replicate_succ, Array.replicate_zero, List.push_toArray, List.append_toArray, List.nil_append, List.cons_append]
 go_wp2_with fail
 rw [← HW1.out]
 refine wp_range_told rfl enters_val1 HTO.out (by have := HS1.out; omega) (fun _ => rfl) valR_put (CollI w w.heap.size) (fun _ _ _ => False) (collI_own _ _ _ (Nat.le_refl _) (by have := HS1.out; omega)) (fun _ _ _ _ _ h _ _ => h) HI0.out
  (fun x a' W => a' = { tmps := #[.slice none 0 0, .func (.func 195) #[] #[.pointer (some ⟨Bs, 0, none⟩)], .pointer (some ⟨w.heap.size, 0, none⟩), undef, .slice none 0 0, .int .i64 x, .func (.func 195) #[] #[.pointer (some ⟨Bs, 0, none⟩)], .int .i64 x, undef, undef, undef, undef, undef], defers := [] }) (fun _ _ _ _ _ _ _ _ h => h) ?assign ?body ?done ?stop
 case stop => intro D c pre W _ _ h; exact h.elim
 case assign =>
  intro L pre x b W K hi hr hK
  simp only [valEnc]
  have HK := h0d hK
  clear hK
  gi_wp2
  exact HK.out _ _ (KeepsFrom.refl _ _) (CellsKept.refl _) (Below.refl _ _) hi hr rfl
 case body =>
  rintro L pre x a' W0 W hi0 hck hi hr rfl
  obtain ⟨⟨v, p2, prow, -⟩, -⟩ := hi0
  have h2 : Boxed W w.heap.size 22 v := hck.same _ _ p2 rfl
  have hrow := rowck prow hck
  obtain ⟨A7, c7, rfl⟩ := ownsRow_slice hrow
  have hlt : pre.length < l.length := (List.getElem?_eq_some_iff.1 hr.1).1
  have hc1 := h2.cell
  have hf1 := h2.frozen
  have hwW : w.heap.size < W.heap.size := h2.lt
  have HROW := h0d hrow
  have H2 := h0d h2
  have HBEL := h0d hi.2
  have hpl : pre.length ≤ 1000 := by have := HL.out; omega
  obtain ⟨k, hk⟩ : ∃ k, k = pre.length := ⟨_, rfl⟩
  have HKP := h0d hk
  rw [← hk] at hc1 HROW H2 hpl
  clear hi p2 prow hrow h2 hr hck hlt hk
  gi_wp2_with (gi_at_builtin; refine wpListIn_append_own _ rfl _ _ 22 rfl w.heap.size 3 j0 (.int .i64 0) 1 8 Tryz.underlying22 hj0 hy0 hy1 hy2 rfl (by decide) _ k (pre.map intV) rfl (HROW.out.alloc _) ⟨W.heap.size, 0, none⟩ 1 1 [.int .i64 x] rfl rfl (cell_one_new _ _ _) (fun u hu => by simp at hu; subst hu; rfl) (by unfold maxLen; omega) (by omega) (by simp; omega) ?_; intro v' w7 hown' hgrow _; obtain ⟨hv1, hv2, hr2, hk2, hb2'⟩ := H2.out.appended (by decide) HROW.out (by omega) (by omega) hown' hgrow; obtain ⟨A9, c9, rfl⟩ := ownsRow_slice hown'; have hc7 := hv1.cell; have hf7 := hv1.frozen; have HV7 := h0d (And.intro hv2 (And.intro hr2 (And.intro hk2 hb2'))); clear hown' hgrow hv1 hv2 hr2 hk2 hb2')
  obtain ⟨hv2, hr2, hk2, hb2'⟩ := HV7.out
  refine ⟨hk2.from _, hb2', ⟨_, hv2, ?_, trivial⟩, HBEL.out.trans hb2'⟩
  rw [List.length_append, List.map_append, ← HKP.out]; exact hr2
 case done =>
  intro D ys W hD hS hI hK
  obtain ⟨⟨v, hb2, hrow, -⟩, hbel⟩ := hI
  subst hS
  obtain ⟨A9, c9, rfl⟩ := ownsRow_slice hrow
  have hc1 := hb2.cell
  have HROW := h0d hrow
  have HBEL := h0d hbel
  have HK := h0d hK
  have HD : Hid (w.heap.size + 1 ≤ D) := by show _ ≤ _; have := HS1.out; omega
  clear hrow hbel hK hb2 hD
  go_wp2_with fail
  refine leaveR HK.out rfl rfl rfl ?_
  intro o'
  exact (⟨⟨_, rfl, ownsRow_putObj HROW.out o' HK.out rfl⟩, HBEL.out.trans (belowK_b (w := w) (Nat.le_refl _) W D _ o' (by have := HD.out; omega) HK.out rfl rfl)⟩)
theorem collect_any (v : Value) (l : List Int) (w : World) (Bs : Nat) (hv : RdL w v l) (hl : l.length ≤ 1000) (hBs : Bs < w.heap.size) (hc : w.cell? ⟨Bs, 0, none⟩ = some v) :
  Calls Tryz.prog 193 #[.func (.func 195) #[] #[.pointer (some ⟨Bs, 0, none⟩)]] w fun e w' => (∃ v', e = .returned v' ∧ w'.ownsRow w.heap.size 3 1 v' l.length (l.map intV)) ∧ Below w.heap.size w w' := by
 have HA := h0d (appendSeq_any v l w Bs hv hl hBs hc)
 clear hv hl hBs hc
 go_enter Tryz.func193, Tryz.ntmps193
 go_wp2_with (go_at_call 247; refine HA.out.mono ?_; rintro e w1 ⟨⟨v', rfl, ho⟩, hb⟩; have HO := h0d ho; have HB := h0d hb; clear ho hb)
 go_ret
 exact ⟨⟨_, rfl, HO.out⟩, HB.out⟩
def sortL (l : List Int) : List Int := l.mergeSort fun x y => decide (x ≤ y)
theorem sortL_len (l : List Int) : (sortL l).length = l.length := List.length_mergeSort l
set_option maxRecDepth 100000 in
set_option maxHeartbeats 1000000 in
theorem sorted_any (v : Value) (l : List Int) (w : World) (Bs : Nat) (hv : RdL w v l) (hl : l.length ≤ 1000) (hl0 : l ≠ []) (hBs : Bs < w.heap.size) (hc : w.cell? ⟨Bs, 0, none⟩ = some v) :
  Calls Tryz.prog 108 #[.func (.func 195) #[] #[.pointer (some ⟨Bs, 0, none⟩)]] w fun e w' => (∃ v', e = .returned v' ∧ w'.ownsRow w.heap.size 3 1 v' (sortL l).length ((sortL l).map intV)) ∧ Below w.heap.size w w' := by
 have HA := h0d (collect_any v l w Bs hv hl hBs hc)
 have HL := h0d hl
 have HL0 := h0d hl0
 clear hv hl hBs hc hl0
 go_enter Tryz.func108, Tryz.ntmps108
 go_wp2_with fail
 refine HA.out.mono ?_
 rintro e w1 ⟨⟨v', rfl, ho⟩, hb⟩
 have HO := h0d ho
 have HB := h0d hb
 rcases ho.2 with ⟨rfl, hz⟩ | ⟨g, cap, cur, rfl, hbase, hg, r1, r2, r3, r4⟩
 ·exact absurd (List.length_eq_zero_iff.1 hz) HL0.out
 have hgl : g < w1.heap.size := (Array.getElem?_eq_some_iff.1 hg).1
 have hH : Holds (Value.int .i64) w1 g 0 l.toArray := fun j hj => by
  have hj' : j < l.length := by simpa using hj
  refine ⟨?_, frozen_of_row w1 g (0 + j) cur 3 hg⟩
  rw [Nat.zero_add, cell_of_row w1 g j cur 3 (0, 0) hg]
  have h1 : cur.toList[j]? = ((cur.toList.take (l.length * 1)))[j]? := by rw [List.getElem?_take]; simp; omega
  rw [← Array.getElem?_toList, h1, r4, List.getElem?_map, List.getElem?_eq_getElem hj']
  simp [intV, hj']
 have HS := h0d (Tryz.slices_Sort_int g 0 cap l w1 hH hgl (by have := HL.out; omega))
 have HG := h0d (And.intro hg (And.intro hbase (And.intro r1 (And.intro r2 r3))))
 clear ho hb hbase hg r1 r2 r3 r4 hH hgl
 go_wp2_with (go_at_call 194; refine HS.out.mono ?_; rintro e w2 ⟨rfl, m, os, rfl⟩)
 go_ret
 obtain ⟨hg, hbase, r1, r2, r3⟩ := HG.out
 refine ⟨⟨_, rfl, ?_⟩, HB.out.grown (grownBy_sortedI _) HB.out.size (fun k hk => by cases hk; exact hbase)⟩
 have := ownsRow_sortedI (n := m) (os := os) (ss := l) (ts := sortL l) (sortL_len l) hbase hg r1 r2 r3
 rw [sortL_len]
 exact this
end Go.Proofs.YtodckaioeomccaaGreat
