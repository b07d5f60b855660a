/- The walks of Book.names, Book.touched and Book.Touched. The walk of Book.check: an item whose head is wrong. -/
import Derived.Test.YtogccnngdfancaaGreatPart45
import Derived.Test.YtogccnngdfancaaGreatPart44
import Derived.Test.YtogccnngdfancaaGreatPart04
import Derived.Deep.QuietTactic
import Derived.BigQuiet
namespace Go.Proofs.YtogccnngdfancaaGreat
open Go.RowKit Go.Shelf

/-- The names of the items that are marked. -/
def namesOf (xs : List ItemD) (ms : List Bool) : List ByteArray := ((xs.zip ms).filter (·.2)).map (·.1.name)
theorem namesOf_snoc {xs : List ItemD} {ms : List Bool} {k : Nat} {x : ItemD} {b : Bool} (hx : xs[k]? = some x) (hb : ms[k]? = some b) :
    namesOf (xs.take (k + 1)) (ms.take (k + 1)) = namesOf (xs.take k) (ms.take k) ++ if b then [x.name] else [] := by
  have hl : (xs.take k).length = (ms.take k).length := by
    have := (List.getElem?_eq_some_iff.1 hx).1; have := (List.getElem?_eq_some_iff.1 hb).1
    simp only [List.length_take]; omega
  unfold namesOf
  rw [take_snoc? hx, take_snoc? hb, List.zip_append hl, List.filter_append, List.map_append]
  cases b <;> simp
theorem namesOf_len (xs : List ItemD) (ms : List Bool) (k : Nat) : (namesOf (xs.take k) (ms.take k)).length ≤ k := by
  unfold namesOf
  rw [List.length_map]
  refine Nat.le_trans (List.length_filter_le _ _) ?_
  rw [List.length_zip, List.length_take]; omega

set_option maxRecDepth 100000 in
set_option maxHeartbeats 1000000 in
theorem names_any (p : Value) (B : Nat) (F : Nat → Prop) (xs : List ItemD) (v : Value) (ms : List Bool) (S : Nat → Prop) (w : World) (hb : Bk w B p F xs) (hv : Rd .bool w S v ms) (hl : ms.length = xs.length) (hxl : xs.length ≤ 1024) :
    Calls Tryz.prog 48 #[p, v] w fun e w' => (∃ v', e = .returned v' ∧ Rd .string w' (w.heap.size ≤ ·) v' (namesOf xs ms)) ∧ Below w.heap.size w w' := by
  obtain ⟨i0, hi, hz0, hz1, hz2⟩ := info_parts info9
  obtain ⟨bb, vi, r, fs, rfl, hbk⟩ := hb
  obtain ⟨A, n, cap, rfl, hn, hcap, hmax, hc⟩ := hv.lt.open_
  have HBK := Lib.hid hbk
  have hn1024 : n ≤ 1024 := by omega
  have HN := Lib.hid hn
  have HL := Lib.hid hl
  have HC := Lib.hid hc
  clear hbk hn hl hc
  go_enter Tryz.func48, Tryz.ntmps48
  go_wp2_with fail
  go_loopw [5, 10] (fun o iv wr => ∃ k : Nat, k ≤ n ∧ iv = .int .i64 k ∧ wr.ownsRow w.heap.size 9 1 o (namesOf (xs.take k) (ms.take k)).length ((namesOf (xs.take k) (ms.take k)).map Value.string) ∧ Below w.heap.size w wr) (fun _ iv _ => n - (intOf iv).toNat)
  case atStart => exact ⟨0, Nat.zero_le _, rfl, World.ownsRow_nil _ _ _ _, Below.refl _ _⟩
  case round =>
    obtain ⟨k, hk, rfl, hown, hbel⟩ := hrel
    by_cases hlt : k < n
    · obtain ⟨b, off, mk, rfl, ⟨_, hbw⟩, hmk, hcell⟩ := HC.out k hlt
      have hcell' : wr.cell? ⟨b, off + k, none⟩ = some (.bool mk) := (hbel.cell (p := ⟨b, off + k, none⟩) hbw).trans hcell
      obtain ⟨x, hx⟩ : ∃ x, xs[k]? = some x := ⟨xs[k]'(by have := HN.out; have := HL.out; omega), List.getElem?_eq_getElem _⟩
      have hsn := namesOf_snoc hx hmk
      have hlen := namesOf_len xs ms k
      obtain ⟨L, hL⟩ : ∃ L, L = namesOf (xs.take k) (ms.take k) := ⟨_, rfl⟩
      rw [← hL] at hsn hown hlen
      cases mk with
      | false =>
        rw [if_neg (by simp), List.append_nil] at hsn
        have HSN := Lib.hid hsn
        clear hL hsn hmk hx hcell
        go_wp2_with fail
        go_roundw
        case rel => exact ⟨k + 1, by omega, by go_num, by rw [HSN.out]; exact hown, hbel⟩
        case measure => simp [intOf]; omega
      | true =>
        rw [if_pos rfl] at hsn
        have HSN := Lib.hid hsn
        have hbk := HBK.out.below hbel
        have e0 := hbk.cell0
        obtain ⟨g', cap', f, he, hcap', hg1, hg2, i0', i1', i2', i3', -⟩ := hbk.item hx
        subst he
        have hkx : k < xs.length := (List.getElem?_eq_some_iff.1 hx).1
        have hszw := hbel.size
        obtain ⟨xn, xk, xa, xf⟩ := x
        simp only at *
        clear hL hsn hmk hx hcell hbk i1' i2' i3'
        go_wp2_with (at_builtin; refine wpList_append_own _ rfl _ _ 72 rfl w.heap.size 9 i0 (.string ⟨#[]⟩) 1 16 Tryz.underlying72 hi hz0 hz1 hz2 rfl (by decide) _ _ _ rfl (hown.alloc _) ⟨wr.heap.size, 0, none⟩ 1 1 [.string xn] rfl rfl (cell_one_new _ _ _) (fun u hu => by simp at hu; subst hu; rfl) (by unfold maxLen; omega) (by omega) (by simp; omega) ?_; intro v' w1 hown' hgrow _)
        have hg := grown_below hown hgrow hszw
        go_roundw
        case rel => exact ⟨k + 1, by omega, by go_num, by rw [HSN.out, List.map_append, List.length_append]; exact hown', hbel.trans hg.1⟩
        case measure => simp [intOf]; omega
    · have hkn : k = n := by omega
      have h1 : xs.take k = xs := List.take_of_length_le (by have := HN.out; have := HL.out; omega)
      have h2 : ms.take k = ms := List.take_of_length_le (by have := HN.out; omega)
      rw [h1, h2] at hown
      have HO := Lib.hid hown
      clear hown h1 h2
      go_wp2_with fail
      go_ret
      exact ⟨⟨_, rfl, Rd.of_own HO.out⟩, hbel⟩

/-- What touched leaves: the marks, or the error of the fault. -/
def touchedMs (xs : List ItemD) (f : FaultD) : List Bool := match idx xs f.item with | some i => spAll xs i (fun x => during f x.at_) | none => []
def TouchedPost (w : World) (xs : List ItemD) (f : FaultD) (e : Ending) (w' : World) : Prop :=
  (∃ v, e = .returned (.tuple #[v, .int .i64 (faultErr xs f)]) ∧ ((faultErr xs f = 0 ∧ w'.ownsRow w.heap.size 4 1 v xs.length ((touchedMs xs f).map Value.bool)) ∨ (faultErr xs f ≠ 0 ∧ v = .slice none 0 0))) ∧ Below w.heap.size w w'
theorem enters85 : ∀ args w, (callFunc 80 args).run Tryz.prog w = .ok (.enter 80 args) w := enters_of Tryz.func80 (by kernel_rfl) rfl
theorem fault_some {xs : List ItemD} {f : FaultD} (h : faultErr xs f = 0) : ∃ i, idx xs f.item = some i ∧ faultI xs f = i ∧ i < xs.length ∧ ∃ y, xs[i]? = some y ∧ y.kind ≠ 3 ∧ f.since ≤ f.until_ := by
  have h0 := h
  unfold faultErr at h
  cases hi : idx xs f.item with
  | none => simp [hi] at h
  | some i =>
    obtain ⟨y, hy, _⟩ := idx_get hi
    simp only [hi, hy] at h
    refine ⟨i, rfl, by unfold faultI; rw [if_pos h0]; simp [idxI, hi], idx_lt hi, y, hy, ?_⟩
    split at h
    · cases h
    · split at h
      · cases h
      · exact ⟨‹_›, by omega⟩

set_option maxRecDepth 100000 in
set_option maxHeartbeats 1000000 in
theorem touched_any (p : Value) (B : Nat) (F : Nat → Prop) (xs : List ItemD) (f : FaultD) (w : World) (hb : Bk w B p F xs) (hfd : Found xs) (hxl : xs.length ≤ 1024) (hnm : f.item.size ≤ maxLen) :
    Calls Tryz.prog 47 #[p, .agg #[.string f.item, .int .i64 f.since, .int .i64 f.until_]] w (TouchedPost w xs f) := by
  have hfa := fun w' (h : Below w.heap.size w w') => fault_any p B F xs f w' (hb.below h) hnm
  have HFA := Lib.hid hfa
  have HB := Lib.hid hb
  have HFD := Lib.hid hfd
  have hw0 : Below w.heap.size w (w.alloc (.cells #[Value.string f.item, .int .i64 f.since, .int .i64 f.until_] 76)) := (Below.refl _ w).alloc (Nat.le_refl _) _
  obtain ⟨bb, _, _, _, rfl, _⟩ := hb
  obtain ⟨fe, hfe⟩ : ∃ fe, fe = faultErr xs f := ⟨_, rfl⟩
  obtain ⟨fi, hfi⟩ : ∃ fi, fi = faultI xs f := ⟨_, rfl⟩
  rw [← hfe, ← hfi] at HFA
  have HFE := Lib.hid hfe
  have HFI := Lib.hid hfi
  clear hfa hfe hfi hfd
  have hm3 : ∀ w1, Below (w.alloc (.cells #[Value.string f.item, .int .i64 f.since, .int .i64 f.until_] 76)).heap.size (w.alloc (.cells #[Value.string f.item, .int .i64 f.since, .int .i64 f.until_] 76)) w1 → w1.heap[w.heap.size]? = some (.cells #[Value.string f.item, .int .i64 f.since, .int .i64 f.until_] 76) := fun w1 h => (h.block _ (by simp)).trans (heap_alloc_new w _)
  have HM3 := Lib.hid hm3
  clear hm3
  obtain ⟨it, si, un⟩ := f
  simp only at *
  by_cases hz : fe = 0
  · have hz' : (fe != 0) = false := by simpa using hz
    obtain ⟨i, hi, hfi, hil, -⟩ := fault_some (HFE.out.symm.trans hz)
    have hsp := fun w' (h : Below w.heap.size w w') => spread_any (.pointer (some ⟨bb, 0, none⟩)) B F xs i hil hxl 80 #[.agg #[.string it, .int .i64 si, .int .i64 un]] #[] enters85 (fun x => during ⟨it, si, un⟩ x.at_) w' (HB.out.below h) HFD.out
      (fun x _ vf w'' _ => during_any ⟨it, si, un⟩ x.name x.kind x.at_ vf w'')
    have HSP := Lib.hid hsp
    have hfi' : fi = i := HFI.out.trans hfi
    rw [hfi'] at HFA
    have HMS : Hid (touchedMs xs ⟨it, si, un⟩ = spAll xs i (fun x => during ⟨it, si, un⟩ x.at_)) := by unfold touchedMs Hid; simp only [hi]
    have HZ := Lib.hid hz
    clear hz hi hfi hsp hfi' hil
    go_enter Tryz.func47, Tryz.ntmps47
    go_wp2_with fail
    refine (HFA.out _ hw0).mono ?_
    rintro e w1 ⟨rfl, hb1⟩
    have hm := HM3.out w1 hb1
    have c0 := cell_of_row w1 _ 0 _ _ _ hm
    have c1 := cell_of_row w1 _ 1 _ _ _ hm
    have c2 := cell_of_row w1 _ 2 _ _ _ hm
    have hbw : Below w.heap.size w w1 := hw0.trans (hb1.mono (by simp))
    clear hb1 hm
    go_wp2_with fail
    refine (HSP.out _ hbw).mono ?_
    rintro e w2 ⟨⟨v, rfl, hown⟩, hb2⟩
    go_wp2_with fail
    go_ret2
    exact ⟨⟨_, by rw [← HFE.out, HZ.out]; rfl, .inl ⟨by rw [← HFE.out, HZ.out], by rw [HMS.out]; exact ownsRow_mono hown hbw.size⟩⟩, hbw.trans (hb2.mono hbw.size)⟩
  · have hz' : (fe != 0) = true := by simpa using hz
    have HZ := Lib.hid hz
    clear hz
    go_enter Tryz.func47, Tryz.ntmps47
    go_wp2_with fail
    refine (HFA.out _ hw0).mono ?_
    rintro e w1 ⟨rfl, hb1⟩
    have hbw : Below w.heap.size w w1 := hw0.trans (hb1.mono (by simp))
    go_wp2_with fail
    go_ret2
    exact ⟨⟨_, by rw [← HFE.out]; rfl, .inr ⟨by rw [← HFE.out]; exact HZ.out, rfl⟩⟩, hbw⟩

/-- What Touched leaves: the names, or the error of the fault. -/
def TouchedNames (w : World) (xs : List ItemD) (f : FaultD) (e : Ending) (w' : World) : Prop :=
  (∃ v, e = .returned (.tuple #[v, .int .i64 (faultErr xs f)]) ∧ Rd .string w' (w.heap.size ≤ ·) v (if faultErr xs f = 0 then namesOf xs (touchedMs xs f) else [])) ∧ Below w.heap.size w w'
theorem spAll_len (xs : List ItemD) (i : Nat) (q : ItemD → Bool) : (spAll xs i q).length = xs.length := spGo_len _ _ _ _
set_option maxRecDepth 100000 in
set_option maxHeartbeats 1000000 in
theorem Touched_any (p : Value) (B : Nat) (F : Nat → Prop) (xs : List ItemD) (f : FaultD) (w : World) (hb : Bk w B p F xs) (hfd : Found xs) (hxl : xs.length ≤ 1024) (hnm : f.item.size ≤ maxLen) :
    Calls Tryz.prog 21 #[p, .agg #[.string f.item, .int .i64 f.since, .int .i64 f.until_]] w (TouchedNames w xs f) := by
  have hta := fun w' (h : Below w.heap.size w w') => touched_any p B F xs f w' (hb.below h) hfd hxl hnm
  have HTA := Lib.hid hta
  have HB := Lib.hid hb
  have hw0 : Below w.heap.size w (w.alloc (.cells #[Value.string f.item, .int .i64 f.since, .int .i64 f.until_] 76)) := (Below.refl _ w).alloc (Nat.le_refl _) _
  obtain ⟨bb, _, _, _, rfl, _⟩ := hb
  have hna := fun w' v ms (h : Below w.heap.size w w') (hr : Rd .bool w' (w.heap.size ≤ ·) v ms) (hl : ms.length = xs.length) => names_any (.pointer (some ⟨bb, 0, none⟩)) B F xs v ms _ w' (HB.out.below h) hr hl hxl
  have HNA := Lib.hid hna
  have HML : Hid (faultErr xs f = 0 → (touchedMs xs f).length = xs.length) := fun h => by
    obtain ⟨i, hi, _⟩ := fault_some h
    unfold touchedMs; simp only [hi]; exact spAll_len _ _ _
  clear hta hna hfd
  obtain ⟨fe, hfe⟩ : ∃ fe, fe = faultErr xs f := ⟨_, rfl⟩
  have HFE := Lib.hid hfe
  clear hfe
  by_cases hz : fe = 0
  · have hz' : (fe != 0) = false := by simpa using hz
    have HZ := Lib.hid hz
    clear hz
    go_enter Tryz.func21, Tryz.ntmps21
    go_wp2_with fail
    refine (HTA.out _ hw0).mono ?_
    rintro e w1 ⟨⟨v, rfl, hv⟩, hb1⟩
    rw [← HFE.out]
    have hbw : Below w.heap.size w w1 := hw0.trans (hb1.mono (by simp))
    rcases hv with ⟨_, ho⟩ | ⟨hne, _⟩
    case inr => exact absurd (HFE.out.symm.trans HZ.out) hne
    have hr : Rd .bool w1 (w.heap.size ≤ ·) v (touchedMs xs f) := (Rd.of_own ho).mono (fun b hb => by simp at hb; omega)
    have HR := Lib.hid hr
    clear hr ho
    go_wp2_with fail
    refine (HNA.out _ _ _ hbw HR.out (HML.out (HFE.out.symm.trans HZ.out))).mono ?_
    rintro e w2 ⟨⟨v2, rfl, hr2⟩, hb2⟩
    go_wp2_with fail
    go_ret2
    refine ⟨⟨_, by rw [← HFE.out, HZ.out]; rfl, ?_⟩, hbw.trans (hb2.mono hbw.size)⟩
    rw [← HFE.out, if_pos HZ.out]
    exact hr2.mono fun b hb => Nat.le_trans hbw.size hb
  · have hz' : (fe != 0) = true := by simpa using hz
    have HZ := Lib.hid hz
    clear hz
    go_enter Tryz.func21, Tryz.ntmps21
    go_wp2_with fail
    refine (HTA.out _ hw0).mono ?_
    rintro e w1 ⟨⟨v, rfl, hv⟩, hb1⟩
    rw [← HFE.out]
    have hbw : Below w.heap.size w w1 := hw0.trans (hb1.mono (by simp))
    clear hv
    go_wp2_with fail
    go_ret2
    refine ⟨⟨_, by rw [← HFE.out]; rfl, ?_⟩, hbw⟩
    rw [← HFE.out, if_neg HZ.out]
    exact Rd.none_ _ _ _
end Go.Proofs.YtogccnngdfancaaGreat
namespace Go.Proofs.YtogccnngdfancaaGreat
open Go.RowKit

set_option maxRecDepth 100000 in
set_option maxHeartbeats 400000 in
theorem check1_any (v : Value) (c : List ByteArray) (S : Nat → Prop) (w : World) (hv : Rd .string w S v c) :
    Calls Tryz.prog 74 #[v] w fun e w' => e = .returned (.bool (badC c)) ∧ w = w' := by
  obtain ⟨A, n, cap, rfl, hn, hcap, hmax, hc⟩ := hv.open_
  have HB : Hid (badC c = (decide (n < 1) || decide (8 < n))) := by unfold badC; rw [hn]; rfl
  clear hn hc
  rcases Nat.lt_or_ge n 1 with h | h
  · go_enter Tryz.func74, Tryz.ntmps74
    go_wp2_with fail
    go_ret
    exact ⟨ret_bool (by rw [HB.out, decide_eq_true h]; rfl), rfl⟩
  · rcases Nat.lt_or_ge 8 n with h8 | h8
    · go_enter Tryz.func74, Tryz.ntmps74
      go_wp2_with fail
      go_ret
      exact ⟨ret_bool (by rw [HB.out, decide_eq_true h8]; simp; omega), rfl⟩
    · go_enter Tryz.func74, Tryz.ntmps74
      go_wp2_with fail
      go_ret
      exact ⟨ret_bool (by rw [HB.out, decide_eq_false (by omega : ¬ 8 < n), decide_eq_false (by omega : ¬ n < 1)]; simp; omega), rfl⟩

theorem badAny (xss : List (List ByteArray)) : anyIdx (fun i => badC (xss.getD i [])) xss.length = xss.any badC := by
  unfold anyIdx
  rw [Bool.eq_iff_iff, List.any_eq_true, List.any_eq_true]
  constructor
  · rintro ⟨i, hi, h⟩
    have hi := List.mem_range.1 hi
    refine ⟨xss[i], List.getElem_mem hi, ?_⟩
    simpa [List.getD, List.getElem?_eq_getElem hi] using h
  · rintro ⟨x, hx, h⟩
    obtain ⟨i, hi, rfl⟩ := List.mem_iff_getElem.1 hx
    exact ⟨i, List.mem_range.2 hi, by simpa [List.getD, List.getElem?_eq_getElem hi] using h⟩
theorem head_cases (q : Bool) (k a : Int) (n : Nat) : (q = false) ∨ (q = true ∧ k < 0) ∨ (q = true ∧ 0 ≤ k ∧ 3 < k) ∨ (q = true ∧ 0 ≤ k ∧ k ≤ 3 ∧ a < 0) ∨ (q = true ∧ 0 ≤ k ∧ k ≤ 3 ∧ 0 ≤ a ∧ ((k == 0) = true ∧ ((n : Int) == 0) = false)) ∨ (q = true ∧ 0 ≤ k ∧ k ≤ 3 ∧ 0 ≤ a ∧ ((k == 0) = false ∧ ((n : Int) == 0) = true)) ∨
    (q = true ∧ 0 ≤ k ∧ k ≤ 3 ∧ 0 ≤ a ∧ ((k == 0) = true ∧ ((n : Int) == 0) = true)) ∨ (q = true ∧ 0 ≤ k ∧ k ≤ 3 ∧ 0 ≤ a ∧ ((k == 0) = false ∧ ((n : Int) == 0) = false)) := by
  cases q
  · exact .inl rfl
  · by_cases h1 : k < 0
    · exact .inr (.inl ⟨rfl, h1⟩)
    by_cases h2 : 3 < k
    · exact .inr (.inr (.inl ⟨rfl, by omega, h2⟩))
    by_cases h3 : a < 0
    · exact .inr (.inr (.inr (.inl ⟨rfl, by omega, by omega, h3⟩)))
    right; right; right; right
    cases h4 : (k == 0) <;> cases h5 : ((n : Int) == 0) <;> simp <;> omega

/-- Cells of a boxed item. -/
theorem box_cells {w w1 : World} {nm : ByteArray} {kd a : Int} {vf : Value} (hb : Below (w.alloc (.cells #[Value.string nm, .int .i64 kd, .int .i64 a, vf] 71)).heap.size (w.alloc (.cells #[Value.string nm, .int .i64 kd, .int .i64 a, vf] 71)) w1) :
    w1.heap[w.heap.size]? = some (.cells #[Value.string nm, .int .i64 kd, .int .i64 a, vf] 71) :=
  (hb.block _ (by simp)).trans (heap_alloc_new w _)

set_option maxRecDepth 100000 in
set_option maxHeartbeats 2000000 in
theorem check_bad (p vf : Value) (B : Nat) (F S : Nat → Prop) (xs : List ItemD) (x : ItemD) (w : World) (hb : Bk w B p F xs) (hv : Rd2 w S vf x.frm) (hbad : nameB x.name.data.toList = false ∨ x.kind < 0 ∨ 3 < x.kind ∨ x.at_ < 0 ∨ ¬ (x.kind = 0 ↔ x.frm.length = 0)) :
    Calls Tryz.prog 45 #[p, .agg #[.string x.name, .int .i64 x.kind, .int .i64 x.at_, vf]] w fun e w' => e = .returned (.int .i64 (chk xs x)) ∧ Below w.heap.size w w' := by
  obtain ⟨vs, hvs, hlen, hin⟩ := hv
  obtain ⟨A, n, cap, rfl, hn, hcap, hmax, hc⟩ := hvs.open_
  have HV := Lib.hid hvs
  have HIN := Lib.hid hin
  have hn' : n = x.frm.length := by omega
  have HN := Lib.hid hn'
  obtain ⟨bb, vi, r, fs, rfl, hbk⟩ := hb
  clear hvs hin hc hn hlen hn'
  obtain ⟨nm, kd, a, frm⟩ := x
  simp only at *
  obtain ⟨q, hq⟩ : ∃ q, q = nameB nm.data.toList := ⟨_, rfl⟩
  have HNM := fun w => (isName_any nm w).mono (R' := fun e w' => e = .returned (.bool q) ∧ Below w.heap.size w w') fun e w' ⟨h1, h2⟩ => ⟨by rw [h1, hq], h2⟩
  have HNAME := Lib.hid HNM
  have HQ := Lib.hid hq
  clear hq HNM
  rcases head_cases q kd a n with h | ⟨h, h1⟩ | ⟨h, h1, h2⟩ | ⟨h, h1, h2, h3⟩ | ⟨h, h1, h2, h3, h4, h5⟩ | ⟨h, h1, h2, h3, h4, h5⟩ | ⟨h, h1, h2, h3, h4, h5⟩ | ⟨h, h1, h2, h3, h4, h5⟩
  case inr.inr.inr.inr.inr.inr.inl | inr.inr.inr.inr.inr.inr.inr =>
    exfalso
    subst h
    rw [← HQ.out, ← HN.out] at hbad
    simp at h4 h5 hbad
    omega
  all_goals
    clear hbad
    subst h
    have HE : Hid (chk xs ⟨nm, kd, a, frm⟩ = 1) := by
      unfold chk Hid
      rw [if_pos]
      simp only [← HQ.out, ← HN.out]
      simp at *
      all_goals first | omega | (simp; omega) | simp
    go_enter Tryz.func45, Tryz.ntmps45
    go_wp2_with fail
    refine (HNAME.out _).mono ?_
    rintro e w1 ⟨rfl, hb1⟩
    have hm := box_cells hb1
    have c1 : w1.cell? ⟨w.heap.size, 1, none⟩ = some (.int .i64 kd) := cell_of_row w1 _ 1 _ _ _ hm
    have c2 : w1.cell? ⟨w.heap.size, 2, none⟩ = some (.int .i64 a) := cell_of_row w1 _ 2 _ _ _ hm
    have c3 : w1.cell? ⟨w.heap.size, 3, none⟩ = some (.slice A n cap) := cell_of_row w1 _ 3 _ _ _ hm
    have hbw : Below w.heap.size w w1 := ((Below.refl _ w).alloc (Nat.le_refl _) _).trans (hb1.mono (by simp))
    clear hm hb1
    go_wp2_with fail
    go_ret
    exact ⟨ret_int HE.out.symm, hbw⟩
end Go.Proofs.YtogccnngdfancaaGreat
