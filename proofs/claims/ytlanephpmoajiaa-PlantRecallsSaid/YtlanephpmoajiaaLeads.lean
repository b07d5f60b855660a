/- Plain laws of Leads: a way is right if each of its names is. The walk of the reference's Leads. The walk of Book.Leads. -/
import Derived.Test.YtlanephpmoajiaaTrails
import Derived.Test.YtlanephpmoajiaaSeq
import Derived.IntWalk
namespace Go.Proofs.Ytlanephpmoajiaa
open Go.RowKit
set_option linter.unusedVariables false
def leadsUp (xs : List ItemD) (f : FaultD) (way : List ByteArray) (d : Nat) : Bool := (List.range d).all (fun k => leadsAt xs f way (k + 1))
theorem leadsUp_zero (xs : List ItemD) (f : FaultD) (way : List ByteArray) : leadsUp xs f way 0 = true := rfl
theorem leadsUp_succ {xs : List ItemD} {f : FaultD} {way : List ByteArray} {d : Nat} (h : leadsUp xs f way d = true) (h1 : leadsAt xs f way (d + 1) = true) : leadsUp xs f way (d + 1) = true := by
  unfold leadsUp at *
  rw [List.range_succ, List.all_append, h]
  simp [h1]
theorem leads_no {xs : List ItemD} {f : FaultD} {way : List ByteArray} {d : Nat} (hd : d + 1 < way.length) (h : leadsAt xs f way (d + 1) = false) : leadsB xs f way = false := by
  unfold leadsB
  rw [Bool.and_eq_false_iff]
  right
  rw [List.all_eq_false]
  exact ⟨d, List.mem_range.2 (by omega), by rw [h]; simp⟩
theorem leads_yes {xs : List ItemD} {f : FaultD} {way : List ByteArray} {s0 : ByteArray} (he : faultErr xs f = 0) (h2 : 2 ≤ way.length) (h0 : way[0]? = some s0) (hs : s0 = f.item) (h : leadsUp xs f way (way.length - 1) = true) : leadsB xs f way = true := by
  unfold leadsB
  unfold leadsUp at h
  rw [h, he]
  simp [h2, List.getD_eq_getElem?_getD, h0, hs]
theorem leads_short {xs : List ItemD} {f : FaultD} {way : List ByteArray} (h : way.length < 2) : leadsB xs f way = false := by
  unfold leadsB
  rw [decide_eq_false (p := 2 ≤ way.length) (by omega)]
  simp
theorem leads_err {xs : List ItemD} {f : FaultD} {way : List ByteArray} (h : faultErr xs f ≠ 0) : leadsB xs f way = false := by
  unfold leadsB
  rw [decide_eq_false h]
  simp
theorem leads_first {xs : List ItemD} {f : FaultD} {way : List ByteArray} {s0 : ByteArray} (h0 : way[0]? = some s0) (hs : s0 ≠ f.item) : leadsB xs f way = false := by
  unfold leadsB
  rw [decide_eq_false (p := way.getD 0 ⟨#[]⟩ = f.item) (by rw [List.getD_eq_getElem?_getD, h0]; exact hs)]
  simp
theorem leadsAt_none {xs : List ItemD} {f : FaultD} {way : List ByteArray} {k : Nat} {s : ByteArray} (h : way[k]? = some s) (hi : idx xs s = none) : leadsAt xs f way k = false := by
  unfold leadsAt
  rw [List.getD_eq_getElem?_getD, h]
  show (match idx xs s with | none => false | some n => _) = false
  rw [hi]
theorem leadsAt_some {xs : List ItemD} {f : FaultD} {way : List ByteArray} {k i : Nat} {s p : ByteArray} {x : ItemD} (h : way[k]? = some s) (hp : way[k - 1]? = some p) (hi : idx xs s = some i) (hx : xs[i]? = some x) : leadsAt xs f way k = (chosenB x p && (decide (k ≠ 1) || during f x.at_)) := by
  unfold leadsAt
  rw [List.getD_eq_getElem?_getD, h]
  show (match idx xs s with | none => false | some n => _) = _
  rw [hi]
  simp only [hx]
  rw [List.getD_eq_getElem?_getD, hp]
  rfl
/-- The ways through the test of one name: of the choice, of the place, of the two times. -/
inductive LeadWay (q : Bool) (k : Nat) (at_ si un : Int) : Bool → Prop
  | miss (h : q = false) : LeadWay q k at_ si un false
  | far (h : q = true) (hk : k ≠ 1) : LeadWay q k at_ si un true
  | early (h : q = true) (hk : k = 1) (ha : at_ < si) : LeadWay q k at_ si un false
  | late (h : q = true) (hk : k = 1) (ha : si ≤ at_) (hb : un < at_) : LeadWay q k at_ si un false
  | hit (h : q = true) (hk : k = 1) (ha : si ≤ at_) (hb : at_ ≤ un) : LeadWay q k at_ si un true
theorem leadWay (q : Bool) (k : Nat) (f : FaultD) (a : Int) : LeadWay q k a f.since f.until_ (q && (decide (k ≠ 1) || during f a)) := by
  cases q with
  | false => exact .miss rfl
  | true =>
    by_cases hk : k = 1
    · subst hk
      by_cases h1 : f.since ≤ a
      · by_cases h2 : a ≤ f.until_
        · have : (true && (decide ((1 : Nat) ≠ 1) || during f a)) = true := by simp [during, h1, h2]
          rw [this]; exact .hit rfl rfl h1 h2
        · have : (true && (decide ((1 : Nat) ≠ 1) || during f a)) = false := by simp [during, h1, h2]
          rw [this]; exact .late rfl rfl h1 (by omega)
      · have : (true && (decide ((1 : Nat) ≠ 1) || during f a)) = false := by simp [during, h1]
        rw [this]; exact .early rfl rfl (by omega)
    · have : (true && (decide (k ≠ 1) || during f a)) = true := by simp [hk]
      rw [this]; exact .far rfl hk
end Go.Proofs.Ytlanephpmoajiaa

namespace Go.Proofs.Ytlanephpmoajiaa
open Go.RowKit
set_option linter.unusedVariables false
set_option linter.unusedSimpArgs false
theorem str_cases (a b : ByteArray) : ((!a.toList == b.toList) = true ∧ (a.toList == b.toList) = false ∧ a ≠ b) ∨ ((!a.toList == b.toList) = false ∧ (a.toList == b.toList) = true ∧ a = b) := by
  have e := str_eq a b
  by_cases h : a = b
  · rw [decide_eq_true h] at e
    exact .inr ⟨by rw [e]; rfl, e, h⟩
  · rw [decide_eq_false h] at e
    exact .inl ⟨by rw [e]; rfl, e, h⟩
set_option maxRecDepth 100000 in
set_option maxHeartbeats 4000000 in
theorem refLeads_any (v vw : Value) (xs : List ItemD) (f : FaultD) (ws : List ByteArray) (S T : Nat → Prop) (w : World) (hv : RdI w S v xs) (hw : Rd .string w T vw ws) (hxl : xs.length ≤ 1024) (hwl : ws.length ≤ 100) :
    Calls Try.prog 50 #[v, .agg #[.string f.item, .int .i64 f.since, .int .i64 f.until_], vw] w fun e w' => e = .returned (.bool (leadsB xs f ws)) ∧ Below w.heap.size w w' := by
  have HWR := Lib.hid (fun w' (h : Below w.heap.size w w') => wrong_any v xs f S w' (hv.below h))
  have HFI := Lib.hid (fun nm w' (h : Below w.heap.size w w') => refFind_any v xs S nm w' (hv.below h))
  obtain ⟨A, n, cap, rfl, hn, hcap, hmax, hc⟩ := hv.lt.open_
  obtain ⟨Aw, m, capw, rfl, hm, hcapw, hmaxw, hcw⟩ := hw.lt.open_
  obtain ⟨fe, hfe⟩ : ∃ fe, fe = faultErr xs f := ⟨_, rfl⟩
  obtain ⟨W1, hW1⟩ : ∃ W1, W1 = w.alloc (.cells #[.string f.item, .int .i64 f.since, .int .i64 f.until_] 106) := ⟨_, rfl⟩
  have hm1 := heap_alloc_new w (.cells #[.string f.item, .int .i64 f.since, .int .i64 f.until_] 106)
  have hb1 : Below w.heap.size w W1 := by rw [hW1]; exact (Below.refl _ w).alloc (Nat.le_refl _) _
  rw [← hW1] at hm1
  have HW1 := Lib.hid hW1
  have HB1 := Lib.hid hb1
  have HM1 := Lib.hid hm1
  have HFE := Lib.hid hfe
  have HC := Lib.hid hc
  have HCW := Lib.hid hcw
  have HN := Lib.hid hn
  have HM := Lib.hid hm
  have hm100 : m ≤ 100 := by omega
  have HLW := Lib.hid (leadWay (f := f))
  rw [← hfe] at HWR
  obtain ⟨it, si, un⟩ := f
  simp only at *
  have y0 : W1.cell? ⟨w.heap.size, 0, none⟩ = some (.string it) := cell_of_row W1 _ 0 _ _ _ hm1
  have y1 : W1.cell? ⟨w.heap.size, 1, none⟩ = some (.int .i64 si) := cell_of_row W1 _ 1 _ _ _ hm1
  have y2 : W1.cell? ⟨w.heap.size, 2, none⟩ = some (.int .i64 un) := cell_of_row W1 _ 2 _ _ _ hm1
  have hwl1 := (Array.getElem?_eq_some_iff.1 hm1).1
  have hn1024 : n ≤ 1024 := by omega
  clear hfe hW1 hm1 hb1 hc hcw hn hm hv hw hxl hwl
  have hcs : ((fe != 0) = true ∧ leadsB xs ⟨it, si, un⟩ ws = false) ∨ ((fe != 0) = false ∧ decide ((m : Int) < 2) = true ∧ leadsB xs ⟨it, si, un⟩ ws = false) ∨
      ((fe != 0) = false ∧ fe = 0 ∧ decide ((m : Int) < 2) = false ∧ 2 ≤ m ∧ ∃ b0 o0 s0, Aw = some ⟨b0, o0, none⟩ ∧ b0 < w.heap.size ∧ ws[0]? = some s0 ∧ w.cell? ⟨b0, o0, none⟩ = some (.string s0)) := by
    rcases int_cases fe with ⟨hz, h0⟩ | ⟨hz, h0⟩
    · rcases Nat.lt_or_ge m 2 with hm2 | hm2
      · exact .inr (.inl ⟨hz, by simp; omega, leads_short (by have := HM.out; omega)⟩)
      · obtain ⟨b0, o0, s0, e, ⟨_, hbl⟩, hs0, hcell0⟩ := HCW.out 0 (by omega)
        exact .inr (.inr ⟨hz, h0, by simp; omega, hm2, b0, o0, s0, e, hbl, hs0, hcell0⟩)
    · exact .inl ⟨hz, leads_err (by rw [← HFE.out]; exact h0)⟩
  have hshort : ∀ (h1 : (fe != 0) = true ∨ ((fe != 0) = false ∧ decide ((m : Int) < 2) = true)), leadsB xs ⟨it, si, un⟩ ws = false →
      Calls Try.prog 50 #[.slice A n cap, .agg #[.string it, .int .i64 si, .int .i64 un], .slice Aw m capw] w fun e w' => e = .returned (.bool (leadsB xs ⟨it, si, un⟩ ws)) ∧ Below w.heap.size w w' := by
    intro h1 hres
    have HRES := Lib.hid hres
    clear hres hcs
    rcases h1 with h1 | ⟨h1, h2⟩
    all_goals
      go_enter Try.func50, Try.ntmps50
      go_wp2_with fail
      rw [← HW1.out]
      refine seq_start (S := fun w' => w'.cell? ⟨w.heap.size, 0, none⟩ = some (.string it) ∧ w'.cell? ⟨w.heap.size, 1, none⟩ = some (.int .i64 si) ∧ w'.cell? ⟨w.heap.size, 2, none⟩ = some (.int .i64 un)) (by kernel_rfl) (by kernel_rfl) (by exact ⟨y0, y1, y2⟩) ?_
      repeat (first
        | (refine seq_take0 (v := ?_) ?_ (fun _ _ _ h => h) (by kernel_rfl) ?_ ?_; rotate_left; (focus rfl); (focus (intro w' hSw; (try dsimp only at hSw); go_simp; (try with_reducible rfl); done)); (try simp only [Act.put, List.setIfInBounds_toArray, List.set_cons_zero, List.set_cons_succ]))
        | (refine seq_takeG (v := ?_) (g := ?_) (d := ?_) (b := ?_) (u := ?_) ?_ ?_ ?_ ?_ (fun _ _ _ h => h) (by kernel_rfl) ?_ ?_; rotate_left 5; (focus rfl); (focus rfl); (focus rfl); (focus (first | rfl | (go_simp; done))); (focus (intro w' hSw; (try dsimp only at hSw); go_simp; (try with_reducible rfl); done)); (try simp only [Act.put, List.setIfInBounds_toArray, List.set_cons_zero, List.set_cons_succ]))
        | (refine seq_skipG (g := ?_) (d := ?_) (b := ?_) (u := ?_) ?_ ?_ ?_ ?_ (fun _ _ _ h => h) (by kernel_rfl) ?_; rotate_left 4; (focus rfl); (focus rfl); (focus rfl); (focus (first | rfl | (go_simp; done))); (try simp only [Act.put, List.setIfInBounds_toArray, List.set_cons_zero, List.set_cons_succ])))
      refine seq_op (by kernel_rfl) (by rfl) (fun K hK => ?_)
      go_simp
      refine (HWR.out _ (HB1.out.trans ((Below.refl _ W1).drew))).mono ?_
      rintro e w6 ⟨rfl, hb6⟩
      refine hK.out _ _ ⟨(hb6.cell (p := ⟨w.heap.size, 0, none⟩) hwl1).trans y0, (hb6.cell (p := ⟨w.heap.size, 1, none⟩) hwl1).trans y1, (hb6.cell (p := ⟨w.heap.size, 2, none⟩) hwl1).trans y2⟩ ?_
      clear hK K
      repeat (first
        | (refine seq_take0 (v := ?_) ?_ (fun _ _ _ h => h) (by kernel_rfl) ?_ ?_; rotate_left; (focus rfl); (focus (intro w' hSw; (try dsimp only at hSw); go_simp; (try with_reducible rfl); done)); (try simp only [Act.put, List.setIfInBounds_toArray, List.set_cons_zero, List.set_cons_succ]))
        | (refine seq_takeG (v := ?_) (g := ?_) (d := ?_) (b := ?_) (u := ?_) ?_ ?_ ?_ ?_ (fun _ _ _ h => h) (by kernel_rfl) ?_ ?_; rotate_left 5; (focus rfl); (focus rfl); (focus rfl); (focus (first | rfl | (go_simp; done))); (focus (intro w' hSw; (try dsimp only at hSw); go_simp; (try with_reducible rfl); done)); (try simp only [Act.put, List.setIfInBounds_toArray, List.set_cons_zero, List.set_cons_succ]))
        | (refine seq_skipG (g := ?_) (d := ?_) (b := ?_) (u := ?_) ?_ ?_ ?_ ?_ (fun _ _ _ h => h) (by kernel_rfl) ?_; rotate_left 4; (focus rfl); (focus rfl); (focus rfl); (focus (first | rfl | (go_simp; done))); (try simp only [Act.put, List.setIfInBounds_toArray, List.set_cons_zero, List.set_cons_succ])))
      refine seq_done (by kernel_rfl) ?_
      go_wp2_with fail
      go_ret
      exact ⟨ret_bool HRES.out.symm, HB1.out.trans (((Below.refl _ W1).drew).trans (hb6.mono HB1.out.size))⟩
  rcases hcs with ⟨h1, h2⟩ | ⟨h1, h2, h3⟩ | ⟨hz, h0, hmz, hm2, b0, o0, s0, rfl, hbl, hs0, hcell0⟩
  · exact hshort (.inl h1) h2
  · exact hshort (.inr ⟨h1, h2⟩) h3
  clear hshort
  subst h0
  have y3 : W1.cell? ⟨b0, o0, none⟩ = some (.string s0) := (HB1.out.cell (p := ⟨b0, _, none⟩) hbl).trans hcell0
  have hbl0 : b0 < W1.heap.size := by have := HB1.out.size; omega
  have hm2i : (0 : Int) < (m : Int) := by omega
  have hm0 : 0 < m := by omega
  rcases str_cases s0 it with ⟨hst, hst2, hne⟩ | ⟨hst, hst2, hne⟩
  · have HRES : Hid (leadsB xs ⟨it, si, un⟩ ws = false) := leads_first hs0 hne
    clear hs0 hcell0 hne
    go_enter Try.func50, Try.ntmps50
    go_wp2_with fail
    rw [← HW1.out]
    refine seq_start (S := fun w' => w'.cell? ⟨w.heap.size, 0, none⟩ = some (.string it) ∧ w'.cell? ⟨w.heap.size, 1, none⟩ = some (.int .i64 si) ∧ w'.cell? ⟨w.heap.size, 2, none⟩ = some (.int .i64 un) ∧ w'.cell? ⟨b0, o0, none⟩ = some (.string s0)) (by kernel_rfl) (by kernel_rfl) (by exact ⟨y0, y1, y2, y3⟩) ?_
    repeat (first
      | (refine seq_take0 (v := ?_) ?_ (fun _ _ _ h => h) (by kernel_rfl) ?_ ?_; rotate_left; (focus rfl); (focus (intro w' hSw; (try dsimp only at hSw); go_simp; (try with_reducible rfl); done)); (try simp only [Act.put, List.setIfInBounds_toArray, List.set_cons_zero, List.set_cons_succ]))
      | (refine seq_takeG (v := ?_) (g := ?_) (d := ?_) (b := ?_) (u := ?_) ?_ ?_ ?_ ?_ (fun _ _ _ h => h) (by kernel_rfl) ?_ ?_; rotate_left 5; (focus rfl); (focus rfl); (focus rfl); (focus (first | rfl | (go_simp; done))); (focus (intro w' hSw; (try dsimp only at hSw); go_simp; (try with_reducible rfl); done)); (try simp only [Act.put, List.setIfInBounds_toArray, List.set_cons_zero, List.set_cons_succ]))
      | (refine seq_skipG (g := ?_) (d := ?_) (b := ?_) (u := ?_) ?_ ?_ ?_ ?_ (fun _ _ _ h => h) (by kernel_rfl) ?_; rotate_left 4; (focus rfl); (focus rfl); (focus rfl); (focus (first | rfl | (go_simp; done))); (try simp only [Act.put, List.setIfInBounds_toArray, List.set_cons_zero, List.set_cons_succ])))
    refine seq_op (by kernel_rfl) (by rfl) (fun K hK => ?_)
    go_simp
    refine (HWR.out _ (HB1.out.trans ((Below.refl _ W1).drew))).mono ?_
    rintro e w6 ⟨rfl, hb6⟩
    refine hK.out _ _ ⟨(hb6.cell (p := ⟨w.heap.size, 0, none⟩) hwl1).trans y0, (hb6.cell (p := ⟨w.heap.size, 1, none⟩) hwl1).trans y1, (hb6.cell (p := ⟨w.heap.size, 2, none⟩) hwl1).trans y2, (hb6.cell (p := ⟨b0, o0, none⟩) hbl0).trans y3⟩ ?_
    clear hK K
    repeat (first
      | (refine seq_take0 (v := ?_) ?_ (fun _ _ _ h => h) (by kernel_rfl) ?_ ?_; rotate_left; (focus rfl); (focus (intro w' hSw; (try dsimp only at hSw); go_simp; (try with_reducible rfl); done)); (try simp only [Act.put, List.setIfInBounds_toArray, List.set_cons_zero, List.set_cons_succ]))
      | (refine seq_takeG (v := ?_) (g := ?_) (d := ?_) (b := ?_) (u := ?_) ?_ ?_ ?_ ?_ (fun _ _ _ h => h) (by kernel_rfl) ?_ ?_; rotate_left 5; (focus rfl); (focus rfl); (focus rfl); (focus (first | rfl | (go_simp; done))); (focus (intro w' hSw; (try dsimp only at hSw); go_simp; (try with_reducible rfl); done)); (try simp only [Act.put, List.setIfInBounds_toArray, List.set_cons_zero, List.set_cons_succ]))
      | (refine seq_skipG (g := ?_) (d := ?_) (b := ?_) (u := ?_) ?_ ?_ ?_ ?_ (fun _ _ _ h => h) (by kernel_rfl) ?_; rotate_left 4; (focus rfl); (focus rfl); (focus rfl); (focus (first | rfl | (go_simp; done))); (try simp only [Act.put, List.setIfInBounds_toArray, List.set_cons_zero, List.set_cons_succ])))
    refine seq_done (by kernel_rfl) ?_
    go_wp2_with fail
    go_ret
    exact ⟨ret_bool HRES.out.symm, HB1.out.trans (((Below.refl _ W1).drew).trans (hb6.mono HB1.out.size))⟩
  · have HS0 := Lib.hid hs0
    have HNE := Lib.hid hne
    clear hs0 hcell0 hne
    go_enter Try.func50, Try.ntmps50
    go_wp2_with fail
    rw [← HW1.out]
    refine seq_start (S := fun w' => w'.cell? ⟨w.heap.size, 0, none⟩ = some (.string it) ∧ w'.cell? ⟨w.heap.size, 1, none⟩ = some (.int .i64 si) ∧ w'.cell? ⟨w.heap.size, 2, none⟩ = some (.int .i64 un) ∧ w'.cell? ⟨b0, o0, none⟩ = some (.string s0)) (by kernel_rfl) (by kernel_rfl) (by exact ⟨y0, y1, y2, y3⟩) ?_
    repeat (first
      | (refine seq_take0 (v := ?_) ?_ (fun _ _ _ h => h) (by kernel_rfl) ?_ ?_; rotate_left; (focus rfl); (focus (intro w' hSw; (try dsimp only at hSw); go_simp; (try with_reducible rfl); done)); (try simp only [Act.put, List.setIfInBounds_toArray, List.set_cons_zero, List.set_cons_succ]))
      | (refine seq_takeG (v := ?_) (g := ?_) (d := ?_) (b := ?_) (u := ?_) ?_ ?_ ?_ ?_ (fun _ _ _ h => h) (by kernel_rfl) ?_ ?_; rotate_left 5; (focus rfl); (focus rfl); (focus rfl); (focus (first | rfl | (go_simp; done))); (focus (intro w' hSw; (try dsimp only at hSw); go_simp; (try with_reducible rfl); done)); (try simp only [Act.put, List.setIfInBounds_toArray, List.set_cons_zero, List.set_cons_succ]))
      | (refine seq_skipG (g := ?_) (d := ?_) (b := ?_) (u := ?_) ?_ ?_ ?_ ?_ (fun _ _ _ h => h) (by kernel_rfl) ?_; rotate_left 4; (focus rfl); (focus rfl); (focus rfl); (focus (first | rfl | (go_simp; done))); (try simp only [Act.put, List.setIfInBounds_toArray, List.set_cons_zero, List.set_cons_succ])))
    refine seq_op (by kernel_rfl) (by rfl) (fun K hK => ?_)
    go_simp
    refine (HWR.out _ (HB1.out.trans ((Below.refl _ W1).drew))).mono ?_
    rintro e w6 ⟨rfl, hb6⟩
    refine hK.out _ _ ⟨(hb6.cell (p := ⟨w.heap.size, 0, none⟩) hwl1).trans y0, (hb6.cell (p := ⟨w.heap.size, 1, none⟩) hwl1).trans y1, (hb6.cell (p := ⟨w.heap.size, 2, none⟩) hwl1).trans y2, (hb6.cell (p := ⟨b0, o0, none⟩) hbl0).trans y3⟩ ?_
    clear hK K
    repeat (first
      | (refine seq_take0 (v := ?_) ?_ (fun _ _ _ h => h) (by kernel_rfl) ?_ ?_; rotate_left; (focus rfl); (focus (intro w' hSw; (try dsimp only at hSw); go_simp; (try with_reducible rfl); done)); (try simp only [Act.put, List.setIfInBounds_toArray, List.set_cons_zero, List.set_cons_succ]))
      | (refine seq_takeG (v := ?_) (g := ?_) (d := ?_) (b := ?_) (u := ?_) ?_ ?_ ?_ ?_ (fun _ _ _ h => h) (by kernel_rfl) ?_ ?_; rotate_left 5; (focus rfl); (focus rfl); (focus rfl); (focus (first | rfl | (go_simp; done))); (focus (intro w' hSw; (try dsimp only at hSw); go_simp; (try with_reducible rfl); done)); (try simp only [Act.put, List.setIfInBounds_toArray, List.set_cons_zero, List.set_cons_succ]))
      | (refine seq_skipG (g := ?_) (d := ?_) (b := ?_) (u := ?_) ?_ ?_ ?_ ?_ (fun _ _ _ h => h) (by kernel_rfl) ?_; rotate_left 4; (focus rfl); (focus rfl); (focus rfl); (focus (first | rfl | (go_simp; done))); (try simp only [Act.put, List.setIfInBounds_toArray, List.set_cons_zero, List.set_cons_succ])))
    refine seq_done (by kernel_rfl) ?_
    have HB6 : Hid (Below w.heap.size w w6) := HB1.out.trans (((Below.refl _ W1).drew).trans (hb6.mono HB1.out.size))
    have HM6 : Hid (w6.heap[w.heap.size]? = _) := (hb6.block _ hwl1).trans HM1.out
    clear hb6 y0 y1 y2 y3
    go_wp2_with fail
    go_loopw [7] (fun iv wr => ∃ d : Nat, d + 1 ≤ m ∧ iv = .int .i64 ((d : Int) + 1) ∧ leadsUp xs ⟨it, si, un⟩ ws d = true ∧ Below w6.heap.size w6 wr) (fun iv _ => m - (intOf iv).toNat)
    case atStart => exact ⟨0, by omega, rfl, rfl, Below.refl _ _⟩
    case round =>
      obtain ⟨d, hd, rfl, hup, hbel⟩ := hrel
      have HUP := Lib.hid hup
      have HBR := Lib.hid (HB6.out.trans (hbel.mono HB6.out.size))
      have HMR : Hid (wr.heap[w.heap.size]? = _) := (hbel.block _ (Array.getElem?_eq_some_iff.1 HM6.out).1).trans HM6.out
      have HBEL := Lib.hid hbel
      clear hup hbel
      by_cases hlt : d + 1 < m
      · obtain ⟨b1, o1, s1, e1, ⟨_, hb1l⟩, hs1, hc1⟩ := HCW.out (d + 1) hlt
        obtain ⟨b2, o2, p1, e2, ⟨_, hb2l⟩, hp1, hc2⟩ := HCW.out d (by omega)
        cases e1
        cases e2
        have d1 : wr.cell? ⟨b0, o0 + (d + 1), none⟩ = some (.string s1) := (HBR.out.cell (p := ⟨b0, _, none⟩) hb1l).trans hc1
        have d2 : wr.cell? ⟨b0, o0 + d, none⟩ = some (.string p1) := (HBR.out.cell (p := ⟨b0, _, none⟩) hb1l).trans hc2
        have hlti : (d : Int) + 1 < (m : Int) := by omega
        have hltn : (0 : Int) ≤ (d : Int) + 1 := by omega
        have hti : ((d : Int) + 1).toNat = d + 1 := by omega
        have HF1 := Lib.hid (HFI.out s1 wr HBR.out)
        have HS1 := Lib.hid hs1
        have HP1 := Lib.hid hp1
        clear hc1 hc2 hs1 hp1
        go_wp2_with fail
        refine HF1.out.mono ?_
        rintro e w7 ⟨rfl, rfl⟩
        cases hi : idx xs s1 with
        | none =>
          have HRES : Hid (leadsB xs ⟨it, si, un⟩ ws = false) := leads_no (d := d) (by have := HM.out; omega) (leadsAt_none HS1.out hi)
          rw [show findI xs s1 = -1 by simp [findI, hi]]
          clear hi HF1
          go_wp2_with fail
          refine seq_start (S := fun _ => True) (by kernel_rfl) (by kernel_rfl) trivial ?_
          repeat (first
            | (refine seq_take0 (v := ?_) ?_ (fun _ _ _ h => h) (by kernel_rfl) ?_ ?_; rotate_left; (focus rfl); (focus (intro w' hSw; (try dsimp only at hSw); go_simp; (try with_reducible rfl); done)); (try simp only [Act.put, List.setIfInBounds_toArray, List.set_cons_zero, List.set_cons_succ]))
            | (refine seq_takeG (v := ?_) (g := ?_) (d := ?_) (b := ?_) (u := ?_) ?_ ?_ ?_ ?_ (fun _ _ _ h => h) (by kernel_rfl) ?_ ?_; rotate_left 5; (focus rfl); (focus rfl); (focus rfl); (focus (first | rfl | (go_simp; done))); (focus (intro w' hSw; (try dsimp only at hSw); go_simp; (try with_reducible rfl); done)); (try simp only [Act.put, List.setIfInBounds_toArray, List.set_cons_zero, List.set_cons_succ]))
            | (refine seq_skipG (g := ?_) (d := ?_) (b := ?_) (u := ?_) ?_ ?_ ?_ ?_ (fun _ _ _ h => h) (by kernel_rfl) ?_; rotate_left 4; (focus rfl); (focus rfl); (focus rfl); (focus (first | rfl | (go_simp; done))); (try simp only [Act.put, List.setIfInBounds_toArray, List.set_cons_zero, List.set_cons_succ])))
          refine seq_done (by kernel_rfl) ?_
          go_wp2_with fail
          go_ret
          exact ⟨ret_bool HRES.out.symm, HBR.out.trans ((Below.refl _ wr).drew.mono HBR.out.size)⟩
        | some i =>
          have hil := idx_lt hi
          obtain ⟨bx, ox, x, fx, hA, ⟨_, hbx⟩, hx, x0, x1, x2, x3, hfx⟩ := HC.out i (by have := HN.out; omega)
          cases hA
          obtain ⟨Af, nf, cf, rfl⟩ := hfx.isSlice
          have g0 := (HBR.out.cell (p := ⟨bx, _, none⟩) hbx).trans x0
          have g1 := (HBR.out.cell (p := ⟨bx, _, none⟩) hbx).trans x1
          have g2 := (HBR.out.cell (p := ⟨bx, _, none⟩) hbx).trans x2
          have g3 := (HBR.out.cell (p := ⟨bx, _, none⟩) hbx).trans x3
          have gm1 : wr.cell? ⟨w.heap.size, 1, none⟩ = some (.int .i64 si) := cell_of_row wr _ 1 _ _ _ HMR.out
          have gm2 : wr.cell? ⟨w.heap.size, 2, none⟩ = some (.int .i64 un) := cell_of_row wr _ 2 _ _ _ HMR.out
          have hat := leadsAt_some (f := ⟨it, si, un⟩) HS1.out (by simpa using HP1.out) hi hx
          have hlw := HLW.out (chosenB x p1) (d + 1) x.at_
          rw [← hat] at hlw
          have HCH := Lib.hid (fun w' (h : Below wr.heap.size wr w') => chosen_any x (.slice Af nf cf) p1 _ w' (hfx.below (HBR.out.trans (h.mono HBR.out.size))))
          obtain ⟨q, hq⟩ : ∃ q, q = chosenB x p1 := ⟨_, rfl⟩
          obtain ⟨r, hr⟩ : ∃ r, r = leadsAt xs ⟨it, si, un⟩ ws (d + 1) := ⟨_, rfl⟩
          rw [← hq] at HCH hlw
          rw [← hr] at hlw
          have HR := Lib.hid hr
          rw [show findI xs s1 = (i : Int) by simp [findI, hi]]
          obtain ⟨xn, xk, xa, xf⟩ := x
          simp only at g0 g1 g2 g3 hlw HCH
          have hin : i < n := by have := HN.out; omega
          have hi0 : (0 : Int) ≤ (i : Int) := by omega
          have hi1 : decide ((i : Int) < 0) = false := by simp
          have hi2 : (i : Int) < (n : Int) := by omega
          have hwr0 : w.heap.size < wr.heap.size := World.block_lt_of_cell? wr _ gm1
          have hbxr : bx < wr.heap.size := World.block_lt_of_cell? wr _ g0
          have hb0r : b0 < wr.heap.size := World.block_lt_of_cell? wr _ d2
          have hdm : (d : Int) < (m : Int) := by omega
          have hd0 : (0 : Int) ≤ (d : Int) := by omega
          have hwd : IntKind.i64.wrap ((d : Int)) = (d : Int) := IntWalk.i64_in _ (by omega)
          clear hi hx x0 x1 x2 x3 hfx hat hq hr HF1
          cases hlw with
          | miss h =>
            subst h
            go_wp2_with fail
            refine seq_start (S := fun w' => w'.cell? ⟨w.heap.size, 1, none⟩ = some (.int .i64 si) ∧ w'.cell? ⟨w.heap.size, 2, none⟩ = some (.int .i64 un) ∧ w'.cell? ⟨b0, o0 + d, none⟩ = some (.string p1) ∧ w'.cell? ⟨bx, ox + i * 4, none⟩ = some (.string xn) ∧ w'.cell? ⟨bx, ox + i * 4 + 1, none⟩ = some (.int .i64 xk) ∧ w'.cell? ⟨bx, ox + i * 4 + 2, none⟩ = some (.int .i64 xa) ∧ w'.cell? ⟨bx, ox + i * 4 + 3, none⟩ = some (.slice Af nf cf)) (by kernel_rfl) (by kernel_rfl) (by exact ⟨gm1, gm2, d2, g0, g1, g2, g3⟩) ?_
            repeat (first
              | (refine seq_take0 (v := ?_) ?_ (fun _ _ _ h => h) (by kernel_rfl) ?_ ?_; rotate_left; (focus rfl); (focus (intro w' hSw; (try dsimp only at hSw); go_simp; (try with_reducible rfl); done)); (try simp only [Act.put, List.setIfInBounds_toArray, List.set_cons_zero, List.set_cons_succ]))
              | (refine seq_takeG (v := ?_) (g := ?_) (d := ?_) (b := ?_) (u := ?_) ?_ ?_ ?_ ?_ (fun _ _ _ h => h) (by kernel_rfl) ?_ ?_; rotate_left 5; (focus rfl); (focus rfl); (focus rfl); (focus (first | rfl | (go_simp; done))); (focus (intro w' hSw; (try dsimp only at hSw); go_simp; (try with_reducible rfl); done)); (try simp only [Act.put, List.setIfInBounds_toArray, List.set_cons_zero, List.set_cons_succ]))
              | (refine seq_skipG (g := ?_) (d := ?_) (b := ?_) (u := ?_) ?_ ?_ ?_ ?_ (fun _ _ _ h => h) (by kernel_rfl) ?_; rotate_left 4; (focus rfl); (focus rfl); (focus rfl); (focus (first | rfl | (go_simp; done))); (try simp only [Act.put, List.setIfInBounds_toArray, List.set_cons_zero, List.set_cons_succ])))
            refine seq_op (by kernel_rfl) (by rfl) (fun K hK => ?_)
            go_simp
            refine (HCH.out _ ((Below.refl _ wr).drew)).mono ?_
            rintro e w9 ⟨rfl, hb9⟩
            have h19 : ∀ {b o : Nat}, b < wr.heap.size → w9.cell? ⟨b, o, none⟩ = wr.cell? ⟨b, o, none⟩ := fun h => hb9.cell (p := ⟨_, _, none⟩) h
            refine hK.out _ _ ⟨(h19 hwr0).trans gm1, (h19 hwr0).trans gm2, (h19 hb0r).trans d2, (h19 hbxr).trans g0, (h19 hbxr).trans g1, (h19 hbxr).trans g2, (h19 hbxr).trans g3⟩ ?_
            clear hK K
            have HB9 : Hid (Below wr.heap.size wr w9) := ((Below.refl _ wr).drew).trans hb9
            repeat (first
              | (refine seq_take0 (v := ?_) ?_ (fun _ _ _ h => h) (by kernel_rfl) ?_ ?_; rotate_left; (focus rfl); (focus (intro w' hSw; (try dsimp only at hSw); go_simp; (try with_reducible rfl); done)); (try simp only [Act.put, List.setIfInBounds_toArray, List.set_cons_zero, List.set_cons_succ]))
              | (refine seq_takeG (v := ?_) (g := ?_) (d := ?_) (b := ?_) (u := ?_) ?_ ?_ ?_ ?_ (fun _ _ _ h => h) (by kernel_rfl) ?_ ?_; rotate_left 5; (focus rfl); (focus rfl); (focus rfl); (focus (first | rfl | (go_simp; done))); (focus (intro w' hSw; (try dsimp only at hSw); go_simp; (try with_reducible rfl); done)); (try simp only [Act.put, List.setIfInBounds_toArray, List.set_cons_zero, List.set_cons_succ]))
              | (refine seq_skipG (g := ?_) (d := ?_) (b := ?_) (u := ?_) ?_ ?_ ?_ ?_ (fun _ _ _ h => h) (by kernel_rfl) ?_; rotate_left 4; (focus rfl); (focus rfl); (focus rfl); (focus (first | rfl | (go_simp; done))); (try simp only [Act.put, List.setIfInBounds_toArray, List.set_cons_zero, List.set_cons_succ])))
            refine seq_done (by kernel_rfl) ?_
            clear h19 hb9 g0 g1 g2 g3 gm1 gm2 d1 d2
            have HRES : Hid (leadsB xs ⟨it, si, un⟩ ws = false) := leads_no (by have := HM.out; omega) HR.out.symm
            go_wp2_with fail
            go_ret
            exact ⟨ret_bool HRES.out.symm, HBR.out.trans (HB9.out.mono HBR.out.size)⟩
          | far h hk =>
            subst h
            have hk1 : ((d : Int) + 1 == 1) = false := by rw [beq_eq_false_iff_ne]; omega
            have hk2 : ((d : Int) == 0) = false := by rw [beq_eq_false_iff_ne]; omega
            have hk3 : (d == 0) = false := by rw [beq_eq_false_iff_ne]; omega
            go_wp2_with fail
            refine seq_start (S := fun w' => w'.cell? ⟨w.heap.size, 1, none⟩ = some (.int .i64 si) ∧ w'.cell? ⟨w.heap.size, 2, none⟩ = some (.int .i64 un) ∧ w'.cell? ⟨b0, o0 + d, none⟩ = some (.string p1) ∧ w'.cell? ⟨bx, ox + i * 4, none⟩ = some (.string xn) ∧ w'.cell? ⟨bx, ox + i * 4 + 1, none⟩ = some (.int .i64 xk) ∧ w'.cell? ⟨bx, ox + i * 4 + 2, none⟩ = some (.int .i64 xa) ∧ w'.cell? ⟨bx, ox + i * 4 + 3, none⟩ = some (.slice Af nf cf)) (by kernel_rfl) (by kernel_rfl) (by exact ⟨gm1, gm2, d2, g0, g1, g2, g3⟩) ?_
            repeat (first
              | (refine seq_take0 (v := ?_) ?_ (fun _ _ _ h => h) (by kernel_rfl) ?_ ?_; rotate_left; (focus rfl); (focus (intro w' hSw; (try dsimp only at hSw); go_simp; (try with_reducible rfl); done)); (try simp only [Act.put, List.setIfInBounds_toArray, List.set_cons_zero, List.set_cons_succ]))
              | (refine seq_takeG (v := ?_) (g := ?_) (d := ?_) (b := ?_) (u := ?_) ?_ ?_ ?_ ?_ (fun _ _ _ h => h) (by kernel_rfl) ?_ ?_; rotate_left 5; (focus rfl); (focus rfl); (focus rfl); (focus (first | rfl | (go_simp; done))); (focus (intro w' hSw; (try dsimp only at hSw); go_simp; (try with_reducible rfl); done)); (try simp only [Act.put, List.setIfInBounds_toArray, List.set_cons_zero, List.set_cons_succ]))
              | (refine seq_skipG (g := ?_) (d := ?_) (b := ?_) (u := ?_) ?_ ?_ ?_ ?_ (fun _ _ _ h => h) (by kernel_rfl) ?_; rotate_left 4; (focus rfl); (focus rfl); (focus rfl); (focus (first | rfl | (go_simp; done))); (try simp only [Act.put, List.setIfInBounds_toArray, List.set_cons_zero, List.set_cons_succ])))
            refine seq_op (by kernel_rfl) (by rfl) (fun K hK => ?_)
            go_simp
            refine (HCH.out _ ((Below.refl _ wr).drew)).mono ?_
            rintro e w9 ⟨rfl, hb9⟩
            have h19 : ∀ {b o : Nat}, b < wr.heap.size → w9.cell? ⟨b, o, none⟩ = wr.cell? ⟨b, o, none⟩ := fun h => hb9.cell (p := ⟨_, _, none⟩) h
            refine hK.out _ _ ⟨(h19 hwr0).trans gm1, (h19 hwr0).trans gm2, (h19 hb0r).trans d2, (h19 hbxr).trans g0, (h19 hbxr).trans g1, (h19 hbxr).trans g2, (h19 hbxr).trans g3⟩ ?_
            clear hK K
            have HB9 : Hid (Below wr.heap.size wr w9) := ((Below.refl _ wr).drew).trans hb9
            repeat (first
              | (refine seq_take0 (v := ?_) ?_ (fun _ _ _ h => h) (by kernel_rfl) ?_ ?_; rotate_left; (focus rfl); (focus (intro w' hSw; (try dsimp only at hSw); go_simp; (try with_reducible rfl); done)); (try simp only [Act.put, List.setIfInBounds_toArray, List.set_cons_zero, List.set_cons_succ]))
              | (refine seq_takeG (v := ?_) (g := ?_) (d := ?_) (b := ?_) (u := ?_) ?_ ?_ ?_ ?_ (fun _ _ _ h => h) (by kernel_rfl) ?_ ?_; rotate_left 5; (focus rfl); (focus rfl); (focus rfl); (focus (first | rfl | (go_simp; done))); (focus (intro w' hSw; (try dsimp only at hSw); go_simp; (try with_reducible rfl); done)); (try simp only [Act.put, List.setIfInBounds_toArray, List.set_cons_zero, List.set_cons_succ]))
              | (refine seq_skipG (g := ?_) (d := ?_) (b := ?_) (u := ?_) ?_ ?_ ?_ ?_ (fun _ _ _ h => h) (by kernel_rfl) ?_; rotate_left 4; (focus rfl); (focus rfl); (focus rfl); (focus (first | rfl | (go_simp; done))); (try simp only [Act.put, List.setIfInBounds_toArray, List.set_cons_zero, List.set_cons_succ])))
            refine seq_done (by kernel_rfl) ?_
            clear h19 hb9 g0 g1 g2 g3 gm1 gm2 d1 d2
            have HUP2 := Lib.hid (leadsUp_succ HUP.out HR.out.symm)
            have HBE := Lib.hid (HBEL.out.trans (HB9.out.mono HBEL.out.size))
            go_wp2_with fail
            go_roundw
            case rel => exact ⟨_, by omega, by go_num, HUP2.out, HBE.out⟩
            case measure => simp [intOf]; omega
          | early h hk ha =>
            subst h
            have hk1 : ((d : Int) + 1 == 1) = true := by rw [beq_iff_eq]; omega
            have hk2 : ((d : Int) == 0) = true := by rw [beq_iff_eq]; omega
            have hk3 : (d == 0) = true := by rw [beq_iff_eq]; omega
            have ha1 : decide (xa < si) = true := by simpa using ha
            go_wp2_with fail
            refine seq_start (S := fun w' => w'.cell? ⟨w.heap.size, 1, none⟩ = some (.int .i64 si) ∧ w'.cell? ⟨w.heap.size, 2, none⟩ = some (.int .i64 un) ∧ w'.cell? ⟨b0, o0 + d, none⟩ = some (.string p1) ∧ w'.cell? ⟨bx, ox + i * 4, none⟩ = some (.string xn) ∧ w'.cell? ⟨bx, ox + i * 4 + 1, none⟩ = some (.int .i64 xk) ∧ w'.cell? ⟨bx, ox + i * 4 + 2, none⟩ = some (.int .i64 xa) ∧ w'.cell? ⟨bx, ox + i * 4 + 3, none⟩ = some (.slice Af nf cf)) (by kernel_rfl) (by kernel_rfl) (by exact ⟨gm1, gm2, d2, g0, g1, g2, g3⟩) ?_
            repeat (first
              | (refine seq_take0 (v := ?_) ?_ (fun _ _ _ h => h) (by kernel_rfl) ?_ ?_; rotate_left; (focus rfl); (focus (intro w' hSw; (try dsimp only at hSw); go_simp; (try with_reducible rfl); done)); (try simp only [Act.put, List.setIfInBounds_toArray, List.set_cons_zero, List.set_cons_succ]))
              | (refine seq_takeG (v := ?_) (g := ?_) (d := ?_) (b := ?_) (u := ?_) ?_ ?_ ?_ ?_ (fun _ _ _ h => h) (by kernel_rfl) ?_ ?_; rotate_left 5; (focus rfl); (focus rfl); (focus rfl); (focus (first | rfl | (go_simp; done))); (focus (intro w' hSw; (try dsimp only at hSw); go_simp; (try with_reducible rfl); done)); (try simp only [Act.put, List.setIfInBounds_toArray, List.set_cons_zero, List.set_cons_succ]))
              | (refine seq_skipG (g := ?_) (d := ?_) (b := ?_) (u := ?_) ?_ ?_ ?_ ?_ (fun _ _ _ h => h) (by kernel_rfl) ?_; rotate_left 4; (focus rfl); (focus rfl); (focus rfl); (focus (first | rfl | (go_simp; done))); (try simp only [Act.put, List.setIfInBounds_toArray, List.set_cons_zero, List.set_cons_succ])))
            refine seq_op (by kernel_rfl) (by rfl) (fun K hK => ?_)
            go_simp
            refine (HCH.out _ ((Below.refl _ wr).drew)).mono ?_
            rintro e w9 ⟨rfl, hb9⟩
            have h19 : ∀ {b o : Nat}, b < wr.heap.size → w9.cell? ⟨b, o, none⟩ = wr.cell? ⟨b, o, none⟩ := fun h => hb9.cell (p := ⟨_, _, none⟩) h
            refine hK.out _ _ ⟨(h19 hwr0).trans gm1, (h19 hwr0).trans gm2, (h19 hb0r).trans d2, (h19 hbxr).trans g0, (h19 hbxr).trans g1, (h19 hbxr).trans g2, (h19 hbxr).trans g3⟩ ?_
            clear hK K
            have HB9 : Hid (Below wr.heap.size wr w9) := ((Below.refl _ wr).drew).trans hb9
            repeat (first
              | (refine seq_take0 (v := ?_) ?_ (fun _ _ _ h => h) (by kernel_rfl) ?_ ?_; rotate_left; (focus rfl); (focus (intro w' hSw; (try dsimp only at hSw); go_simp; (try with_reducible rfl); done)); (try simp only [Act.put, List.setIfInBounds_toArray, List.set_cons_zero, List.set_cons_succ]))
              | (refine seq_takeG (v := ?_) (g := ?_) (d := ?_) (b := ?_) (u := ?_) ?_ ?_ ?_ ?_ (fun _ _ _ h => h) (by kernel_rfl) ?_ ?_; rotate_left 5; (focus rfl); (focus rfl); (focus rfl); (focus (first | rfl | (go_simp; done))); (focus (intro w' hSw; (try dsimp only at hSw); go_simp; (try with_reducible rfl); done)); (try simp only [Act.put, List.setIfInBounds_toArray, List.set_cons_zero, List.set_cons_succ]))
              | (refine seq_skipG (g := ?_) (d := ?_) (b := ?_) (u := ?_) ?_ ?_ ?_ ?_ (fun _ _ _ h => h) (by kernel_rfl) ?_; rotate_left 4; (focus rfl); (focus rfl); (focus rfl); (focus (first | rfl | (go_simp; done))); (try simp only [Act.put, List.setIfInBounds_toArray, List.set_cons_zero, List.set_cons_succ])))
            refine seq_done (by kernel_rfl) ?_
            clear h19 hb9 g0 g1 g2 g3 gm1 gm2 d1 d2
            have HRES : Hid (leadsB xs ⟨it, si, un⟩ ws = false) := leads_no (by have := HM.out; omega) HR.out.symm
            go_wp2_with fail
            go_ret
            exact ⟨ret_bool HRES.out.symm, HBR.out.trans (HB9.out.mono HBR.out.size)⟩
          | late h hk ha hb =>
            subst h
            have hk1 : ((d : Int) + 1 == 1) = true := by rw [beq_iff_eq]; omega
            have hk2 : ((d : Int) == 0) = true := by rw [beq_iff_eq]; omega
            have hk3 : (d == 0) = true := by rw [beq_iff_eq]; omega
            have ha1 : decide (xa < si) = false := by simpa using ha
            have ha2 : decide (un < xa) = true := by simpa using hb
            go_wp2_with fail
            refine seq_start (S := fun w' => w'.cell? ⟨w.heap.size, 1, none⟩ = some (.int .i64 si) ∧ w'.cell? ⟨w.heap.size, 2, none⟩ = some (.int .i64 un) ∧ w'.cell? ⟨b0, o0 + d, none⟩ = some (.string p1) ∧ w'.cell? ⟨bx, ox + i * 4, none⟩ = some (.string xn) ∧ w'.cell? ⟨bx, ox + i * 4 + 1, none⟩ = some (.int .i64 xk) ∧ w'.cell? ⟨bx, ox + i * 4 + 2, none⟩ = some (.int .i64 xa) ∧ w'.cell? ⟨bx, ox + i * 4 + 3, none⟩ = some (.slice Af nf cf)) (by kernel_rfl) (by kernel_rfl) (by exact ⟨gm1, gm2, d2, g0, g1, g2, g3⟩) ?_
            repeat (first
              | (refine seq_take0 (v := ?_) ?_ (fun _ _ _ h => h) (by kernel_rfl) ?_ ?_; rotate_left; (focus rfl); (focus (intro w' hSw; (try dsimp only at hSw); go_simp; (try with_reducible rfl); done)); (try simp only [Act.put, List.setIfInBounds_toArray, List.set_cons_zero, List.set_cons_succ]))
              | (refine seq_takeG (v := ?_) (g := ?_) (d := ?_) (b := ?_) (u := ?_) ?_ ?_ ?_ ?_ (fun _ _ _ h => h) (by kernel_rfl) ?_ ?_; rotate_left 5; (focus rfl); (focus rfl); (focus rfl); (focus (first | rfl | (go_simp; done))); (focus (intro w' hSw; (try dsimp only at hSw); go_simp; (try with_reducible rfl); done)); (try simp only [Act.put, List.setIfInBounds_toArray, List.set_cons_zero, List.set_cons_succ]))
              | (refine seq_skipG (g := ?_) (d := ?_) (b := ?_) (u := ?_) ?_ ?_ ?_ ?_ (fun _ _ _ h => h) (by kernel_rfl) ?_; rotate_left 4; (focus rfl); (focus rfl); (focus rfl); (focus (first | rfl | (go_simp; done))); (try simp only [Act.put, List.setIfInBounds_toArray, List.set_cons_zero, List.set_cons_succ])))
            refine seq_op (by kernel_rfl) (by rfl) (fun K hK => ?_)
            go_simp
            refine (HCH.out _ ((Below.refl _ wr).drew)).mono ?_
            rintro e w9 ⟨rfl, hb9⟩
            have h19 : ∀ {b o : Nat}, b < wr.heap.size → w9.cell? ⟨b, o, none⟩ = wr.cell? ⟨b, o, none⟩ := fun h => hb9.cell (p := ⟨_, _, none⟩) h
            refine hK.out _ _ ⟨(h19 hwr0).trans gm1, (h19 hwr0).trans gm2, (h19 hb0r).trans d2, (h19 hbxr).trans g0, (h19 hbxr).trans g1, (h19 hbxr).trans g2, (h19 hbxr).trans g3⟩ ?_
            clear hK K
            have HB9 : Hid (Below wr.heap.size wr w9) := ((Below.refl _ wr).drew).trans hb9
            repeat (first
              | (refine seq_take0 (v := ?_) ?_ (fun _ _ _ h => h) (by kernel_rfl) ?_ ?_; rotate_left; (focus rfl); (focus (intro w' hSw; (try dsimp only at hSw); go_simp; (try with_reducible rfl); done)); (try simp only [Act.put, List.setIfInBounds_toArray, List.set_cons_zero, List.set_cons_succ]))
              | (refine seq_takeG (v := ?_) (g := ?_) (d := ?_) (b := ?_) (u := ?_) ?_ ?_ ?_ ?_ (fun _ _ _ h => h) (by kernel_rfl) ?_ ?_; rotate_left 5; (focus rfl); (focus rfl); (focus rfl); (focus (first | rfl | (go_simp; done))); (focus (intro w' hSw; (try dsimp only at hSw); go_simp; (try with_reducible rfl); done)); (try simp only [Act.put, List.setIfInBounds_toArray, List.set_cons_zero, List.set_cons_succ]))
              | (refine seq_skipG (g := ?_) (d := ?_) (b := ?_) (u := ?_) ?_ ?_ ?_ ?_ (fun _ _ _ h => h) (by kernel_rfl) ?_; rotate_left 4; (focus rfl); (focus rfl); (focus rfl); (focus (first | rfl | (go_simp; done))); (try simp only [Act.put, List.setIfInBounds_toArray, List.set_cons_zero, List.set_cons_succ])))
            refine seq_done (by kernel_rfl) ?_
            clear h19 hb9 g0 g1 g2 g3 gm1 gm2 d1 d2
            have HRES : Hid (leadsB xs ⟨it, si, un⟩ ws = false) := leads_no (by have := HM.out; omega) HR.out.symm
            go_wp2_with fail
            go_ret
            exact ⟨ret_bool HRES.out.symm, HBR.out.trans (HB9.out.mono HBR.out.size)⟩
          | hit h hk ha hb =>
            subst h
            have hk1 : ((d : Int) + 1 == 1) = true := by rw [beq_iff_eq]; omega
            have hk2 : ((d : Int) == 0) = true := by rw [beq_iff_eq]; omega
            have hk3 : (d == 0) = true := by rw [beq_iff_eq]; omega
            have ha1 : decide (xa < si) = false := by simpa using ha
            have ha2 : decide (un < xa) = false := by simpa using hb
            go_wp2_with fail
            refine seq_start (S := fun w' => w'.cell? ⟨w.heap.size, 1, none⟩ = some (.int .i64 si) ∧ w'.cell? ⟨w.heap.size, 2, none⟩ = some (.int .i64 un) ∧ w'.cell? ⟨b0, o0 + d, none⟩ = some (.string p1) ∧ w'.cell? ⟨bx, ox + i * 4, none⟩ = some (.string xn) ∧ w'.cell? ⟨bx, ox + i * 4 + 1, none⟩ = some (.int .i64 xk) ∧ w'.cell? ⟨bx, ox + i * 4 + 2, none⟩ = some (.int .i64 xa) ∧ w'.cell? ⟨bx, ox + i * 4 + 3, none⟩ = some (.slice Af nf cf)) (by kernel_rfl) (by kernel_rfl) (by exact ⟨gm1, gm2, d2, g0, g1, g2, g3⟩) ?_
            repeat (first
              | (refine seq_take0 (v := ?_) ?_ (fun _ _ _ h => h) (by kernel_rfl) ?_ ?_; rotate_left; (focus rfl); (focus (intro w' hSw; (try dsimp only at hSw); go_simp; (try with_reducible rfl); done)); (try simp only [Act.put, List.setIfInBounds_toArray, List.set_cons_zero, List.set_cons_succ]))
              | (refine seq_takeG (v := ?_) (g := ?_) (d := ?_) (b := ?_) (u := ?_) ?_ ?_ ?_ ?_ (fun _ _ _ h => h) (by kernel_rfl) ?_ ?_; rotate_left 5; (focus rfl); (focus rfl); (focus rfl); (focus (first | rfl | (go_simp; done))); (focus (intro w' hSw; (try dsimp only at hSw); go_simp; (try with_reducible rfl); done)); (try simp only [Act.put, List.setIfInBounds_toArray, List.set_cons_zero, List.set_cons_succ]))
              | (refine seq_skipG (g := ?_) (d := ?_) (b := ?_) (u := ?_) ?_ ?_ ?_ ?_ (fun _ _ _ h => h) (by kernel_rfl) ?_; rotate_left 4; (focus rfl); (focus rfl); (focus rfl); (focus (first | rfl | (go_simp; done))); (try simp only [Act.put, List.setIfInBounds_toArray, List.set_cons_zero, List.set_cons_succ])))
            refine seq_op (by kernel_rfl) (by rfl) (fun K hK => ?_)
            go_simp
            refine (HCH.out _ ((Below.refl _ wr).drew)).mono ?_
            rintro e w9 ⟨rfl, hb9⟩
            have h19 : ∀ {b o : Nat}, b < wr.heap.size → w9.cell? ⟨b, o, none⟩ = wr.cell? ⟨b, o, none⟩ := fun h => hb9.cell (p := ⟨_, _, none⟩) h
            refine hK.out _ _ ⟨(h19 hwr0).trans gm1, (h19 hwr0).trans gm2, (h19 hb0r).trans d2, (h19 hbxr).trans g0, (h19 hbxr).trans g1, (h19 hbxr).trans g2, (h19 hbxr).trans g3⟩ ?_
            clear hK K
            have HB9 : Hid (Below wr.heap.size wr w9) := ((Below.refl _ wr).drew).trans hb9
            repeat (first
              | (refine seq_take0 (v := ?_) ?_ (fun _ _ _ h => h) (by kernel_rfl) ?_ ?_; rotate_left; (focus rfl); (focus (intro w' hSw; (try dsimp only at hSw); go_simp; (try with_reducible rfl); done)); (try simp only [Act.put, List.setIfInBounds_toArray, List.set_cons_zero, List.set_cons_succ]))
              | (refine seq_takeG (v := ?_) (g := ?_) (d := ?_) (b := ?_) (u := ?_) ?_ ?_ ?_ ?_ (fun _ _ _ h => h) (by kernel_rfl) ?_ ?_; rotate_left 5; (focus rfl); (focus rfl); (focus rfl); (focus (first | rfl | (go_simp; done))); (focus (intro w' hSw; (try dsimp only at hSw); go_simp; (try with_reducible rfl); done)); (try simp only [Act.put, List.setIfInBounds_toArray, List.set_cons_zero, List.set_cons_succ]))
              | (refine seq_skipG (g := ?_) (d := ?_) (b := ?_) (u := ?_) ?_ ?_ ?_ ?_ (fun _ _ _ h => h) (by kernel_rfl) ?_; rotate_left 4; (focus rfl); (focus rfl); (focus rfl); (focus (first | rfl | (go_simp; done))); (try simp only [Act.put, List.setIfInBounds_toArray, List.set_cons_zero, List.set_cons_succ])))
            refine seq_done (by kernel_rfl) ?_
            clear h19 hb9 g0 g1 g2 g3 gm1 gm2 d1 d2
            have HUP2 := Lib.hid (leadsUp_succ HUP.out HR.out.symm)
            have HBE := Lib.hid (HBEL.out.trans (HB9.out.mono HBEL.out.size))
            go_wp2_with fail
            go_roundw
            case rel => exact ⟨_, by omega, by go_num, HUP2.out, HBE.out⟩
            case measure => simp [intOf]; omega
      · have hdm : d = m - 1 := by omega
        have HRES : Hid (leadsB xs ⟨it, si, un⟩ ws = true) := leads_yes HFE.out.symm (by have := HM.out; omega) HS0.out HNE.out (by rw [show ws.length - 1 = d by have := HM.out; omega]; exact HUP.out)
        have hlti : ¬ ((d : Int) + 1 < (m : Int)) := by omega
        clear hdm
        go_wp2_with fail
        go_ret
        exact ⟨ret_bool HRES.out.symm, HBR.out⟩
end Go.Proofs.Ytlanephpmoajiaa

namespace Go.Proofs.Ytlanephpmoajiaa
open Go.RowKit
set_option linter.unusedVariables false
set_option linter.unusedSimpArgs false
set_option maxRecDepth 100000 in
set_option maxHeartbeats 4000000 in
theorem leads_any (p : Value) (B : Nat) (F : Nat → Prop) (vw : Value) (xs : List ItemD) (f : FaultD) (ws : List ByteArray) (T : Nat → Prop) (w : World) (hb : Bk w B p F xs) (hw : Rd .string w T vw ws) (hxl : xs.length ≤ 1024) (hwl : ws.length ≤ 100) (hfs : f.item.size ≤ maxLen) (hws : ∀ s ∈ ws, s.size ≤ maxLen) :
    Calls Try.prog 49 #[p, .agg #[.string f.item, .int .i64 f.since, .int .i64 f.until_], vw] w fun e w' => e = .returned (.bool (leadsB xs f ws)) ∧ Below w.heap.size w w' := by
  have HFA := Lib.hid (fun w' (h : Below w.heap.size w w') => fault_any p B F xs f w' (hb.below h) hfs)
  obtain ⟨Aw, m, capw, rfl, hm, hcapw, hmaxw, hcw⟩ := hw.lt.open_
  obtain ⟨bb, vi, r, fs, rfl, hbk⟩ := hb
  obtain ⟨fe, hfe⟩ : ∃ fe, fe = faultErr xs f := ⟨_, rfl⟩
  obtain ⟨fi, hfi⟩ : ∃ fi, fi = faultI xs f := ⟨_, rfl⟩
  obtain ⟨W1, hW1⟩ : ∃ W1, W1 = w.alloc (.cells #[.string f.item, .int .i64 f.since, .int .i64 f.until_] 55) := ⟨_, rfl⟩
  have hm1 := heap_alloc_new w (.cells #[.string f.item, .int .i64 f.since, .int .i64 f.until_] 55)
  have hb1 : Below w.heap.size w W1 := by rw [hW1]; exact (Below.refl _ w).alloc (Nat.le_refl _) _
  rw [← hW1] at hm1
  have HW1 := Lib.hid hW1
  have HB1 := Lib.hid hb1
  have HM1 := Lib.hid hm1
  have HFE := Lib.hid hfe
  have HCW := Lib.hid hcw
  have HM := Lib.hid hm
  have hm100 : m ≤ 100 := by omega
  have HLW := Lib.hid (leadWay (f := f))
  have HDU := Lib.hid (during_any f)
  have HBK := Lib.hid hbk
  have HWS := Lib.hid hws
  rw [← hfe, ← hfi] at HFA
  obtain ⟨it, si, un⟩ := f
  simp only at *
  have y0 : W1.cell? ⟨w.heap.size, 0, none⟩ = some (.string it) := cell_of_row W1 _ 0 _ _ _ hm1
  have y1 : W1.cell? ⟨w.heap.size, 1, none⟩ = some (.int .i64 si) := cell_of_row W1 _ 1 _ _ _ hm1
  have y2 : W1.cell? ⟨w.heap.size, 2, none⟩ = some (.int .i64 un) := cell_of_row W1 _ 2 _ _ _ hm1
  have hwl1 := (Array.getElem?_eq_some_iff.1 hm1).1
  clear hfe hfi hW1 hm1 hb1 hcw hm hw hwl hbk hws
  have hcs : ((fe != 0) = true ∧ leadsB xs ⟨it, si, un⟩ ws = false) ∨ ((fe != 0) = false ∧ decide ((m : Int) < 2) = true ∧ leadsB xs ⟨it, si, un⟩ ws = false) ∨
      ((fe != 0) = false ∧ fe = 0 ∧ decide ((m : Int) < 2) = false ∧ 2 ≤ m ∧ ∃ b0 o0 s0, Aw = some ⟨b0, o0, none⟩ ∧ b0 < w.heap.size ∧ ws[0]? = some s0 ∧ w.cell? ⟨b0, o0, none⟩ = some (.string s0)) := by
    rcases int_cases fe with ⟨hz, h0⟩ | ⟨hz, h0⟩
    · rcases Nat.lt_or_ge m 2 with hm2 | hm2
      · exact .inr (.inl ⟨hz, by simp; omega, leads_short (by have := HM.out; omega)⟩)
      · obtain ⟨b0, o0, s0, e, ⟨_, hbl⟩, hs0, hcell0⟩ := HCW.out 0 (by omega)
        exact .inr (.inr ⟨hz, h0, by simp; omega, hm2, b0, o0, s0, e, hbl, hs0, hcell0⟩)
    · exact .inl ⟨hz, leads_err (by rw [← HFE.out]; exact h0)⟩
  have hshort : ∀ (h1 : (fe != 0) = true ∨ ((fe != 0) = false ∧ decide ((m : Int) < 2) = true)), leadsB xs ⟨it, si, un⟩ ws = false →
      Calls Try.prog 49 #[.pointer (some ⟨bb, 0, none⟩), .agg #[.string it, .int .i64 si, .int .i64 un], .slice Aw m capw] w fun e w' => e = .returned (.bool (leadsB xs ⟨it, si, un⟩ ws)) ∧ Below w.heap.size w w' := by
    intro h1 hres
    have HRES := Lib.hid hres
    clear hres hcs
    rcases h1 with h1 | ⟨h1, h2⟩
    all_goals
      go_enter Try.func49, Try.ntmps49
      go_wp2_with fail
      rw [← HW1.out]
      refine (HFA.out _ HB1.out).mono ?_
      rintro e w6 ⟨rfl, hb6⟩
      have HB6 := Lib.hid (HB1.out.trans (hb6.mono HB1.out.size))
      clear hb6
      go_wp2_with fail
      refine seq_start (S := fun _ => True) (by kernel_rfl) (by kernel_rfl) trivial ?_
      repeat (first
        | (refine seq_take0 (v := ?_) ?_ (fun _ _ _ h => h) (by kernel_rfl) ?_ ?_; rotate_left; (focus rfl); (focus (intro w' hSw; (try dsimp only at hSw); go_simp; (try with_reducible rfl); done)); (try simp only [Act.put, List.setIfInBounds_toArray, List.set_cons_zero, List.set_cons_succ]))
        | (refine seq_takeG (v := ?_) (g := ?_) (d := ?_) (b := ?_) (u := ?_) ?_ ?_ ?_ ?_ (fun _ _ _ h => h) (by kernel_rfl) ?_ ?_; rotate_left 5; (focus rfl); (focus rfl); (focus rfl); (focus (first | rfl | (go_simp; done))); (focus (intro w' hSw; (try dsimp only at hSw); go_simp; (try with_reducible rfl); done)); (try simp only [Act.put, List.setIfInBounds_toArray, List.set_cons_zero, List.set_cons_succ]))
        | (refine seq_skipG (g := ?_) (d := ?_) (b := ?_) (u := ?_) ?_ ?_ ?_ ?_ (fun _ _ _ h => h) (by kernel_rfl) ?_; rotate_left 4; (focus rfl); (focus rfl); (focus rfl); (focus (first | rfl | (go_simp; done))); (try simp only [Act.put, List.setIfInBounds_toArray, List.set_cons_zero, List.set_cons_succ])))
      refine seq_done (by kernel_rfl) ?_
      go_wp2_with fail
      go_ret
      exact ⟨ret_bool HRES.out.symm, HB6.out.trans ((Below.refl _ w6).drew.mono HB6.out.size)⟩
  rcases hcs with ⟨h1, h2⟩ | ⟨h1, h2, h3⟩ | ⟨hz, h0, hmz, hm2, b0, o0, s0, rfl, hbl, hs0, hcell0⟩
  · exact hshort (.inl h1) h2
  · exact hshort (.inr ⟨h1, h2⟩) h3
  clear hshort
  subst h0
  have y3 : W1.cell? ⟨b0, o0, none⟩ = some (.string s0) := (HB1.out.cell (p := ⟨b0, _, none⟩) hbl).trans hcell0
  have hbl0 : b0 < W1.heap.size := by have := HB1.out.size; omega
  have hm2i : (0 : Int) < (m : Int) := by omega
  have hm0 : 0 < m := by omega
  rcases str_cases s0 it with ⟨hst, hst2, hne⟩ | ⟨hst, hst2, hne⟩
  · have HRES : Hid (leadsB xs ⟨it, si, un⟩ ws = false) := leads_first hs0 hne
    clear hs0 hcell0 hne
    go_enter Try.func49, Try.ntmps49
    go_wp2_with fail
    rw [← HW1.out]
    refine (HFA.out _ HB1.out).mono ?_
    rintro e w6 ⟨rfl, hb6⟩
    have HB6 := Lib.hid (HB1.out.trans (hb6.mono HB1.out.size))
    have HM6 : Hid (w6.heap[w.heap.size]? = _) := (hb6.block _ hwl1).trans HM1.out
    have z0 := (hb6.cell (p := ⟨w.heap.size, 0, none⟩) hwl1).trans y0
    have z1 := (hb6.cell (p := ⟨w.heap.size, 1, none⟩) hwl1).trans y1
    have z2 := (hb6.cell (p := ⟨w.heap.size, 2, none⟩) hwl1).trans y2
    have z3 := (hb6.cell (p := ⟨b0, o0, none⟩) hbl0).trans y3
    clear hb6 y0 y1 y2 y3
    go_wp2_with fail
    refine seq_start (S := fun w' => w'.cell? ⟨w.heap.size, 0, none⟩ = some (.string it) ∧ w'.cell? ⟨b0, o0, none⟩ = some (.string s0)) (by kernel_rfl) (by kernel_rfl) (by exact ⟨z0, z3⟩) ?_
    repeat (first
      | (refine seq_take0 (v := ?_) ?_ (fun _ _ _ h => h) (by kernel_rfl) ?_ ?_; rotate_left; (focus rfl); (focus (intro w' hSw; (try dsimp only at hSw); go_simp; (try with_reducible rfl); done)); (try simp only [Act.put, List.setIfInBounds_toArray, List.set_cons_zero, List.set_cons_succ]))
      | (refine seq_takeG (v := ?_) (g := ?_) (d := ?_) (b := ?_) (u := ?_) ?_ ?_ ?_ ?_ (fun _ _ _ h => h) (by kernel_rfl) ?_ ?_; rotate_left 5; (focus rfl); (focus rfl); (focus rfl); (focus (first | rfl | (go_simp; done))); (focus (intro w' hSw; (try dsimp only at hSw); go_simp; (try with_reducible rfl); done)); (try simp only [Act.put, List.setIfInBounds_toArray, List.set_cons_zero, List.set_cons_succ]))
      | (refine seq_skipG (g := ?_) (d := ?_) (b := ?_) (u := ?_) ?_ ?_ ?_ ?_ (fun _ _ _ h => h) (by kernel_rfl) ?_; rotate_left 4; (focus rfl); (focus rfl); (focus rfl); (focus (first | rfl | (go_simp; done))); (try simp only [Act.put, List.setIfInBounds_toArray, List.set_cons_zero, List.set_cons_succ])))
    refine seq_done (by kernel_rfl) ?_
    go_wp2_with fail
    go_ret
    exact ⟨ret_bool HRES.out.symm, HB6.out.trans ((Below.refl _ w6).drew.mono HB6.out.size)⟩
  · have HS0 := Lib.hid hs0
    have HNE := Lib.hid hne
    clear hs0 hcell0 hne
    have hc1 : (1 : Int) ≤ (m : Int) := by omega
    have hc2 : (1 : Int) ≤ (capw : Int) := by omega
    have hc3 : ¬ ((capw : Int) = 1) := by omega
    have hc4 : ¬ (capw = 1) := by omega
    have hc5 : 1 < capw := by omega
    go_enter Try.func49, Try.ntmps49
    go_wp2_with fail
    rw [← HW1.out]
    refine (HFA.out _ HB1.out).mono ?_
    rintro e w6 ⟨rfl, hb6⟩
    have HB6 := Lib.hid (HB1.out.trans (hb6.mono HB1.out.size))
    have HM6 : Hid (w6.heap[w.heap.size]? = _) := (hb6.block _ hwl1).trans HM1.out
    have z0 := (hb6.cell (p := ⟨w.heap.size, 0, none⟩) hwl1).trans y0
    have z1 := (hb6.cell (p := ⟨w.heap.size, 1, none⟩) hwl1).trans y1
    have z2 := (hb6.cell (p := ⟨w.heap.size, 2, none⟩) hwl1).trans y2
    have z3 := (hb6.cell (p := ⟨b0, o0, none⟩) hbl0).trans y3
    clear hb6 y0 y1 y2 y3
    go_wp2_with fail
    refine seq_start (S := fun w' => w'.cell? ⟨w.heap.size, 0, none⟩ = some (.string it) ∧ w'.cell? ⟨b0, o0, none⟩ = some (.string s0)) (by kernel_rfl) (by kernel_rfl) (by exact ⟨z0, z3⟩) ?_
    repeat (first
      | (refine seq_take0 (v := ?_) ?_ (fun _ _ _ h => h) (by kernel_rfl) ?_ ?_; rotate_left; (focus rfl); (focus (intro w' hSw; (try dsimp only at hSw); go_simp; (try with_reducible rfl); done)); (try simp only [Act.put, List.setIfInBounds_toArray, List.set_cons_zero, List.set_cons_succ]))
      | (refine seq_takeG (v := ?_) (g := ?_) (d := ?_) (b := ?_) (u := ?_) ?_ ?_ ?_ ?_ (fun _ _ _ h => h) (by kernel_rfl) ?_ ?_; rotate_left 5; (focus rfl); (focus rfl); (focus rfl); (focus (first | rfl | (go_simp; done))); (focus (intro w' hSw; (try dsimp only at hSw); go_simp; (try with_reducible rfl); done)); (try simp only [Act.put, List.setIfInBounds_toArray, List.set_cons_zero, List.set_cons_succ]))
      | (refine seq_skipG (g := ?_) (d := ?_) (b := ?_) (u := ?_) ?_ ?_ ?_ ?_ (fun _ _ _ h => h) (by kernel_rfl) ?_; rotate_left 4; (focus rfl); (focus rfl); (focus rfl); (focus (first | rfl | (go_simp; done))); (try simp only [Act.put, List.setIfInBounds_toArray, List.set_cons_zero, List.set_cons_succ])))
    refine seq_done (by kernel_rfl) ?_
    clear z0 z1 z2 z3
    go_wp2_with fail
    go_loopw [37] (fun iv wr => ∃ d : Nat, d + 1 ≤ m ∧ iv = .int .i64 (d : Int) ∧ leadsUp xs ⟨it, si, un⟩ ws d = true ∧ Below w6.heap.size w6 wr) (fun iv _ => m - (intOf iv).toNat)
    case atStart => exact ⟨0, by omega, rfl, rfl, (Below.refl _ w6).drew⟩
    case round =>
      obtain ⟨d, hd, rfl, hup, hbel⟩ := hrel
      have HUP := Lib.hid hup
      have HBR := Lib.hid (HB6.out.trans (hbel.mono HB6.out.size))
      have HMR : Hid (wr.heap[w.heap.size]? = _) := (hbel.block _ (Array.getElem?_eq_some_iff.1 HM6.out).1).trans HM6.out
      have HBEL := Lib.hid hbel
      clear hup hbel
      by_cases hlt : d + 1 < m
      · obtain ⟨b1, o1, s1, e1, ⟨_, hb1l⟩, hs1, hc1'⟩ := HCW.out (d + 1) hlt
        obtain ⟨b2, o2, p1, e2, ⟨_, hb2l⟩, hp1, hc2'⟩ := HCW.out d (by omega)
        cases e1
        cases e2
        have d1 : wr.cell? ⟨b0, o0 + 1 + d, none⟩ = some (.string s1) := by rw [Nat.add_assoc, Nat.add_comm 1 d]; exact (HBR.out.cell (p := ⟨b0, _, none⟩) hb1l).trans hc1'
        have d2 : wr.cell? ⟨b0, o0 + d, none⟩ = some (.string p1) := (HBR.out.cell (p := ⟨b0, _, none⟩) hb1l).trans hc2'
        have hlti : (d : Int) < (m : Int) - 1 := by omega
        have hlti2 : d < m - 1 := by omega
        have HS1 := Lib.hid hs1
        have HP1 := Lib.hid hp1
        have hbkr := HBK.out.below HBR.out
        have e0 := hbkr.cell0
        have e1 := hbkr.cell1
        have hlk := MapV.look_ok hbkr.map (HWS.out s1 (mem_of_get? hs1))
        have HBKR := Lib.hid hbkr
        clear hc1' hc2' hs1 hp1 hbkr
        cases hi : idx xs s1 with
        | none =>
          have HRES : Hid (leadsB xs ⟨it, si, un⟩ ws = false) := leads_no (d := d) (by have := HM.out; omega) (leadsAt_none HS1.out hi)
          rw [hi] at hlk
          simp only [Option.isSome_none] at hlk
          clear hi
          go_wp2_with fail
          refine seq_start (S := fun _ => True) (by kernel_rfl) (by kernel_rfl) trivial ?_
          repeat (first
            | (refine seq_take0 (v := ?_) ?_ (fun _ _ _ h => h) (by kernel_rfl) ?_ ?_; rotate_left; (focus rfl); (focus (intro w' hSw; (try dsimp only at hSw); go_simp; (try with_reducible rfl); done)); (try simp only [Act.put, List.setIfInBounds_toArray, List.set_cons_zero, List.set_cons_succ]))
            | (refine seq_takeG (v := ?_) (g := ?_) (d := ?_) (b := ?_) (u := ?_) ?_ ?_ ?_ ?_ (fun _ _ _ h => h) (by kernel_rfl) ?_ ?_; rotate_left 5; (focus rfl); (focus rfl); (focus rfl); (focus (first | rfl | (go_simp; done))); (focus (intro w' hSw; (try dsimp only at hSw); go_simp; (try with_reducible rfl); done)); (try simp only [Act.put, List.setIfInBounds_toArray, List.set_cons_zero, List.set_cons_succ]))
            | (refine seq_skipG (g := ?_) (d := ?_) (b := ?_) (u := ?_) ?_ ?_ ?_ ?_ (fun _ _ _ h => h) (by kernel_rfl) ?_; rotate_left 4; (focus rfl); (focus rfl); (focus rfl); (focus (first | rfl | (go_simp; done))); (try simp only [Act.put, List.setIfInBounds_toArray, List.set_cons_zero, List.set_cons_succ])))
          refine seq_done (by kernel_rfl) ?_
          go_wp2_with fail
          go_ret
          exact ⟨ret_bool HRES.out.symm, HBR.out.trans ((Below.refl _ wr).drew.mono HBR.out.size)⟩
        | some i =>
          have hil := idx_lt hi
          obtain ⟨x, hx⟩ : ∃ x, xs[i]? = some x := ⟨xs[i], List.getElem?_eq_getElem hil⟩
          obtain ⟨g', cp, fv, rfl, hgc, hgB, hgl, g0, g1, g2, g3, hfr⟩ := HBKR.out.item hx
          obtain ⟨Af, nf, cf, rfl⟩ := hfr.isSlice
          have gm0 : wr.cell? ⟨w.heap.size, 0, none⟩ = some (.string it) := cell_of_row wr _ 0 _ _ _ HMR.out
          have gm1 : wr.cell? ⟨w.heap.size, 1, none⟩ = some (.int .i64 si) := cell_of_row wr _ 1 _ _ _ HMR.out
          have gm2 : wr.cell? ⟨w.heap.size, 2, none⟩ = some (.int .i64 un) := cell_of_row wr _ 2 _ _ _ HMR.out
          have hat := leadsAt_some (f := ⟨it, si, un⟩) HS1.out (by simpa using HP1.out) hi hx
          have HCH := Lib.hid (fun w' (h : Below wr.heap.size wr w') => pUses_any x (.slice Af nf cf) p1 _ w' (hfr.below h))
          obtain ⟨q, hq⟩ : ∃ q, q = chosenB x p1 := ⟨_, rfl⟩
          obtain ⟨r', hr⟩ : ∃ r, r = leadsAt xs ⟨it, si, un⟩ ws (d + 1) := ⟨_, rfl⟩
          obtain ⟨du, hdu⟩ : ∃ du, du = during ⟨it, si, un⟩ x.at_ := ⟨_, rfl⟩
          rw [← hq] at HCH hat
          rw [← hr, ← hdu] at hat
          have HDX := Lib.hid (HDU.out x.name x.kind x.at_ (.slice Af nf cf))
          rw [← hdu] at HDX
          have HR := Lib.hid hr
          rw [hi] at hlk
          simp only [Option.isSome_some] at hlk
          rw [show idxI xs s1 = (i : Int) by simp [idxI, hi]] at hlk
          obtain ⟨xn, xk, xa, xf⟩ := x
          simp only at g0 g1 g2 g3 HCH HDX
          have hi0 : (0 : Int) ≤ (i : Int) := by omega
          have hi2 : (i : Int) < (xs.length : Int) := by omega
          have hwr0 : w.heap.size < wr.heap.size := World.block_lt_of_cell? wr _ gm1
          have hbxr : g' < wr.heap.size := World.block_lt_of_cell? wr _ g0
          have hb0r : b0 < wr.heap.size := World.block_lt_of_cell? wr _ d2
          have hbbr : bb < wr.heap.size := World.block_lt_of_cell? wr _ e0
          have hdm : (d : Int) < (m : Int) := by omega
          have hd0 : (0 : Int) ≤ (d : Int) := by omega
          clear hi hx hfr hq hr hdu
          cases q with
          | false =>
            obtain rfl : r' = false := by simpa using hat
            clear hat
            go_wp2_with fail
            clear hlk e1 d1
            refine seq_start (S := fun w' => w'.cell? ⟨w.heap.size, 0, none⟩ = some (.string it) ∧ w'.cell? ⟨w.heap.size, 1, none⟩ = some (.int .i64 si) ∧ w'.cell? ⟨w.heap.size, 2, none⟩ = some (.int .i64 un) ∧ w'.cell? ⟨b0, o0 + d, none⟩ = some (.string p1) ∧ w'.cell? ⟨bb, 0, none⟩ = some (.slice (some ⟨g', 0, none⟩) xs.length cp) ∧ w'.cell? ⟨g', i * 4, none⟩ = some (.string xn) ∧ w'.cell? ⟨g', i * 4 + 1, none⟩ = some (.int .i64 xk) ∧ w'.cell? ⟨g', i * 4 + 2, none⟩ = some (.int .i64 xa) ∧ w'.cell? ⟨g', i * 4 + 3, none⟩ = some (.slice Af nf cf)) (by kernel_rfl) (by kernel_rfl) (by exact ⟨gm0, gm1, gm2, d2, e0, g0, g1, g2, g3⟩) ?_
            repeat (first
              | (refine seq_take0 (v := ?_) ?_ (fun _ _ _ h => h) (by kernel_rfl) ?_ ?_; rotate_left; (focus rfl); (focus (intro w' hSw; (try dsimp only at hSw); go_simp; (try with_reducible rfl); done)); (try simp only [Act.put, List.setIfInBounds_toArray, List.set_cons_zero, List.set_cons_succ]))
              | (refine seq_takeG (v := ?_) (g := ?_) (d := ?_) (b := ?_) (u := ?_) ?_ ?_ ?_ ?_ (fun _ _ _ h => h) (by kernel_rfl) ?_ ?_; rotate_left 5; (focus rfl); (focus rfl); (focus rfl); (focus (first | rfl | (go_simp; done))); (focus (intro w' hSw; (try dsimp only at hSw); go_simp; (try with_reducible rfl); done)); (try simp only [Act.put, List.setIfInBounds_toArray, List.set_cons_zero, List.set_cons_succ]))
              | (refine seq_skipG (g := ?_) (d := ?_) (b := ?_) (u := ?_) ?_ ?_ ?_ ?_ (fun _ _ _ h => h) (by kernel_rfl) ?_; rotate_left 4; (focus rfl); (focus rfl); (focus rfl); (focus (first | rfl | (go_simp; done))); (try simp only [Act.put, List.setIfInBounds_toArray, List.set_cons_zero, List.set_cons_succ])))
            refine seq_op (by kernel_rfl) (by rfl) (fun K hK => ?_)
            go_simp
            refine (HCH.out _ ((Below.refl _ wr).drew)).mono ?_
            rintro e w9 ⟨rfl, hb9⟩
            have h19 : ∀ {b o : Nat}, b < wr.heap.size → w9.cell? ⟨b, o, none⟩ = wr.cell? ⟨b, o, none⟩ := fun h => hb9.cell (p := ⟨_, _, none⟩) h
            refine hK.out _ _ ⟨(h19 hwr0).trans gm0, (h19 hwr0).trans gm1, (h19 hwr0).trans gm2, (h19 hb0r).trans d2, (h19 hbbr).trans e0, (h19 hbxr).trans g0, (h19 hbxr).trans g1, (h19 hbxr).trans g2, (h19 hbxr).trans g3⟩ ?_
            clear hK K
            have HB9 : Hid (Below wr.heap.size wr w9) := ((Below.refl _ wr).drew).trans hb9
            repeat (first
              | (refine seq_take0 (v := ?_) ?_ (fun _ _ _ h => h) (by kernel_rfl) ?_ ?_; rotate_left; (focus rfl); (focus (intro w' hSw; (try dsimp only at hSw); go_simp; (try with_reducible rfl); done)); (try simp only [Act.put, List.setIfInBounds_toArray, List.set_cons_zero, List.set_cons_succ]))
              | (refine seq_takeG (v := ?_) (g := ?_) (d := ?_) (b := ?_) (u := ?_) ?_ ?_ ?_ ?_ (fun _ _ _ h => h) (by kernel_rfl) ?_ ?_; rotate_left 5; (focus rfl); (focus rfl); (focus rfl); (focus (first | rfl | (go_simp; done))); (focus (intro w' hSw; (try dsimp only at hSw); go_simp; (try with_reducible rfl); done)); (try simp only [Act.put, List.setIfInBounds_toArray, List.set_cons_zero, List.set_cons_succ]))
              | (refine seq_skipG (g := ?_) (d := ?_) (b := ?_) (u := ?_) ?_ ?_ ?_ ?_ (fun _ _ _ h => h) (by kernel_rfl) ?_; rotate_left 4; (focus rfl); (focus rfl); (focus rfl); (focus (first | rfl | (go_simp; done))); (try simp only [Act.put, List.setIfInBounds_toArray, List.set_cons_zero, List.set_cons_succ])))
            refine seq_done (by kernel_rfl) ?_
            have HRES : Hid (leadsB xs ⟨it, si, un⟩ ws = false) := leads_no (by have := HM.out; omega) HR.out.symm
            go_wp2_with fail
            go_ret
            exact ⟨ret_bool HRES.out.symm, HBR.out.trans (HB9.out.mono HBR.out.size)⟩
          | true =>
            by_cases hdz : d = 0
            · have hk2 : ((d : Int) == 0) = true := by rw [beq_iff_eq]; omega
              have hk3 : (d == 0) = true := by rw [beq_iff_eq]; omega
              obtain rfl : r' = du := by rw [hat, hdz]; simp
              clear hat hdz
              cases r' with
              | false =>
                go_wp2_with fail
                clear hlk e1 d1
                refine seq_start (S := fun w' => w'.cell? ⟨w.heap.size, 0, none⟩ = some (.string it) ∧ w'.cell? ⟨w.heap.size, 1, none⟩ = some (.int .i64 si) ∧ w'.cell? ⟨w.heap.size, 2, none⟩ = some (.int .i64 un) ∧ w'.cell? ⟨b0, o0 + d, none⟩ = some (.string p1) ∧ w'.cell? ⟨bb, 0, none⟩ = some (.slice (some ⟨g', 0, none⟩) xs.length cp) ∧ w'.cell? ⟨g', i * 4, none⟩ = some (.string xn) ∧ w'.cell? ⟨g', i * 4 + 1, none⟩ = some (.int .i64 xk) ∧ w'.cell? ⟨g', i * 4 + 2, none⟩ = some (.int .i64 xa) ∧ w'.cell? ⟨g', i * 4 + 3, none⟩ = some (.slice Af nf cf)) (by kernel_rfl) (by kernel_rfl) (by exact ⟨gm0, gm1, gm2, d2, e0, g0, g1, g2, g3⟩) ?_
                repeat (first
                  | (refine seq_take0 (v := ?_) ?_ (fun _ _ _ h => h) (by kernel_rfl) ?_ ?_; rotate_left; (focus rfl); (focus (intro w' hSw; (try dsimp only at hSw); go_simp; (try with_reducible rfl); done)); (try simp only [Act.put, List.setIfInBounds_toArray, List.set_cons_zero, List.set_cons_succ]))
                  | (refine seq_takeG (v := ?_) (g := ?_) (d := ?_) (b := ?_) (u := ?_) ?_ ?_ ?_ ?_ (fun _ _ _ h => h) (by kernel_rfl) ?_ ?_; rotate_left 5; (focus rfl); (focus rfl); (focus rfl); (focus (first | rfl | (go_simp; done))); (focus (intro w' hSw; (try dsimp only at hSw); go_simp; (try with_reducible rfl); done)); (try simp only [Act.put, List.setIfInBounds_toArray, List.set_cons_zero, List.set_cons_succ]))
                  | (refine seq_skipG (g := ?_) (d := ?_) (b := ?_) (u := ?_) ?_ ?_ ?_ ?_ (fun _ _ _ h => h) (by kernel_rfl) ?_; rotate_left 4; (focus rfl); (focus rfl); (focus rfl); (focus (first | rfl | (go_simp; done))); (try simp only [Act.put, List.setIfInBounds_toArray, List.set_cons_zero, List.set_cons_succ])))
                refine seq_op (by kernel_rfl) (by rfl) (fun K hK => ?_)
                go_simp
                refine (HCH.out _ ((Below.refl _ wr).drew)).mono ?_
                rintro e w9 ⟨rfl, hb9⟩
                have h19 : ∀ {b o : Nat}, b < wr.heap.size → w9.cell? ⟨b, o, none⟩ = wr.cell? ⟨b, o, none⟩ := fun h => hb9.cell (p := ⟨_, _, none⟩) h
                refine hK.out _ _ ⟨(h19 hwr0).trans gm0, (h19 hwr0).trans gm1, (h19 hwr0).trans gm2, (h19 hb0r).trans d2, (h19 hbbr).trans e0, (h19 hbxr).trans g0, (h19 hbxr).trans g1, (h19 hbxr).trans g2, (h19 hbxr).trans g3⟩ ?_
                clear hK K
                have HB9 : Hid (Below wr.heap.size wr w9) := ((Below.refl _ wr).drew).trans hb9
                repeat (first
                  | (refine seq_take0 (v := ?_) ?_ (fun _ _ _ h => h) (by kernel_rfl) ?_ ?_; rotate_left; (focus rfl); (focus (intro w' hSw; (try dsimp only at hSw); go_simp; (try with_reducible rfl); done)); (try simp only [Act.put, List.setIfInBounds_toArray, List.set_cons_zero, List.set_cons_succ]))
                  | (refine seq_takeG (v := ?_) (g := ?_) (d := ?_) (b := ?_) (u := ?_) ?_ ?_ ?_ ?_ (fun _ _ _ h => h) (by kernel_rfl) ?_ ?_; rotate_left 5; (focus rfl); (focus rfl); (focus rfl); (focus (first | rfl | (go_simp; done))); (focus (intro w' hSw; (try dsimp only at hSw); go_simp; (try with_reducible rfl); done)); (try simp only [Act.put, List.setIfInBounds_toArray, List.set_cons_zero, List.set_cons_succ]))
                  | (refine seq_skipG (g := ?_) (d := ?_) (b := ?_) (u := ?_) ?_ ?_ ?_ ?_ (fun _ _ _ h => h) (by kernel_rfl) ?_; rotate_left 4; (focus rfl); (focus rfl); (focus rfl); (focus (first | rfl | (go_simp; done))); (try simp only [Act.put, List.setIfInBounds_toArray, List.set_cons_zero, List.set_cons_succ])))
                refine seq_op (by kernel_rfl) (by rfl) (fun K hK => ?_)
                go_simp
                refine (HDX.out _).mono ?_
                rintro e w10 ⟨rfl, hb10⟩
                have h20 : ∀ {b o : Nat}, b < wr.heap.size → w10.cell? ⟨b, o, none⟩ = wr.cell? ⟨b, o, none⟩ := fun h => (hb10.cell (p := ⟨_, _, none⟩) (Nat.lt_of_lt_of_le h hb9.size)).trans (h19 h)
                refine hK.out _ _ ⟨(h20 hwr0).trans gm0, (h20 hwr0).trans gm1, (h20 hwr0).trans gm2, (h20 hb0r).trans d2, (h20 hbbr).trans e0, (h20 hbxr).trans g0, (h20 hbxr).trans g1, (h20 hbxr).trans g2, (h20 hbxr).trans g3⟩ ?_
                clear hK K
                have HB9 : Hid (Below wr.heap.size wr w10) := HB9.out.trans (hb10.mono HB9.out.size)
                repeat (first
                  | (refine seq_take0 (v := ?_) ?_ (fun _ _ _ h => h) (by kernel_rfl) ?_ ?_; rotate_left; (focus rfl); (focus (intro w' hSw; (try dsimp only at hSw); go_simp; (try with_reducible rfl); done)); (try simp only [Act.put, List.setIfInBounds_toArray, List.set_cons_zero, List.set_cons_succ]))
                  | (refine seq_takeG (v := ?_) (g := ?_) (d := ?_) (b := ?_) (u := ?_) ?_ ?_ ?_ ?_ (fun _ _ _ h => h) (by kernel_rfl) ?_ ?_; rotate_left 5; (focus rfl); (focus rfl); (focus rfl); (focus (first | rfl | (go_simp; done))); (focus (intro w' hSw; (try dsimp only at hSw); go_simp; (try with_reducible rfl); done)); (try simp only [Act.put, List.setIfInBounds_toArray, List.set_cons_zero, List.set_cons_succ]))
                  | (refine seq_skipG (g := ?_) (d := ?_) (b := ?_) (u := ?_) ?_ ?_ ?_ ?_ (fun _ _ _ h => h) (by kernel_rfl) ?_; rotate_left 4; (focus rfl); (focus rfl); (focus rfl); (focus (first | rfl | (go_simp; done))); (try simp only [Act.put, List.setIfInBounds_toArray, List.set_cons_zero, List.set_cons_succ])))
                refine seq_done (by kernel_rfl) ?_
                have HRES : Hid (leadsB xs ⟨it, si, un⟩ ws = false) := leads_no (by have := HM.out; omega) HR.out.symm
                go_wp2_with fail
                go_ret
                exact ⟨ret_bool HRES.out.symm, HBR.out.trans (HB9.out.mono HBR.out.size)⟩
              | true =>
                go_wp2_with fail
                clear hlk e1 d1
                refine seq_start (S := fun w' => w'.cell? ⟨w.heap.size, 0, none⟩ = some (.string it) ∧ w'.cell? ⟨w.heap.size, 1, none⟩ = some (.int .i64 si) ∧ w'.cell? ⟨w.heap.size, 2, none⟩ = some (.int .i64 un) ∧ w'.cell? ⟨b0, o0 + d, none⟩ = some (.string p1) ∧ w'.cell? ⟨bb, 0, none⟩ = some (.slice (some ⟨g', 0, none⟩) xs.length cp) ∧ w'.cell? ⟨g', i * 4, none⟩ = some (.string xn) ∧ w'.cell? ⟨g', i * 4 + 1, none⟩ = some (.int .i64 xk) ∧ w'.cell? ⟨g', i * 4 + 2, none⟩ = some (.int .i64 xa) ∧ w'.cell? ⟨g', i * 4 + 3, none⟩ = some (.slice Af nf cf)) (by kernel_rfl) (by kernel_rfl) (by exact ⟨gm0, gm1, gm2, d2, e0, g0, g1, g2, g3⟩) ?_
                repeat (first
                  | (refine seq_take0 (v := ?_) ?_ (fun _ _ _ h => h) (by kernel_rfl) ?_ ?_; rotate_left; (focus rfl); (focus (intro w' hSw; (try dsimp only at hSw); go_simp; (try with_reducible rfl); done)); (try simp only [Act.put, List.setIfInBounds_toArray, List.set_cons_zero, List.set_cons_succ]))
                  | (refine seq_takeG (v := ?_) (g := ?_) (d := ?_) (b := ?_) (u := ?_) ?_ ?_ ?_ ?_ (fun _ _ _ h => h) (by kernel_rfl) ?_ ?_; rotate_left 5; (focus rfl); (focus rfl); (focus rfl); (focus (first | rfl | (go_simp; done))); (focus (intro w' hSw; (try dsimp only at hSw); go_simp; (try with_reducible rfl); done)); (try simp only [Act.put, List.setIfInBounds_toArray, List.set_cons_zero, List.set_cons_succ]))
                  | (refine seq_skipG (g := ?_) (d := ?_) (b := ?_) (u := ?_) ?_ ?_ ?_ ?_ (fun _ _ _ h => h) (by kernel_rfl) ?_; rotate_left 4; (focus rfl); (focus rfl); (focus rfl); (focus (first | rfl | (go_simp; done))); (try simp only [Act.put, List.setIfInBounds_toArray, List.set_cons_zero, List.set_cons_succ])))
                refine seq_op (by kernel_rfl) (by rfl) (fun K hK => ?_)
                go_simp
                refine (HCH.out _ ((Below.refl _ wr).drew)).mono ?_
                rintro e w9 ⟨rfl, hb9⟩
                have h19 : ∀ {b o : Nat}, b < wr.heap.size → w9.cell? ⟨b, o, none⟩ = wr.cell? ⟨b, o, none⟩ := fun h => hb9.cell (p := ⟨_, _, none⟩) h
                refine hK.out _ _ ⟨(h19 hwr0).trans gm0, (h19 hwr0).trans gm1, (h19 hwr0).trans gm2, (h19 hb0r).trans d2, (h19 hbbr).trans e0, (h19 hbxr).trans g0, (h19 hbxr).trans g1, (h19 hbxr).trans g2, (h19 hbxr).trans g3⟩ ?_
                clear hK K
                have HB9 : Hid (Below wr.heap.size wr w9) := ((Below.refl _ wr).drew).trans hb9
                repeat (first
                  | (refine seq_take0 (v := ?_) ?_ (fun _ _ _ h => h) (by kernel_rfl) ?_ ?_; rotate_left; (focus rfl); (focus (intro w' hSw; (try dsimp only at hSw); go_simp; (try with_reducible rfl); done)); (try simp only [Act.put, List.setIfInBounds_toArray, List.set_cons_zero, List.set_cons_succ]))
                  | (refine seq_takeG (v := ?_) (g := ?_) (d := ?_) (b := ?_) (u := ?_) ?_ ?_ ?_ ?_ (fun _ _ _ h => h) (by kernel_rfl) ?_ ?_; rotate_left 5; (focus rfl); (focus rfl); (focus rfl); (focus (first | rfl | (go_simp; done))); (focus (intro w' hSw; (try dsimp only at hSw); go_simp; (try with_reducible rfl); done)); (try simp only [Act.put, List.setIfInBounds_toArray, List.set_cons_zero, List.set_cons_succ]))
                  | (refine seq_skipG (g := ?_) (d := ?_) (b := ?_) (u := ?_) ?_ ?_ ?_ ?_ (fun _ _ _ h => h) (by kernel_rfl) ?_; rotate_left 4; (focus rfl); (focus rfl); (focus rfl); (focus (first | rfl | (go_simp; done))); (try simp only [Act.put, List.setIfInBounds_toArray, List.set_cons_zero, List.set_cons_succ])))
                refine seq_op (by kernel_rfl) (by rfl) (fun K hK => ?_)
                go_simp
                refine (HDX.out _).mono ?_
                rintro e w10 ⟨rfl, hb10⟩
                have h20 : ∀ {b o : Nat}, b < wr.heap.size → w10.cell? ⟨b, o, none⟩ = wr.cell? ⟨b, o, none⟩ := fun h => (hb10.cell (p := ⟨_, _, none⟩) (Nat.lt_of_lt_of_le h hb9.size)).trans (h19 h)
                refine hK.out _ _ ⟨(h20 hwr0).trans gm0, (h20 hwr0).trans gm1, (h20 hwr0).trans gm2, (h20 hb0r).trans d2, (h20 hbbr).trans e0, (h20 hbxr).trans g0, (h20 hbxr).trans g1, (h20 hbxr).trans g2, (h20 hbxr).trans g3⟩ ?_
                clear hK K
                have HB9 : Hid (Below wr.heap.size wr w10) := HB9.out.trans (hb10.mono HB9.out.size)
                repeat (first
                  | (refine seq_take0 (v := ?_) ?_ (fun _ _ _ h => h) (by kernel_rfl) ?_ ?_; rotate_left; (focus rfl); (focus (intro w' hSw; (try dsimp only at hSw); go_simp; (try with_reducible rfl); done)); (try simp only [Act.put, List.setIfInBounds_toArray, List.set_cons_zero, List.set_cons_succ]))
                  | (refine seq_takeG (v := ?_) (g := ?_) (d := ?_) (b := ?_) (u := ?_) ?_ ?_ ?_ ?_ (fun _ _ _ h => h) (by kernel_rfl) ?_ ?_; rotate_left 5; (focus rfl); (focus rfl); (focus rfl); (focus (first | rfl | (go_simp; done))); (focus (intro w' hSw; (try dsimp only at hSw); go_simp; (try with_reducible rfl); done)); (try simp only [Act.put, List.setIfInBounds_toArray, List.set_cons_zero, List.set_cons_succ]))
                  | (refine seq_skipG (g := ?_) (d := ?_) (b := ?_) (u := ?_) ?_ ?_ ?_ ?_ (fun _ _ _ h => h) (by kernel_rfl) ?_; rotate_left 4; (focus rfl); (focus rfl); (focus rfl); (focus (first | rfl | (go_simp; done))); (try simp only [Act.put, List.setIfInBounds_toArray, List.set_cons_zero, List.set_cons_succ])))
                refine seq_done (by kernel_rfl) ?_
                have HUP2 := Lib.hid (leadsUp_succ HUP.out HR.out.symm)
                have HBE := Lib.hid (HBEL.out.trans (HB9.out.mono HBEL.out.size))
                go_wp2_with fail
                go_roundw
                case rel => exact ⟨_, by omega, by go_num, HUP2.out, HBE.out⟩
                case measure => simp [intOf]; omega
            · have hk2 : ((d : Int) == 0) = false := by rw [beq_eq_false_iff_ne]; omega
              have hk3 : (d == 0) = false := by rw [beq_eq_false_iff_ne]; omega
              obtain rfl : r' = true := by rw [hat]; simp [hdz]
              clear hat hdz
              go_wp2_with fail
              clear hlk e1 d1
              refine seq_start (S := fun w' => w'.cell? ⟨w.heap.size, 0, none⟩ = some (.string it) ∧ w'.cell? ⟨w.heap.size, 1, none⟩ = some (.int .i64 si) ∧ w'.cell? ⟨w.heap.size, 2, none⟩ = some (.int .i64 un) ∧ w'.cell? ⟨b0, o0 + d, none⟩ = some (.string p1) ∧ w'.cell? ⟨bb, 0, none⟩ = some (.slice (some ⟨g', 0, none⟩) xs.length cp) ∧ w'.cell? ⟨g', i * 4, none⟩ = some (.string xn) ∧ w'.cell? ⟨g', i * 4 + 1, none⟩ = some (.int .i64 xk) ∧ w'.cell? ⟨g', i * 4 + 2, none⟩ = some (.int .i64 xa) ∧ w'.cell? ⟨g', i * 4 + 3, none⟩ = some (.slice Af nf cf)) (by kernel_rfl) (by kernel_rfl) (by exact ⟨gm0, gm1, gm2, d2, e0, g0, g1, g2, g3⟩) ?_
              repeat (first
                | (refine seq_take0 (v := ?_) ?_ (fun _ _ _ h => h) (by kernel_rfl) ?_ ?_; rotate_left; (focus rfl); (focus (intro w' hSw; (try dsimp only at hSw); go_simp; (try with_reducible rfl); done)); (try simp only [Act.put, List.setIfInBounds_toArray, List.set_cons_zero, List.set_cons_succ]))
                | (refine seq_takeG (v := ?_) (g := ?_) (d := ?_) (b := ?_) (u := ?_) ?_ ?_ ?_ ?_ (fun _ _ _ h => h) (by kernel_rfl) ?_ ?_; rotate_left 5; (focus rfl); (focus rfl); (focus rfl); (focus (first | rfl | (go_simp; done))); (focus (intro w' hSw; (try dsimp only at hSw); go_simp; (try with_reducible rfl); done)); (try simp only [Act.put, List.setIfInBounds_toArray, List.set_cons_zero, List.set_cons_succ]))
                | (refine seq_skipG (g := ?_) (d := ?_) (b := ?_) (u := ?_) ?_ ?_ ?_ ?_ (fun _ _ _ h => h) (by kernel_rfl) ?_; rotate_left 4; (focus rfl); (focus rfl); (focus rfl); (focus (first | rfl | (go_simp; done))); (try simp only [Act.put, List.setIfInBounds_toArray, List.set_cons_zero, List.set_cons_succ])))
              refine seq_op (by kernel_rfl) (by rfl) (fun K hK => ?_)
              go_simp
              refine (HCH.out _ ((Below.refl _ wr).drew)).mono ?_
              rintro e w9 ⟨rfl, hb9⟩
              have h19 : ∀ {b o : Nat}, b < wr.heap.size → w9.cell? ⟨b, o, none⟩ = wr.cell? ⟨b, o, none⟩ := fun h => hb9.cell (p := ⟨_, _, none⟩) h
              refine hK.out _ _ ⟨(h19 hwr0).trans gm0, (h19 hwr0).trans gm1, (h19 hwr0).trans gm2, (h19 hb0r).trans d2, (h19 hbbr).trans e0, (h19 hbxr).trans g0, (h19 hbxr).trans g1, (h19 hbxr).trans g2, (h19 hbxr).trans g3⟩ ?_
              clear hK K
              have HB9 : Hid (Below wr.heap.size wr w9) := ((Below.refl _ wr).drew).trans hb9
              repeat (first
                | (refine seq_take0 (v := ?_) ?_ (fun _ _ _ h => h) (by kernel_rfl) ?_ ?_; rotate_left; (focus rfl); (focus (intro w' hSw; (try dsimp only at hSw); go_simp; (try with_reducible rfl); done)); (try simp only [Act.put, List.setIfInBounds_toArray, List.set_cons_zero, List.set_cons_succ]))
                | (refine seq_takeG (v := ?_) (g := ?_) (d := ?_) (b := ?_) (u := ?_) ?_ ?_ ?_ ?_ (fun _ _ _ h => h) (by kernel_rfl) ?_ ?_; rotate_left 5; (focus rfl); (focus rfl); (focus rfl); (focus (first | rfl | (go_simp; done))); (focus (intro w' hSw; (try dsimp only at hSw); go_simp; (try with_reducible rfl); done)); (try simp only [Act.put, List.setIfInBounds_toArray, List.set_cons_zero, List.set_cons_succ]))
                | (refine seq_skipG (g := ?_) (d := ?_) (b := ?_) (u := ?_) ?_ ?_ ?_ ?_ (fun _ _ _ h => h) (by kernel_rfl) ?_; rotate_left 4; (focus rfl); (focus rfl); (focus rfl); (focus (first | rfl | (go_simp; done))); (try simp only [Act.put, List.setIfInBounds_toArray, List.set_cons_zero, List.set_cons_succ])))
              refine seq_done (by kernel_rfl) ?_
              have HUP2 := Lib.hid (leadsUp_succ HUP.out HR.out.symm)
              have HBE := Lib.hid (HBEL.out.trans (HB9.out.mono HBEL.out.size))
              go_wp2_with fail
              go_roundw
              case rel => exact ⟨_, by omega, by go_num, HUP2.out, HBE.out⟩
              case measure => simp [intOf]; omega
      · have hdm : d = m - 1 := by omega
        have HRES : Hid (leadsB xs ⟨it, si, un⟩ ws = true) := leads_yes HFE.out.symm (by have := HM.out; omega) HS0.out HNE.out (by rw [show ws.length - 1 = d by have := HM.out; omega]; exact HUP.out)
        have hlti : ¬ ((d : Int) < (m : Int) - 1) := by omega
        have hlti2 : ¬ (d < m - 1) := by omega
        clear hdm
        go_wp2_with fail
        go_ret
        exact ⟨ret_bool HRES.out.symm, HBR.out⟩
end Go.Proofs.Ytlanephpmoajiaa

