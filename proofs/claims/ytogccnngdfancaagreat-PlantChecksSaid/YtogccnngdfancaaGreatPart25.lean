/- The walks of Int, New and of the law's Of. Walks of the reference's natural numbers: cut, Nat, Order. -/
import Derived.Test.YtogccnngdfancaaGreatPart24
namespace Go.Proofs.YtogccnngdfancaaGreat
open Go.RowKit
set_option linter.unusedVariables false
set_option linter.unusedSimpArgs false
set_option maxRecDepth 100000 in
set_option maxHeartbeats 1000000 in
theorem int_any (n : Int) (w : World) (h1 : -9223372036854775808 ≤ n) (h2 : n ≤ 9223372036854775807) : Calls Tryz.prog 33 #[.int .i64 n] w fun e w' => (∃ v', e = .returned v' ∧ RdQ w' v' (n : Rat)) ∧ Below w.heap.size w w' := by
  have HO := Lib.hid (fun w' => of_any n w' h1 h2)
  have HRS : Hid (∀ w', Below (w.alloc (.cells #[.bool false, .slice none 0 0, .slice none 0 0] 52)).heap.size (w.alloc (.cells #[.bool false, .slice none 0 0, .slice none 0 0] 52)) w' → _) := fun w' h => res3 (heap_alloc_new w _) h
  have HN : Hid ((n : Rat).num = n ∧ (n : Rat).den = 1) := ⟨rfl, rfl⟩
  go_enter Tryz.func33, Tryz.ntmps33
  go_wp2_with (go_at_call 54; refine (HO.out _).mono ?_; rintro e w3 ⟨⟨v3, rfl, hz3⟩, hb3⟩; obtain ⟨a3, rfl, hr3⟩ := hz3; obtain ⟨A3, n3, c3, rfl⟩ := hr3.slice; have HR3 := Lib.hid hr3; have HB3 := Lib.hid hb3; obtain ⟨q0, q1, q2, q3, q4, q5⟩ := HRS.out _ hb3; clear hr3 hb3)
  have hbw : Below w.heap.size w w3 := ((Below.refl _ w).alloc (Nat.le_refl _) _).trans (HB3.out.mono (by simp))
  exact bodyPost_ret (v := .agg #[.bool (decide (n < 0)), .slice A3 n3 c3, .slice none 0 0]) (by simp [results, Tryz.results33, go_sem, q0, q1, q2]) rfl ⟨⟨_, rfl, _, _, by rw [HN.out.1], by rw [HN.out.1]; exact HR3.out.set3 q0 q1 q2 _ _ _, by rw [HN.out.2]; exact RdN.nil_ _⟩, ((hbw.setCell (Nat.le_refl _) _).setCell (Nat.le_refl _) _).setCell (Nat.le_refl _) _⟩
/-- The fraction of plain data. -/
def ratio (n d : Int) : Rat := mkRat (if d < 0 then -n else n) d.natAbs
theorem ratio_signed (n d : Int) (hd : d ≠ 0) : mkRat (signed (decide (n < 0) != decide (d < 0)) n.natAbs) d.natAbs = ratio n d := by
  unfold ratio
  congr 1
  unfold signed
  by_cases h1 : n < 0 <;> by_cases h2 : d < 0 <;> simp [h1, h2] <;> omega
theorem RdQ.zero (w : World) : RdQ w (.agg #[.bool false, .slice none 0 0, .slice none 0 0]) 0 := ⟨_, _, rfl, RdN.nil_ _, RdN.nil_ _⟩
set_option maxRecDepth 100000 in
set_option maxHeartbeats 4000000 in
theorem new_any (n d : Int) (w : World) (h1 : -9223372036854775808 ≤ n) (h2 : n ≤ 9223372036854775807) (h3 : -9223372036854775808 ≤ d) (h4 : d ≤ 9223372036854775807) (hd : d ≠ 0) :
    Calls Tryz.prog 34 #[.int .i64 n, .int .i64 d] w fun e w' => (∃ v', e = .returned (.tuple #[v', .int .i64 0]) ∧ RdQ w' v' (ratio n d)) ∧ Below w.heap.size w w' := by
  have hdb : (d == 0) = false := by simp [hd]
  have HO1 := Lib.hid (fun w' => of_any n w' h1 h2)
  have HO2 := Lib.hid (fun w' => of_any d w' h3 h4)
  have HRQ := Lib.hid (ratio_signed n d hd)
  have HD0 : Hid (d.natAbs ≠ 0) := by show _ ≠ _; omega
  have HN6 : Hid (dl n.natAbs ≤ 900000 ∧ dl d.natAbs ≤ 900000) := ⟨Nat.le_trans (dl_small (by unfold B64; omega)) (by omega), Nat.le_trans (dl_small (by unfold B64; omega)) (by omega)⟩
  have HSA := Lib.hid signed_abs
  obtain ⟨ng, hng⟩ : ∃ b, b = decide (n < 0) := ⟨_, rfl⟩
  obtain ⟨nh, hnh⟩ : ∃ b, b = decide (d < 0) := ⟨_, rfl⟩
  rw [← hng, ← hnh] at HRQ
  obtain ⟨nx, hnx⟩ : ∃ b, b = (ng != nh) := ⟨_, rfl⟩
  rw [← hnx] at HRQ
  have HNG := Lib.hid hng
  have HNH := Lib.hid hnh
  have hnx' : (!(ng == nh)) = nx := hnx.symm
  have HW0 : Hid (Below w.heap.size w (w.alloc (.cells #[.bool false, .slice none 0 0, .slice none 0 0] 52))) := (Below.refl _ w).alloc (Nat.le_refl _) _
  have HRS : Hid (∀ w', Below (w.alloc (.cells #[.bool false, .slice none 0 0, .slice none 0 0] 52)).heap.size (w.alloc (.cells #[.bool false, .slice none 0 0, .slice none 0 0] 52)) w' → _) := fun w' h => res3 (heap_alloc_new w _) h
  clear hng hnh hnx hd
  go_enter Tryz.func34, Tryz.ntmps34
  go_wp2_with fail
  refine (HO1.out _).mono ?_
  rintro e w3 ⟨⟨v3, rfl, hz3⟩, hb3⟩
  obtain ⟨a3, rfl, hr3⟩ := hz3
  obtain ⟨A3, n3, c3, rfl⟩ := hr3.slice
  rw [← HNG.out]
  have HR3 := Lib.hid hr3
  have HB3 := Lib.hid hb3
  clear hr3 hb3
  go_wp2_with fail
  refine (HO2.out _).mono ?_
  rintro e w4 ⟨⟨v4, rfl, hz4⟩, hb4⟩
  obtain ⟨a4, rfl, hr4⟩ := hz4
  obtain ⟨A4, n4, c4, rfl⟩ := hr4.slice
  rw [← HNH.out]
  have HR4 := Lib.hid hr4
  have HR34 := Lib.hid (HR3.out.below hb4)
  have HB4 : Hid (Below (w.alloc (.cells #[.bool false, .slice none 0 0, .slice none 0 0] 52)).heap.size (w.alloc (.cells #[.bool false, .slice none 0 0, .slice none 0 0] 52)) w4) := HB3.out.trans (hb4.mono HB3.out.size)
  clear hr4 hb4
  go_wp2_with fail
  obtain ⟨W2, hW2⟩ : ∃ W2, W2 = ((w4.alloc (Obj.cells #[Value.bool ng, Value.slice A3 n3 c3] 50)).alloc (Obj.cells #[Value.bool nh, Value.slice A4 n4 c4] 50)) := ⟨_, rfl⟩
  have hb2w : Below w4.heap.size w4 W2 := by rw [hW2]; exact ((Below.refl _ w4).alloc (by simp <;> omega) _).alloc (by simp <;> omega) _
  have hsz2 : w4.heap.size + 2 ≤ W2.heap.size := by rw [hW2]; simp
  have HARG0 : Hid (∀ w', Below W2.heap.size W2 w' → _) := fun w' h => resL (cs := #[Value.bool ng, Value.slice A3 n3 c3]) (b := w4.heap.size) (t := 50) (by rw [hW2, Below.heap_alloc _ _ _ (by simp <;> omega)]; have hx := heap_alloc_new w4 (.cells #[Value.bool ng, Value.slice A3 n3 c3] 50); simpa using hx) h
  have HARG1 : Hid (∀ w', Below W2.heap.size W2 w' → _) := fun w' h => resL (cs := #[Value.bool nh, Value.slice A4 n4 c4]) (b := w4.heap.size + 1) (t := 50) (by rw [hW2]; have hx := heap_alloc_new (w4.alloc (Obj.cells #[Value.bool ng, Value.slice A3 n3 c3] 50)) (.cells #[Value.bool nh, Value.slice A4 n4 c4] 50); simpa using hx) h
  have HB2W := Lib.hid hb2w
  have HSZ2 := Lib.hid hsz2
  have HW2 := Lib.hid hW2
  have HBs : Hid (Below W2.heap.size W2 W2) := Below.refl _ _
  clear hW2 hb2w hsz2
  rw [← HW2.out]
  have HRES0 : Hid (∀ w', Below W2.heap.size W2 w' → _) := fun w' h => resL (cs := #[.bool false, .slice none 0 0, .slice none 0 0]) (b := w.heap.size) (t := 52) ((HB2W.out.block _ (by have := HB4.out.size; simp at this; omega)).trans ((HB4.out.block _ (by simp)).trans (heap_alloc_new w _))) h
  have HBW2 : Hid (Below w.heap.size w W2) := HW0.out.trans ((HB4.out.trans (HB2W.out.mono HB4.out.size)).mono HW0.out.size)
  have HBD1 : Hid (Below W2.heap.size W2 W2.drew) := HBs.out.drew
  have dd0 := HARG0.out _ HBD1.out
  have dd1 := HARG1.out _ HBD1.out
  refine seq_start (S := fun w' => w'.cell? ⟨w4.heap.size, 0, none⟩ = some (Value.bool ng) ∧ w'.cell? ⟨w4.heap.size, 1, none⟩ = some (Value.slice A3 n3 c3) ∧ w'.cell? ⟨w4.heap.size + 1, 0, none⟩ = some (Value.bool nh) ∧ w'.cell? ⟨w4.heap.size + 1, 1, none⟩ = some (Value.slice A4 n4 c4)) (by kernel_rfl) (by kernel_rfl) (by exact ⟨(dd0 0).1, (dd0 1).1, (dd1 0).1, (dd1 1).1⟩) ?_
  clear dd0 dd1
  repeat (first
    | (refine seq_take0 (v := ?_) ?_ (fun _ _ _ h => h) (by kernel_rfl) ?_ ?_; rotate_left; (focus rfl); (focus (intro w' hSw; (try dsimp only at hSw); go_simp; (try with_reducible rfl); done)); (try simp only [Act.put, List.setIfInBounds_toArray, List.set_cons_zero, List.set_cons_succ])))
  refine seq_pull 1 ?_
  simp only [places, pull]
  (first
    | (refine seq_take0 (v := ?_) ?_ (fun _ _ _ h => h) (by kernel_rfl) ?_ ?_; rotate_left; (focus rfl); (focus (intro w' hSw; (try dsimp only at hSw); go_simp; (try with_reducible rfl); done)); (try simp only [Act.put, List.setIfInBounds_toArray, List.set_cons_zero, List.set_cons_succ])))
  refine seq_pull 1 ?_
  simp only [places, pull]
  (first
    | (refine seq_take0 (v := ?_) ?_ (fun _ _ _ h => h) (by kernel_rfl) ?_ ?_; rotate_left; (focus rfl); (focus (intro w' hSw; (try dsimp only at hSw); go_simp; (try with_reducible rfl); done)); (try simp only [Act.put, List.setIfInBounds_toArray, List.set_cons_zero, List.set_cons_succ])))
  refine seq_op (by kernel_rfl) (by rfl) (fun K hK => ?_)
  go_simp
  refine (whole_any _ _ _ _ (HR34.out.below (HB2W.out.trans (HBD1.out.mono HB2W.out.size)))).mono ?_
  rintro e w5 ⟨⟨v5, rfl, hz5⟩, hbx⟩
  have HZ5 := Lib.hid hz5
  obtain ⟨a5, rfl, hr5⟩ := hz5
  obtain ⟨A5, n5, c5, rfl⟩ := hr5.slice
  have HB_w5 : Hid (Below W2.heap.size W2 w5) := HBD1.out.trans (hbx.mono HBD1.out.size)
  have dd0 := HARG0.out _ HB_w5.out
  have dd1 := HARG1.out _ HB_w5.out
  refine hK.out _ _ (by exact ⟨(dd0 0).1, (dd0 1).1, (dd1 0).1, (dd1 1).1⟩) ?_
  clear hK K dd0 dd1 hbx hr5
  repeat (first
    | (refine seq_take0 (v := ?_) ?_ (fun _ _ _ h => h) (by kernel_rfl) ?_ ?_; rotate_left; (focus rfl); (focus (intro w' hSw; (try dsimp only at hSw); go_simp; (try with_reducible rfl); done)); (try simp only [Act.put, List.setIfInBounds_toArray, List.set_cons_zero, List.set_cons_succ])))
  refine seq_op (by kernel_rfl) (by rfl) (fun K hK => ?_)
  go_simp
  refine (over_any _ _ _ d.natAbs _ HZ5.out (HR4.out.below (HB2W.out.trans (HB_w5.out.mono HB2W.out.size))) HD0.out (by rw [HSA.out]; exact HN6.out.1) HN6.out.2).mono ?_
  rintro e w9 ⟨⟨v9, rfl, hz9⟩, hbx⟩
  rw [HRQ.out] at hz9
  obtain ⟨a9, b9, rfl, hr9, hs9⟩ := hz9
  obtain ⟨A9, n9, c9, rfl⟩ := hr9.slice
  obtain ⟨B9, m9, k9, rfl⟩ := hs9.slice
  have HR9 := Lib.hid hr9
  have HS9 := Lib.hid hs9
  have HB_w9 : Hid (Below W2.heap.size W2 w9) := HB_w5.out.trans (hbx.mono HB_w5.out.size)
  have dd0 := HARG0.out _ HB_w9.out
  have dd1 := HARG1.out _ HB_w9.out
  refine hK.out _ _ (by exact ⟨(dd0 0).1, (dd0 1).1, (dd1 0).1, (dd1 1).1⟩) ?_
  clear hK K dd0 dd1 hbx hr9 hs9
  repeat (first
    | (refine seq_take0 (v := ?_) ?_ (fun _ _ _ h => h) (by kernel_rfl) ?_ ?_; rotate_left; (focus rfl); (focus (intro w' hSw; (try dsimp only at hSw); go_simp; (try with_reducible rfl); done)); (try simp only [Act.put, List.setIfInBounds_toArray, List.set_cons_zero, List.set_cons_succ])))
  have hl4 : w.heap.size < w4.heap.size := by have := HB4.out.size; simp at this; omega
  have hn1 : w.heap.size ≠ w4.heap.size := by omega
  have hn2 : w4.heap.size ≠ w.heap.size := by omega
  have hn3 : w.heap.size ≠ w4.heap.size + 1 := by omega
  have hn4 : w4.heap.size + 1 ≠ w.heap.size := by omega
  refine seq_op (by kernel_rfl) (by rfl) (fun K hK => ?_)
  have qq := HRES0.out _ HB_w9.out
  have q0 := (qq 0).1
  have q1 := (qq 1).1
  have q2 := (qq 2).1
  have qf0 := (qq 0).2
  have qf1 := (qq 1).2
  have qf2 := (qq 2).2
  simp only [List.getElem?_toArray, List.getElem?_cons_zero, List.getElem?_cons_succ] at q0 q1 q2
  clear qq
  go_simp
  have dd0 := HARG0.out _ HB_w9.out
  have dd1 := HARG1.out _ HB_w9.out
  refine hK.out _ _ (by go_simp; (first | done | exact ⟨(dd0 0).1, (dd0 1).1, (dd1 0).1, (dd1 1).1⟩)) ?_
  clear hK K dd0 dd1
  repeat (first
    | (refine seq_take0 (v := ?_) ?_ (fun _ _ _ h => h) (by kernel_rfl) ?_ ?_; rotate_left; (focus rfl); (focus (intro w' hSw; (try dsimp only at hSw); go_simp; (try with_reducible rfl); done)); (try simp only [Act.put, List.setIfInBounds_toArray, List.set_cons_zero, List.set_cons_succ])))
  refine seq_done (by kernel_rfl) ?_
  go_wp2_with fail
  have hbw := HBW2.out.trans (HB_w9.out.mono HBW2.out.size)
  exact bodyPost_ret (v := .tuple #[.agg #[.bool (decide ((ratio n d).num < 0)), .slice A9 n9 c9, .slice B9 m9 k9], .int .i64 0]) (by simp [results, Tryz.results34, go_sem, q0, q1, q2]) rfl ⟨⟨_, rfl, _, _, rfl, HR9.out.set3 q0 q1 q2 _ _ _, HS9.out.set3 q0 q1 q2 _ _ _⟩, ((hbw.setCell (by simp <;> omega) _).setCell (by simp <;> omega) _).setCell (by simp <;> omega) _⟩
/-- What plain data mean: a denominator of 0 means 1. -/
def ofRatio (n d : Int) : Rat := if d = 0 then (n : Rat) else ratio n d
theorem lof_agg (n d : Int) (w : World) (h1 : -9223372036854775808 ≤ n) (h2 : n ≤ 9223372036854775807) (h3 : -9223372036854775808 ≤ d) (h4 : d ≤ 9223372036854775807) :
    Calls Tryz.prog 13 #[.agg #[.int .i64 n, .int .i64 d]] w fun e w' => (∃ v', e = .returned v' ∧ RdQ w' v' (ofRatio n d)) ∧ Below w.heap.size w w' := by
  obtain ⟨W2, hW2⟩ : ∃ W2, W2 = (w.alloc (Obj.cells #[Value.int .i64 n, .int .i64 d] 28)).alloc (Obj.cells #[Value.bool false, Value.slice none 0 0, Value.slice none 0 0] 52) := ⟨_, rfl⟩
  have HB2 : Hid (Below w.heap.size w W2) := by rw [hW2]; exact ((Below.refl _ _).alloc (Nat.le_refl _) _).alloc (by simp) _
  have HRS : Hid (∀ w', Below W2.heap.size W2 w' → _) := fun w' h => res3 (c0 := .bool false) (c1 := .slice none 0 0) (c2 := .slice none 0 0) (b := w.heap.size + 1) (t := 52) (by rw [hW2]; have := heap_alloc_new (w.alloc (Obj.cells #[Value.int .i64 n, .int .i64 d] 28)) (.cells #[Value.bool false, Value.slice none 0 0, Value.slice none 0 0] 52); simpa using this) h
  have HW2 := Lib.hid hW2
  have HO1 := Lib.hid (fun w' => int_any n w' h1 h2)
  clear hW2
  by_cases hd : d = 0
  · have hdb : (d == 0) = true := by simp [hd]
    have HE : Hid (ofRatio n d = (n : Rat)) := by show _ = _; unfold ofRatio; rw [if_pos hd]
    rw [HE.out]
    clear hd
    go_enter Tryz.func13, Tryz.ntmps13
    go_wp2_with fail
    rw [← HW2.out]
    refine (HO1.out _).mono ?_
    rintro e w3 ⟨⟨v3, rfl, hz3⟩, hb3⟩
    obtain ⟨a3, b3, rfl, hr3, hs3⟩ := hz3
    obtain ⟨A3, n3, c3, rfl⟩ := hr3.slice
    obtain ⟨B3, m3, k3, rfl⟩ := hs3.slice
    obtain ⟨q0, q1, q2, q3, q4, q5⟩ := HRS.out _ hb3
    have HR3 := Lib.hid hr3
    have HS3 := Lib.hid hs3
    have hbw : Below w.heap.size w w3 := HB2.out.trans (hb3.mono HB2.out.size)
    have HBW := Lib.hid hbw
    clear hr3 hs3 hb3 hbw
    go_wp2_with fail
    exact bodyPost_ret (v := .agg #[.bool (decide ((n : Rat).num < 0)), .slice A3 n3 c3, .slice B3 m3 k3]) (by simp [results, Tryz.results13, go_sem, q0, q1, q2]) rfl ⟨⟨_, rfl, _, _, rfl, HR3.out.set3 q0 q1 q2 _ _ _, HS3.out.set3 q0 q1 q2 _ _ _⟩, ((HBW.out.setCell (by simp <;> omega) _).setCell (by simp <;> omega) _).setCell (by simp <;> omega) _⟩
  · have hdb : (d == 0) = false := by simp [hd]
    have HE : Hid (ofRatio n d = ratio n d) := by show _ = _; unfold ofRatio; rw [if_neg hd]
    rw [HE.out]
    have HO2 := Lib.hid (fun w' => new_any n d w' h1 h2 h3 h4 hd)
    clear hd
    go_enter Tryz.func13, Tryz.ntmps13
    go_wp2_with fail
    rw [← HW2.out]
    refine (HO2.out _).mono ?_
    rintro e w3 ⟨⟨v3, rfl, hz3⟩, hb3⟩
    obtain ⟨a3, b3, rfl, hr3, hs3⟩ := hz3
    obtain ⟨A3, n3, c3, rfl⟩ := hr3.slice
    obtain ⟨B3, m3, k3, rfl⟩ := hs3.slice
    obtain ⟨W4, hW4⟩ : ∃ W4, W4 = w3.alloc (Obj.cells #[Value.bool (decide ((ratio n d).num < 0)), .slice A3 n3 c3, .slice B3 m3 k3] 52) := ⟨_, rfl⟩
    have hb4 : Below W2.heap.size W2 W4 := by rw [hW4]; exact hb3.alloc hb3.size _
    obtain ⟨q0, q1, q2, q3, q4, q5⟩ := HRS.out _ hb4
    have HR3 : Hid (RdN W4 (.slice A3 n3 c3) (ratio n d).num.natAbs) := by rw [hW4]; exact hr3.below ((Below.refl _ _).alloc (Nat.le_refl _) _)
    have HS3 : Hid (RdN W4 (.slice B3 m3 k3) (den1 (ratio n d).den)) := by rw [hW4]; exact hs3.below ((Below.refl _ _).alloc (Nat.le_refl _) _)
    have HBW : Hid (Below w.heap.size w W4) := HB2.out.trans (hb4.mono HB2.out.size)
    rw [hW4] at q0 q1 q2 q3 q4 q5 HR3 HS3 HBW
    clear hr3 hs3 hb3 hb4 hW4
    go_wp2_with fail
    exact bodyPost_ret (v := .agg #[.bool (decide ((ratio n d).num < 0)), .slice A3 n3 c3, .slice B3 m3 k3]) (by simp [results, Tryz.results13, go_sem, q0, q1, q2]) rfl ⟨⟨_, rfl, _, _, rfl, HR3.out.set3 q0 q1 q2 _ _ _, HS3.out.set3 q0 q1 q2 _ _ _⟩, ((HBW.out.setCell (by simp <;> omega) _).setCell (by simp <;> omega) _).setCell (by simp <;> omega) _⟩
end Go.Proofs.YtogccnngdfancaaGreat
namespace Go.Proofs.YtogccnngdfancaaGreat
open Go.RowKit
set_option linter.unusedVariables false
set_option linter.unusedSimpArgs false
def B32 : Nat := 4294967296
theorem B32_2 : 2 ≤ B32 := by unfold B32; omega
def u32V (k : Nat) : Value := .int .u32 (k : Int)
/-- A list of half words in memory, for reading. -/
def RdV (w : World) (v : Value) (xs : List Nat) : Prop := Rd u32V w (fun _ => True) v xs
/-- A natural number of the reference in memory. -/
def RdM (w : World) (v : Value) (n : Nat) : Prop := RdV w v (digs B32 n)
theorem RdM.below {w w' : World} {v : Value} {n : Nat} (h : RdM w v n) (hb : Below w.heap.size w w') : RdM w' v n := Rd.below h hb
theorem RdM.slice {w : World} {v : Value} {n : Nat} (h : RdM w v n) : ∃ A k c, v = .slice A k c := let ⟨A, c, h1, _⟩ := h; ⟨A, _, c, h1⟩
theorem RdM.nil_ (w : World) : RdM w (.slice none 0 0) 0 := by unfold RdM; rw [digs_zero]; exact Rd.none_ _ _ _
theorem RdV.open_ {w : World} {v : Value} {xs : List Nat} (h : RdV w v xs) :
    ∃ A n cap, v = .slice A n cap ∧ xs.length = n ∧ n ≤ cap ∧ n ≤ 9223372036854775807 ∧ cap ≤ maxLen ∧
      (∀ k, k < n → ∃ b off x, A = some ⟨b, off, none⟩ ∧ b < w.heap.size ∧ xs[k]? = some x ∧ w.cell? ⟨b, off + k, none⟩ = some (.int .u32 (x : Int))) := by
  have h0 := Rd.lt h
  obtain ⟨A, cap, rfl, h1, h2, h3⟩ := h0
  refine ⟨A, xs.length, cap, rfl, rfl, h1, by unfold maxLen at h2; omega, h2, fun k hk => ?_⟩
  obtain ⟨b, off, rfl, hb, hc⟩ := h3 (fun e => by subst e; simp at hk)
  exact ⟨b, off, xs[k], rfl, hb.2, List.getElem?_eq_getElem hk, hc k hk⟩
/-- A natural number in blocks of a kind. -/
def RdMS (w : World) (S : Nat → Prop) (v : Value) (n : Nat) : Prop := Rd u32V w S v (digs B32 n)
theorem RdMS.all {w : World} {S : Nat → Prop} {v : Value} {n : Nat} (h : RdMS w S v n) : RdM w v n := Rd.mono h fun _ _ => trivial
theorem RdMS.below {w w' : World} {S : Nat → Prop} {v : Value} {n : Nat} (h : RdMS w S v n) (hb : Below w.heap.size w w') : RdMS w' S v n := Rd.below h hb
theorem Rd.take32 {w : World} {S : Nat → Prop} {A : Option Addr} {n cap : Nat} {xs : List Nat} (h : Rd u32V w S (.slice A n cap) xs) {k : Nat} (hk : k ≤ n) : Rd u32V w S (.slice A k cap) (xs.take k) := by
  obtain ⟨A', cap', he, h1, h2, h3⟩ := h
  simp only [Value.slice.injEq] at he
  obtain ⟨rfl, rfl, rfl⟩ := he
  have hl : (xs.take k).length = k := by simp; omega
  refine ⟨A, cap, by rw [hl], by omega, h2, fun hn => ?_⟩
  obtain ⟨b, off, rfl, hb, hc⟩ := h3 (fun e => hn (by rw [e]; simp))
  refine ⟨b, off, rfl, hb, fun i hi => ?_⟩
  rw [hc i (by omega), List.getElem_take]
/-- How many half words. -/
def dm (n : Nat) : Nat := (digs B32 n).length
theorem dm_add (m n : Nat) : dm (m + n) ≤ max (dm m) (dm n) + 1 := len_add B32_2
theorem dm_mul (m n : Nat) : dm (m * n) ≤ dm m + dm n := len_mul B32_2
theorem dm_mono {m n : Nat} (h : m ≤ n) : dm m ≤ dm n := len_mono B32_2 h
theorem dm_zero : dm 0 = 0 := by unfold dm; rw [digs_zero]; rfl
theorem dm_pos {n : Nat} (h : n ≠ 0) : 0 < dm n := by
  rcases Nat.eq_zero_or_pos (dm n) with h0 | h0
  · exact absurd ((digs_nil B32_2).1 (List.length_eq_zero_iff.1 h0)) h
  · exact h0
theorem dm_le_iff (n k : Nat) : dm n ≤ k ↔ n < B32 ^ k := len_le_iff B32_2 n k
theorem dm_dl (n : Nat) : dm n ≤ 2 * dl n := by
  have h := (dl_le_iff n (dl n)).1 (Nat.le_refl _)
  rw [dm_le_iff, Nat.pow_mul]
  have : B32 ^ 2 = B64 := by unfold B32 B64; decide
  rw [this]; exact h
set_option maxRecDepth 100000 in
set_option maxHeartbeats 1000000 in
theorem rcut_anyS (S : Nat → Prop) (v : Value) (xs : List Nat) (w : World) (h : Rd u32V w S v xs) :
    Calls Tryz.prog 89 #[v] w fun e w' => (∃ v', e = .returned v' ∧ Rd u32V w' S v' (xs.take (cutN xs xs.length))) ∧ w = w' := by
  have HV := Lib.hid h
  obtain ⟨A, n, cap, rfl, hn, hcap, hmax, hcm, hc⟩ := RdV.open_ (h.mono (S' := fun _ => True) fun _ _ => trivial)
  rw [hn]
  have HC := Lib.hid hc
  have HN := Lib.hid hn
  clear hn hc h
  go_enter Tryz.func89, Tryz.ntmps89
  go_wp2_with fail
  go_loop [3] (fun v0 => ∃ k : Nat, k ≤ n ∧ v0 = .int .i64 (k : Int) ∧ Hid (cutN xs n = cutN xs k)) (fun v0 => (intOf v0).toNat)
  case atStart => exact ⟨n, Nat.le_refl _, rfl, rfl⟩
  case round =>
    obtain ⟨k, hk, rfl, HK⟩ := hrel
    by_cases h0 : k = 0
    · have HZ : Hid (cutN xs n = 0) := by show _ = _; rw [HK.out, h0]; rfl
      subst h0
      clear HK
      go_wp2_with fail
      go_ret
      rw [HZ.out]
      exact ⟨⟨_, rfl, HV.out.take32 (Nat.zero_le _)⟩, rfl⟩
    · obtain ⟨j, rfl⟩ : ∃ j, k = j + 1 := ⟨k - 1, by omega⟩
      obtain ⟨b, off, x, rfl, hb, hx, hcell⟩ := HC.out j (by omega)
      have HS := Lib.hid (cutN_step xs hx)
      have hpos : (0 : Int) < ((j + 1 : Nat) : Int) := by omega
      have hj : (((j + 1 : Nat) : Int) - 1) = (j : Int) := by omega
      have hj2 : ((j : Int) + 1 - 1) = (j : Int) := by omega
      have hjn : (j : Int) < (n : Int) := by omega
      clear hx h0
      by_cases hx0 : x = 0
      · have HQ : Hid (cutN xs n = cutN xs j) := by show _ = _; rw [HK.out, HS.out, if_pos hx0]
        have hxb : ((x : Int) == 0) = true := by simp [hx0]
        clear hx0 HK HS
        go_wp2_with fail
        go_round
        case rel => exact ⟨j, by omega, by go_num, HQ.out⟩
        case measure => simp [intOf]
      · have HQ : Hid (cutN xs n = j + 1) := by show _ = _; rw [HK.out, HS.out, if_neg hx0]
        have hxb : ((x : Int) == 0) = false := by simp; omega
        clear hx0 HK HS
        go_wp2_with fail
        go_ret
        rw [HQ.out]
        exact ⟨⟨_, rfl, HV.out.take32 hk⟩, rfl⟩
theorem cutN_all32 {xs : List Nat} (h : ∀ x ∈ xs, x < B32) : xs.take (cutN xs xs.length) = digs B32 (val B32 xs) := by
  have := cutN_digs B32_2 h xs.length (Nat.le_refl _)
  rwa [List.take_length] at this
theorem rcut_any (v : Value) (xs : List Nat) (w : World) (h : RdV w v xs) :
    Calls Tryz.prog 89 #[v] w fun e w' => (∃ v', e = .returned v' ∧ RdV w' v' (xs.take (cutN xs xs.length))) ∧ w = w' := rcut_anyS _ v xs w h
theorem rcut_numS (S : Nat → Prop) (v : Value) (xs : List Nat) (w : World) (h : Rd u32V w S v xs) (hx : ∀ x ∈ xs, x < B32) :
    Calls Tryz.prog 89 #[v] w fun e w' => (∃ v', e = .returned v' ∧ RdMS w' S v' (val B32 xs)) ∧ w = w' :=
  (rcut_anyS S v xs w h).mono fun e w' ⟨⟨v', h1, h2⟩, h3⟩ => ⟨⟨v', h1, by unfold RdMS; rw [← cutN_all32 hx]; exact h2⟩, h3⟩
theorem rcut_num (v : Value) (xs : List Nat) (w : World) (h : RdV w v xs) (hx : ∀ x ∈ xs, x < B32) :
    Calls Tryz.prog 89 #[v] w fun e w' => (∃ v', e = .returned v' ∧ RdM w' v' (val B32 xs)) ∧ w = w' :=
  (rcut_any v xs w h).mono fun e w' ⟨⟨v', h1, h2⟩, h3⟩ => ⟨⟨v', h1, by unfold RdM; rw [← cutN_all32 hx]; exact h2⟩, h3⟩
set_option maxRecDepth 100000 in
set_option maxHeartbeats 1000000 in
theorem rnat_any (n : Nat) (w : World) (hn : n < B64) :
    Calls Tryz.prog 58 #[.int .u64 (n : Int)] w fun e w' => (∃ v', e = .returned v' ∧ RdM w' v' n) ∧ Below w.heap.size w w' := by
  obtain ⟨lo, hlo⟩ : ∃ x, x = n % B32 := ⟨_, rfl⟩
  obtain ⟨hi, hhi⟩ : ∃ x, x = n / B32 := ⟨_, rfl⟩
  have hcm : (2 : Nat) ≤ maxLen := by unfold maxLen; omega
  have hloB : lo < B32 := by rw [hlo]; exact Nat.mod_lt _ (by unfold B32; omega)
  have hhiB : hi < B32 := by rw [hhi]; unfold B32 B64 at *; omega
  have HR : Hid (RdV (w.alloc (.cells #[.int .u32 (lo : Int), .int .u32 (hi : Int)] 119)) (.slice (some ⟨w.heap.size, 0, none⟩) 2 2) [lo, hi]) :=
    ⟨_, 2, rfl, Nat.le_refl _, hcm, fun _ => ⟨_, _, rfl, trivial, fun i hi' => by
      rcases (show i = 0 ∨ i = 1 by simp at hi'; omega) with rfl | rfl
      · exact cell_of_row _ _ 0 _ _ _ (heap_alloc_new w _)
      · exact cell_of_row _ _ 1 _ _ _ (heap_alloc_new w _)⟩⟩
  have HC := Lib.hid (rcut_num _ [lo, hi] _ HR.out (fun x hx => by
    rcases (show x = lo ∨ x = hi by simpa using hx) with rfl | rfl
    · exact hloB
    · exact hhiB))
  have hval : val B32 [lo, hi] = n := by
    simp only [val]
    rw [hlo, hhi]; unfold B32; omega
  rw [hval] at HC
  have hc1 : IntKind.u32.wrap (n : Int) = (lo : Int) := by rw [IntKind.wrap_u32, hlo]; unfold B32; omega
  have hs1 : (n : Int) / 4294967296 = (hi : Int) := by rw [hhi]; unfold B32; omega
  have hc2 : IntKind.u32.wrap (hi : Int) = (hi : Int) := by rw [IntKind.wrap_u32]; unfold B32 at hhiB; omega
  clear hn hcm hval hlo hhi hloB hhiB
  go_enter Tryz.func58, Tryz.ntmps58
  go_wp2_with fail
  refine HC.out.mono ?_
  rintro e w2 ⟨⟨v', rfl, hr⟩, rfl⟩
  have HR2 := Lib.hid hr
  clear hr
  go_wp2_with fail
  go_ret
  exact ⟨⟨_, rfl, HR2.out⟩, (Below.refl _ w).alloc (Nat.le_refl _) _⟩
end Go.Proofs.YtogccnngdfancaaGreat
