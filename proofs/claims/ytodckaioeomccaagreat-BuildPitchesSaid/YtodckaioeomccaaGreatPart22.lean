/- The walks of Int, New and of the law's Of. Integers, fractions, numbers with roots in memory: opened into their cells; what a store elsewhere leaves. Steps of a drawn region in short words. Walks of fractions: Neg, Sub, Mul, Div, Sign, Cmp, Zero, Whole; one, ratio. Walks of fractions: Zero, Div, one, ratio, Whole, Same; Angle. -/
import Derived.Test.YtodckaioeomccaaGreatPart03
import Derived.Test.YtodckaioeomccaaGreatPart21
import Derived.StillTailTactics
namespace Go.Proofs.YtodckaioeomccaaGreat
open Go.RowKit
set_option linter.unusedVariables false
set_option linter.unusedSimpArgs false
set_option maxRecDepth 100000 in
set_option maxHeartbeats 1000000 in
theorem int_any (n : Int) (w : World) (h1 : -9223372036854775808 ≤ n) (h2 : n ≤ 9223372036854775807) : Calls Tryz.prog 48 #[.int .i64 n] w fun e w' => (∃ v', e = .returned v' ∧ RdQ w' v' (n : Rat)) ∧ Below w.heap.size w w' := by
 have HO := h0d (fun w' => of_any n w' h1 h2)
 have HRS : Hid (∀ w', Below (w.alloc (.cells #[.bool false, .slice none 0 0, .slice none 0 0] 32)).heap.size (w.alloc (.cells #[.bool false, .slice none 0 0, .slice none 0 0] 32)) w' → _) := fun w' h => res3 (heap_alloc_new w _) h
 have HN : Hid ((n : Rat).num = n ∧ (n : Rat).den = 1) := ⟨rfl, rfl⟩
 go_enter Tryz.func48, Tryz.ntmps48
 go_wp2_with (go_at_call 136; refine (HO.out _).mono ?_; rintro e w3 ⟨⟨v3, rfl, hz3⟩, hb3⟩; obtain ⟨a3, rfl, hr3⟩ := hz3; obtain ⟨A3, n3, c3, rfl⟩ := hr3.slice; have HR3 := h0d hr3; have HB3 := h0d hb3; obtain ⟨q0, q1, q2, q3, q4, q5⟩ := HRS.out _ hb3; clear hr3 hb3)
 have hbw : Below w.heap.size w w3 := ((Below.refl _ w).alloc (Nat.le_refl _) _).trans (HB3.out.mono (by simp))
 exact bodyPost_ret (v := .agg #[.bool (decide (n < 0)), .slice A3 n3 c3, .slice none 0 0]) (by simp [results, Tryz.results48, go_sem, q0, q1, q2]) rfl ⟨⟨_, rfl, _, _, by rw [HN.out.1], by rw [HN.out.1]; exact HR3.out.set3 q0 q1 q2 _ _ _, by rw [HN.out.2]; exact RdN.nil_ _⟩, ((hbw.setCell (Nat.le_refl _) _).setCell (Nat.le_refl _) _).setCell (Nat.le_refl _) _⟩
def ratio (n d : Int) : Rat := mkRat (if d < 0 then -n else n) d.natAbs
theorem ratio_signed (n d : Int) (hd : d ≠ 0) : mkRat (signed (decide (n < 0) != decide (d < 0)) n.natAbs) d.natAbs = ratio n d := by
 unfold ratio
 congr 1
 unfold signed
 by_cases h1 : n < 0 <;> by_cases h2 : d < 0 <;> simp [h1, h2] <;> omega
set_option maxRecDepth 100000 in
set_option maxHeartbeats 4000000 in
theorem new_any (n d : Int) (w : World) (h1 : -9223372036854775808 ≤ n) (h2 : n ≤ 9223372036854775807) (h3 : -9223372036854775808 ≤ d) (h4 : d ≤ 9223372036854775807) (hd : d ≠ 0) :
  Calls Tryz.prog 121 #[.int .i64 n, .int .i64 d] w fun e w' => (∃ v', e = .returned (.tuple #[v', .int .i64 0]) ∧ RdQ w' v' (ratio n d)) ∧ Below w.heap.size w w' := by
 have hdb : (d == 0) = false := by simp [hd]
 have HO1 := h0d (fun w' => of_any n w' h1 h2)
 have HO2 := h0d (fun w' => of_any d w' h3 h4)
 have HRQ := h0d (ratio_signed n d hd)
 have HD0 : Hid (d.natAbs ≠ 0) := by show _ ≠ _; omega
 have HN6 : Hid (dl n.natAbs ≤ 900000 ∧ dl d.natAbs ≤ 900000) := ⟨Nat.le_trans (dl_small (by unfold B64; omega)) (by omega), Nat.le_trans (dl_small (by unfold B64; omega)) (by omega)⟩
 have HSA := h0d signed_abs
 obtain ⟨ng, hng⟩ : ∃ b, b = decide (n < 0) := ⟨_, rfl⟩
 obtain ⟨nh, hnh⟩ : ∃ b, b = decide (d < 0) := ⟨_, rfl⟩
 rw [← hng, ← hnh] at HRQ
 obtain ⟨nx, hnx⟩ : ∃ b, b = (ng != nh) := ⟨_, rfl⟩
 rw [← hnx] at HRQ
 have HNG := h0d hng
 have HNH := h0d hnh
 have hnx' : (!(ng == nh)) = nx := hnx.symm
 have HW0 : Hid (Below w.heap.size w (w.alloc (.cells #[.bool false, .slice none 0 0, .slice none 0 0] 32))) := (Below.refl _ w).alloc (Nat.le_refl _) _
 have HRS : Hid (∀ w', Below (w.alloc (.cells #[.bool false, .slice none 0 0, .slice none 0 0] 32)).heap.size (w.alloc (.cells #[.bool false, .slice none 0 0, .slice none 0 0] 32)) w' → _) := fun w' h => res3 (heap_alloc_new w _) h
 clear hng hnh hnx hd
 go_enter Tryz.func121, Tryz.ntmps121
 go_wp2_with fail
 refine (HO1.out _).mono ?_
 rintro e w3 ⟨⟨v3, rfl, hz3⟩, hb3⟩
 obtain ⟨a3, rfl, hr3⟩ := hz3
 obtain ⟨A3, n3, c3, rfl⟩ := hr3.slice
 rw [← HNG.out]
 have HR3 := h0d hr3
 have HB3 := h0d hb3
 clear hr3 hb3
 go_wp2_with fail
 refine (HO2.out _).mono ?_
 rintro e w4 ⟨⟨v4, rfl, hz4⟩, hb4⟩
 obtain ⟨a4, rfl, hr4⟩ := hz4
 obtain ⟨A4, n4, c4, rfl⟩ := hr4.slice
 rw [← HNH.out]
 have HR4 := h0d hr4
 have HR34 := h0d (HR3.out.below hb4)
 have HB4 : Hid (Below (w.alloc (.cells #[.bool false, .slice none 0 0, .slice none 0 0] 32)).heap.size (w.alloc (.cells #[.bool false, .slice none 0 0, .slice none 0 0] 32)) w4) := HB3.out.trans (hb4.mono HB3.out.size)
 clear hr4 hb4
 go_wp2_with fail
 obtain ⟨W2, hW2⟩ : ∃ W2, W2 = ((w4.alloc (Obj.cells #[Value.bool ng, Value.slice A3 n3 c3] 27)).alloc (Obj.cells #[Value.bool nh, Value.slice A4 n4 c4] 27)) := ⟨_, rfl⟩
 have hb2w : Below w4.heap.size w4 W2 := by rw [hW2]; exact ((Below.refl _ w4).alloc (by simp <;> omega) _).alloc (by simp <;> omega) _
 have hsz2 : w4.heap.size + 2 ≤ W2.heap.size := by rw [hW2]; simp
 have HARG0 : Hid (∀ w', Below W2.heap.size W2 w' → _) := fun w' h => resL (cs := #[Value.bool ng, Value.slice A3 n3 c3]) (b := w4.heap.size) (t := 27) (by rw [hW2, Below.heap_alloc _ _ _ (by simp <;> omega)]; have hx := heap_alloc_new w4 (.cells #[Value.bool ng, Value.slice A3 n3 c3] 27); simpa using hx) h
 have HARG1 : Hid (∀ w', Below W2.heap.size W2 w' → _) := fun w' h => resL (cs := #[Value.bool nh, Value.slice A4 n4 c4]) (b := w4.heap.size + 1) (t := 27) (by rw [hW2]; have hx := heap_alloc_new (w4.alloc (Obj.cells #[Value.bool ng, Value.slice A3 n3 c3] 27)) (.cells #[Value.bool nh, Value.slice A4 n4 c4] 27); simpa using hx) h
 have HB2W := h0d hb2w
 have HSZ2 := h0d hsz2
 have HW2 := h0d hW2
 have HBs : Hid (Below W2.heap.size W2 W2) := Below.refl _ _
 clear hW2 hb2w hsz2
 rw [← HW2.out]
 have HRES0 : Hid (∀ w', Below W2.heap.size W2 w' → _) := fun w' h => resL (cs := #[.bool false, .slice none 0 0, .slice none 0 0]) (b := w.heap.size) (t := 32) ((HB2W.out.block _ (by have := HB4.out.size; simp at this; omega)).trans ((HB4.out.block _ (by simp)).trans (heap_alloc_new w _))) h
 have HBW2 : Hid (Below w.heap.size w W2) := HW0.out.trans ((HB4.out.trans (HB2W.out.mono HB4.out.size)).mono HW0.out.size)
 have HBD1 : Hid (Below W2.heap.size W2 W2.drew) := HBs.out.drew
 have dd0 := HARG0.out _ HBD1.out
 have dd1 := HARG1.out _ HBD1.out
 refine seq_start (S := fun w' => w'.cell? ⟨w4.heap.size, 0, none⟩ = some (Value.bool ng) ∧ w'.cell? ⟨w4.heap.size, 1, none⟩ = some (Value.slice A3 n3 c3) ∧ w'.cell? ⟨w4.heap.size + 1, 0, none⟩ = some (Value.bool nh) ∧ w'.cell? ⟨w4.heap.size + 1, 1, none⟩ = some (Value.slice A4 n4 c4)) (by kernel_rfl) (by kernel_rfl) (by exact ⟨(dd0 0).1, (dd0 1).1, (dd1 0).1, (dd1 1).1⟩) ?_
 clear dd0 dd1
 repeat (first | refine tk0 (h := ?_) | refine tkG (h := ?_) | refine skG (h := ?_))
 refine seq_pull 1 ?_
 simp only [places, pull]
 (first
  | refine tk0 (h := ?_)
  | refine tkG (h := ?_)
  | refine skG (h := ?_))
 refine seq_pull 1 ?_
 simp only [places, pull]
 (first
  | refine tk0 (h := ?_)
  | refine tkG (h := ?_)
  | refine skG (h := ?_))
 refine seq_op (by kernel_rfl) (by rfl) (fun K hK => ?_)
 go_simp
 refine (whole_any _ _ _ _ (HR34.out.below (HB2W.out.trans (HBD1.out.mono HB2W.out.size)))).mono ?_
 rintro e w5 ⟨⟨v5, rfl, hz5⟩, hbx⟩
 have HZ5 := h0d hz5
 obtain ⟨a5, rfl, hr5⟩ := hz5
 obtain ⟨A5, n5, c5, rfl⟩ := hr5.slice
 have HB_w5 : Hid (Below W2.heap.size W2 w5) := HBD1.out.trans (hbx.mono HBD1.out.size)
 have dd0 := HARG0.out _ HB_w5.out
 have dd1 := HARG1.out _ HB_w5.out
 refine hK.out _ _ (by exact ⟨(dd0 0).1, (dd0 1).1, (dd1 0).1, (dd1 1).1⟩) ?_
 clear hK K dd0 dd1 hbx hr5
 repeat (first | refine tk0 (h := ?_) | refine tkG (h := ?_) | refine skG (h := ?_))
 refine seq_op (by kernel_rfl) (by rfl) (fun K hK => ?_)
 go_simp
 refine (over_any _ _ _ d.natAbs _ HZ5.out (HR4.out.below (HB2W.out.trans (HB_w5.out.mono HB2W.out.size))) HD0.out (by rw [HSA.out]; exact HN6.out.1) HN6.out.2).mono ?_
 rintro e w9 ⟨⟨v9, rfl, hz9⟩, hbx⟩
 rw [HRQ.out] at hz9
 obtain ⟨a9, b9, rfl, hr9, hs9⟩ := hz9
 obtain ⟨A9, n9, c9, rfl⟩ := hr9.slice
 obtain ⟨B9, m9, k9, rfl⟩ := hs9.slice
 have HR9 := h0d hr9
 have HS9 := h0d hs9
 have HB_w9 : Hid (Below W2.heap.size W2 w9) := HB_w5.out.trans (hbx.mono HB_w5.out.size)
 have dd0 := HARG0.out _ HB_w9.out
 have dd1 := HARG1.out _ HB_w9.out
 refine hK.out _ _ (by exact ⟨(dd0 0).1, (dd0 1).1, (dd1 0).1, (dd1 1).1⟩) ?_
 clear hK K dd0 dd1 hbx hr9 hs9
 repeat (first | refine tk0 (h := ?_) | refine tkG (h := ?_) | refine skG (h := ?_))
 have hl4 : w.heap.size < w4.heap.size := by have := HB4.out.size; simp at this; omega
 have hn1 : w.heap.size ≠ w4.heap.size := by omega
 have hn2 : w4.heap.size ≠ w.heap.size := by omega
 have hn3 : w.heap.size ≠ w4.heap.size + 1 := by omega
 have hn4 : w4.heap.size + 1 ≠ w.heap.size := by omega
 refine seq_op (by kernel_rfl) (by rfl) (fun K hK => ?_)
 have qq := HRES0.out _ HB_w9.out
 have q0 := (qq 0).1
 have q1 := (qq 1).1
 have q2 := (qq 2).1
 have qf0 := (qq 0).2
 have qf1 := (qq 1).2
 have qf2 := (qq 2).2
 simp only [List.getElem?_toArray, List.getElem?_cons_zero, List.getElem?_cons_succ] at q0 q1 q2
 clear qq
 go_simp
 have dd0 := HARG0.out _ HB_w9.out
 have dd1 := HARG1.out _ HB_w9.out
 refine hK.out _ _ (by go_simp; (first | done | exact ⟨(dd0 0).1, (dd0 1).1, (dd1 0).1, (dd1 1).1⟩)) ?_
 clear hK K dd0 dd1
 repeat (first | refine tk0 (h := ?_) | refine tkG (h := ?_) | refine skG (h := ?_))
 refine seq_done (by kernel_rfl) ?_
 go_wp2_with fail
 have hbw := HBW2.out.trans (HB_w9.out.mono HBW2.out.size)
 exact bodyPost_ret (v := .tuple #[.agg #[.bool (decide ((ratio n d).num < 0)), .slice A9 n9 c9, .slice B9 m9 k9], .int .i64 0]) (by simp [results, Tryz.results121, go_sem, q0, q1, q2]) rfl ⟨⟨_, rfl, _, _, rfl, HR9.out.set3 q0 q1 q2 _ _ _, HS9.out.set3 q0 q1 q2 _ _ _⟩, ((hbw.setCell (by simp <;> omega) _).setCell (by simp <;> omega) _).setCell (by simp <;> omega) _⟩
def ofRatio (n d : Int) : Rat := if d = 0 then (n : Rat) else ratio n d
theorem lof_agg (n d : Int) (w : World) (h1 : -9223372036854775808 ≤ n) (h2 : n ≤ 9223372036854775807) (h3 : -9223372036854775808 ≤ d) (h4 : d ≤ 9223372036854775807) :
  Calls Tryz.prog 27 #[.agg #[.int .i64 n, .int .i64 d]] w fun e w' => (∃ v', e = .returned v' ∧ RdQ w' v' (ofRatio n d)) ∧ Below w.heap.size w w' := by
 obtain ⟨W2, hW2⟩ : ∃ W2, W2 = (w.alloc (Obj.cells #[Value.int .i64 n, .int .i64 d] 59)).alloc (Obj.cells #[Value.bool false, Value.slice none 0 0, Value.slice none 0 0] 32) := ⟨_, rfl⟩
 have HB2 : Hid (Below w.heap.size w W2) := by rw [hW2]; exact ((Below.refl _ _).alloc (Nat.le_refl _) _).alloc (by simp) _
 have HRS : Hid (∀ w', Below W2.heap.size W2 w' → _) := fun w' h => res3 (c0 := .bool false) (c1 := .slice none 0 0) (c2 := .slice none 0 0) (b := w.heap.size + 1) (t := 32) (by rw [hW2]; have := heap_alloc_new (w.alloc (Obj.cells #[Value.int .i64 n, .int .i64 d] 59)) (.cells #[Value.bool false, Value.slice none 0 0, Value.slice none 0 0] 32); simpa using this) h
 have HW2 := h0d hW2
 have HO1 := h0d (fun w' => int_any n w' h1 h2)
 clear hW2
 by_cases hd : d = 0
 ·have hdb : (d == 0) = true := by simp [hd]
  have HE : Hid (ofRatio n d = (n : Rat)) := by show _ = _; unfold ofRatio; rw [if_pos hd]
  rw [HE.out]
  clear hd
  go_enter Tryz.func27, Tryz.ntmps27
  go_wp2_with fail
  rw [← HW2.out]
  refine (HO1.out _).mono ?_
  rintro e w3 ⟨⟨v3, rfl, hz3⟩, hb3⟩
  obtain ⟨a3, b3, rfl, hr3, hs3⟩ := hz3
  obtain ⟨A3, n3, c3, rfl⟩ := hr3.slice
  obtain ⟨B3, m3, k3, rfl⟩ := hs3.slice
  obtain ⟨q0, q1, q2, q3, q4, q5⟩ := HRS.out _ hb3
  have HR3 := h0d hr3
  have HS3 := h0d hs3
  have hbw : Below w.heap.size w w3 := HB2.out.trans (hb3.mono HB2.out.size)
  have HBW := h0d hbw
  clear hr3 hs3 hb3 hbw
  go_wp2_with fail
  exact bodyPost_ret (v := .agg #[.bool (decide ((n : Rat).num < 0)), .slice A3 n3 c3, .slice B3 m3 k3]) (by simp [results, Tryz.results27, go_sem, q0, q1, q2]) rfl ⟨⟨_, rfl, _, _, rfl, HR3.out.set3 q0 q1 q2 _ _ _, HS3.out.set3 q0 q1 q2 _ _ _⟩, ((HBW.out.setCell (by simp <;> omega) _).setCell (by simp <;> omega) _).setCell (by simp <;> omega) _⟩
 ·have hdb : (d == 0) = false := by simp [hd]
  have HE : Hid (ofRatio n d = ratio n d) := by show _ = _; unfold ofRatio; rw [if_neg hd]
  rw [HE.out]
  have HO2 := h0d (fun w' => new_any n d w' h1 h2 h3 h4 hd)
  clear hd
  go_enter Tryz.func27, Tryz.ntmps27
  go_wp2_with fail
  rw [← HW2.out]
  refine (HO2.out _).mono ?_
  rintro e w3 ⟨⟨v3, rfl, hz3⟩, hb3⟩
  obtain ⟨a3, b3, rfl, hr3, hs3⟩ := hz3
  obtain ⟨A3, n3, c3, rfl⟩ := hr3.slice
  obtain ⟨B3, m3, k3, rfl⟩ := hs3.slice
  obtain ⟨W4, hW4⟩ : ∃ W4, W4 = w3.alloc (Obj.cells #[Value.bool (decide ((ratio n d).num < 0)), .slice A3 n3 c3, .slice B3 m3 k3] 32) := ⟨_, rfl⟩
  have hb4 : Below W2.heap.size W2 W4 := by rw [hW4]; exact hb3.alloc hb3.size _
  obtain ⟨q0, q1, q2, q3, q4, q5⟩ := HRS.out _ hb4
  have HR3 : Hid (RdN W4 (.slice A3 n3 c3) (ratio n d).num.natAbs) := by rw [hW4]; exact hr3.below ((Below.refl _ _).alloc (Nat.le_refl _) _)
  have HS3 : Hid (RdN W4 (.slice B3 m3 k3) (den1 (ratio n d).den)) := by rw [hW4]; exact hs3.below ((Below.refl _ _).alloc (Nat.le_refl _) _)
  have HBW : Hid (Below w.heap.size w W4) := HB2.out.trans (hb4.mono HB2.out.size)
  rw [hW4] at q0 q1 q2 q3 q4 q5 HR3 HS3 HBW
  clear hr3 hs3 hb3 hb4 hW4
  go_wp2_with fail
  exact bodyPost_ret (v := .agg #[.bool (decide ((ratio n d).num < 0)), .slice A3 n3 c3, .slice B3 m3 k3]) (by simp [results, Tryz.results27, go_sem, q0, q1, q2]) rfl ⟨⟨_, rfl, _, _, rfl, HR3.out.set3 q0 q1 q2 _ _ _, HS3.out.set3 q0 q1 q2 _ _ _⟩, ((HBW.out.setCell (by simp <;> omega) _).setCell (by simp <;> omega) _).setCell (by simp <;> omega) _⟩
end Go.Proofs.YtodckaioeomccaaGreat
namespace Go.Proofs.YtodckaioeomccaaGreat
open Go.RowKit
set_option linter.unusedVariables false
set_option linter.unusedSimpArgs false
def notWB : Value → Bool
 | .int .i64 _ => true
 | .int _ _ => false
 | _ => true
def Wd (w w' : World) : Prop := ∀ (b i : Nat) (u : Value), notWB u = false → w.cell? ⟨b, i, none⟩ = some u → w'.cell? ⟨b, i, none⟩ = some u
theorem Wd.refl (w : World) : Wd w w := fun _ _ _ _ h => h
theorem Wd.trans {a b c : World} (h : Wd a b) (k : Wd b c) : Wd a c := fun x i u hu e => k x i u hu (h x i u hu e)
theorem cell_lt {w : World} {b i : Nat} {u : Value} (h : w.cell? ⟨b, i, none⟩ = some u) : b < w.heap.size := by
 rcases Nat.lt_or_ge b w.heap.size with h' | h'
 ·exact h'
 ·unfold World.cell? at h
  simp [Array.getElem?_eq_none h'] at h
theorem Wd.of_below {w w' : World} (h : Below w.heap.size w w') : Wd w w' := fun b i u _ e => (h.cell (p := ⟨b, i, none⟩) (cell_lt e)).trans e
theorem Rd.wd {α : Type} {f : α → Value} {w w' : World} {S : Nat → Prop} {v : Value} {xs : List α} (hf : ∀ x, notWB (f x) = false) (h : Rd f w S v xs) (hw : Wd w w') : Rd f w' S v xs := by
 obtain ⟨A, cap, rfl, h1, h2, h3⟩ := h
 refine ⟨A, cap, rfl, h1, h2, fun hn => ?_⟩
 obtain ⟨b, off, rfl, hb, hc⟩ := h3 hn
 exact ⟨b, off, rfl, hb, fun i hi => hw _ _ _ (hf _) (hc i hi)⟩
theorem RdN.wd {w w' : World} {v : Value} {n : Nat} (h : RdN w v n) (hw : Wd w w') : RdN w' v n := Rd.wd (fun _ => rfl) h hw
theorem RdZ.wd {w w' : World} {v : Value} {z : Int} (h : RdZ w v z) (hw : Wd w w') : RdZ w' v z := let ⟨a, h1, h2⟩ := h; ⟨a, h1, h2.wd hw⟩
theorem RdQ.wd {w w' : World} {v : Value} {x : Rat} (h : RdQ w v x) (hw : Wd w w') : RdQ w' v x := let ⟨a, b, h1, h2, h3⟩ := h; ⟨a, b, h1, h2.wd hw, h3.wd hw⟩
theorem blk_lt {w : World} {b : Nat} {o : Obj} (h : w.heap[b]? = some o) : b < w.heap.size := (Array.getElem?_eq_some_iff.1 h).1
theorem blk_below {w w' : World} {b : Nat} {o : Obj} (h : w.heap[b]? = some o) (hb : Below w.heap.size w w') : w'.heap[b]? = some o := (hb.block b (blk_lt h)).trans h
theorem blk_cell {w : World} {b t : Nat} {cs : Array Value} (h : w.heap[b]? = some (.cells cs t (0, 0))) (i : Nat) : w.cell? ⟨b, i, none⟩ = cs[i]? := cell_of_row w b i _ t (0, 0) h
theorem blk_free {w : World} {b t : Nat} {cs : Array Value} (h : w.heap[b]? = some (.cells cs t (0, 0))) (i : Nat) : w.frozen? ⟨b, i, none⟩ = false := frozen_of_row w b i _ t h
theorem blk_set {w : World} {b t i : Nat} {cs : Array Value} (u : Value) (h : w.heap[b]? = some (.cells cs t (0, 0))) : (w.setCell ⟨b, i, none⟩ u).heap[b]? = some (.cells (cs.setIfInBounds i u) t (0, 0)) := by
 have hlt := blk_lt h
 have h' : w.heap[b] = .cells cs t (0, 0) := by simpa [Array.getElem?_eq_getElem hlt] using h
 show (w.heap.modify b _)[b]? = _
 rw [Array.getElem?_eq_getElem (by simpa using hlt), Array.getElem_modify_self, h']
 rfl
theorem blk_other {w : World} {b b' i : Nat} {o : Obj} (u : Value) (h : w.heap[b]? = some o) (hne : b ≠ b') : (w.setCell ⟨b', i, none⟩ u).heap[b]? = some o := (Below.heap_setCell w ⟨b', i, none⟩ u b hne).trans h
def NoW (w : World) (b : Nat) : Prop := ∀ (i : Nat) (u : Value), w.cell? ⟨b, i, none⟩ = some u → notWB u = true
theorem NoW.of {w : World} {b t : Nat} {cs : Array Value} (h : w.heap[b]? = some (.cells cs t (0, 0))) (hc : cs.toList.all notWB = true) : NoW w b := fun i u e => by
 rw [blk_cell h i] at e
 exact List.all_eq_true.1 hc u (Array.mem_toList_iff.2 (Array.mem_of_getElem? e))
def Wset (b : Nat) (w w' : World) : Prop := Wd w w' ∧ NoW w' b
theorem Wset.start {w : World} {b : Nat} (h : NoW w b) : Wset b w w := ⟨.refl _, h⟩
theorem Wset.set {w w' : World} {b i : Nat} {u : Value} (h : Wset b w w') (hu : notWB u = true) : Wset b w (w'.setCell ⟨b, i, none⟩ u) := by
 refine ⟨h.1.trans fun b' i' x hx e => ?_, fun i' x e => ?_⟩
 ·by_cases hp : (⟨b', i', none⟩ : Addr) = ⟨b, i, none⟩
  ·simp only [Addr.mk.injEq] at hp
   obtain ⟨rfl, rfl, _⟩ := hp
   have := h.2 _ _ e
   rw [hx] at this; cases this
  ·rw [World.cell?_setCell_other w' ⟨b, i, none⟩ ⟨b', i', none⟩ u (fun e => hp e.symm)]; exact e
 ·by_cases hp : i' = i
  ·subst hp
   obtain ⟨y, hy⟩ : ∃ y, w'.cell? ⟨b, i', none⟩ = some y := by
    unfold World.cell? World.setCell at e
    unfold World.cell?
    simp only [Array.getElem?_modify, if_true] at e
    generalize w'.heap[b]? = q at e ⊢
    match q, e with
    | some (.cells c t m), e =>
     simp only [Option.map_some, Option.isSome_none, Bool.false_eq_true, if_false] at e ⊢
     rcases Nat.lt_or_ge i' c.size with h1 | h1
     ·exact ⟨_, Array.getElem?_eq_getElem h1⟩
     ·rw [Array.getElem?_eq_none (by simpa using h1)] at e; cases e
   rw [World.cell?_setCell_same _ _ _ hy] at e
   exact (Option.some.inj e) ▸ hu
  ·rw [World.cell?_setCell_other w' ⟨b, i, none⟩ ⟨b, i', none⟩ u (fun e => hp (by simp only [Addr.mk.injEq] at e; exact e.2.1.symm))] at e
   exact h.2 _ _ e
def setsW (w : World) (b o : Nat) : List Value → World
 | [] => w
 | v :: vs => setsW (w.setCell ⟨b, o, none⟩ v) b (o + 1) vs
theorem sets_wset {b : Nat} {w : World} : ∀ {vs : List Value} {o : Nat} {w' : World}, Wset b w w' → vs.all notWB = true → Wset b w (setsW w' b o vs)
 | [], _, _, h, _ => h
 | v :: vs, o, w', h, hv => by
  simp only [List.all_cons, Bool.and_eq_true] at hv
  exact sets_wset (vs := vs) (h.set hv.1) hv.2
theorem sets_wd {b o : Nat} {w : World} {vs : List Value} (h : NoW w b) (hv : vs.all notWB = true) : Wd w (setsW w b o vs) := (sets_wset (.start h) hv).1
theorem sets_other {b b' : Nat} {ob : Obj} : ∀ {vs : List Value} {o : Nat} {w : World}, w.heap[b]? = some ob → b ≠ b' → (setsW w b' o vs).heap[b]? = some ob
 | [], _, _, h, _ => h
 | v :: vs, o, w, h, hne => sets_other (vs := vs) (blk_other v h hne) hne
theorem sets_size {b : Nat} : ∀ {vs : List Value} {o : Nat} {w : World}, (setsW w b o vs).heap.size = w.heap.size
 | [], _, _ => rfl
 | v :: vs, o, w => (sets_size (vs := vs)).trans (by simp [World.setCell])
theorem sets_below {b B : Nat} {w : World} (hb : B ≤ b) : ∀ {vs : List Value} {o : Nat} {w' : World}, Below B w w' → Below B w (setsW w' b o vs)
 | [], _, _, h => h
 | v :: vs, o, w', h => sets_below hb (vs := vs) (h.setCell hb v)
theorem sets_blk {b t : Nat} : ∀ {vs p q r : List Value} {w : World}, w.heap[b]? = some (.cells (p ++ q ++ r).toArray t (0, 0)) → q.length = vs.length → (setsW w b p.length vs).heap[b]? = some (.cells (p ++ vs ++ r).toArray t (0, 0))
 | [], p, q, r, w, h, hl => by
  rw [List.length_eq_zero_iff.1 hl] at h
  exact h
 | v :: vs, p, q, r, w, h, hl => by
  match q, hl with
  | x :: q, hl =>
   have h1 := blk_set (i := p.length) v h
   have e : (p ++ x :: q ++ r).toArray.setIfInBounds p.length v = ((p ++ [v]) ++ q ++ r).toArray := by
    simp [List.setIfInBounds_toArray]
   rw [e] at h1
   have := sets_blk (vs := vs) h1 (by simpa using hl)
   rw [show (p ++ [v]).length = p.length + 1 by simp] at this
   show (setsW (w.setCell ⟨b, p.length, none⟩ v) b (p.length + 1) vs).heap[b]? = _
   simpa using this
theorem RdN.open {w : World} {v : Value} {n : Nat} (h : RdN w v n) : ∃ A k c, v = .slice A k c ∧ RdN w (.slice A k c) n := by
 obtain ⟨A, k, c, rfl⟩ := h.slice
 exact ⟨_, _, _, rfl, h⟩
theorem RdZ.open {w : World} {v : Value} {z : Int} (h : RdZ w v z) : ∃ g A k c, v = .agg #[.bool g, .slice A k c] ∧ RdZ w (.agg #[.bool g, .slice A k c]) z := by
 obtain ⟨a, rfl, ha⟩ := h
 obtain ⟨A, k, c, rfl⟩ := ha.slice
 exact ⟨_, _, _, _, rfl, _, rfl, ha⟩
theorem RdZ.sign {w : World} {g : Bool} {s : Value} {z : Int} (h : RdZ w (.agg #[.bool g, s]) z) : g = decide (z < 0) := by
 obtain ⟨a, e, _⟩ := h
 injection e with e; injection e with e; simp at e; exact e.1
theorem RdZ.abs {w : World} {g : Bool} {s : Value} {z : Int} (h : RdZ w (.agg #[.bool g, s]) z) : RdN w s z.natAbs := by
 obtain ⟨a, e, ha⟩ := h
 injection e with e; injection e with e; simp at e; exact e.2 ▸ ha
theorem RdZ.mk {w : World} {g : Bool} {s : Value} {z : Int} (hg : g = decide (z < 0)) (h : RdN w s z.natAbs) : RdZ w (.agg #[.bool g, s]) z := ⟨s, by rw [hg], h⟩
theorem RdQ.open {w : World} {v : Value} {x : Rat} (h : RdQ w v x) : ∃ g A k c B m d, v = .agg #[.bool g, .slice A k c, .slice B m d] ∧ RdQ w (.agg #[.bool g, .slice A k c, .slice B m d]) x := by
 obtain ⟨a, b, rfl, ha, hb⟩ := h
 obtain ⟨A, k, c, rfl⟩ := ha.slice
 obtain ⟨B, m, d, rfl⟩ := hb.slice
 exact ⟨_, _, _, _, _, _, _, rfl, _, _, rfl, ha, hb⟩
theorem RdQ.num {w : World} {g : Bool} {s t : Value} {x : Rat} (h : RdQ w (.agg #[.bool g, s, t]) x) : RdZ w (.agg #[.bool g, s]) x.num := by
 obtain ⟨a, b, e, ha, hb⟩ := h
 injection e with e; injection e with e; simp at e
 obtain ⟨rfl, rfl, rfl⟩ := e
 exact ⟨_, rfl, ha⟩
theorem RdQ.den {w : World} {g : Bool} {s t : Value} {x : Rat} (h : RdQ w (.agg #[.bool g, s, t]) x) : RdN w t (den1 x.den) := by
 obtain ⟨a, b, e, ha, hb⟩ := h
 injection e with e; injection e with e; simp at e
 obtain ⟨rfl, rfl, rfl⟩ := e
 exact hb
theorem RdQ.mk {w : World} {g : Bool} {s t : Value} {x : Rat} (h : RdZ w (.agg #[.bool g, s]) x.num) (k : RdN w t (den1 x.den)) : RdQ w (.agg #[.bool g, s, t]) x := ⟨_, _, by rw [h.sign], h.abs, k⟩
class WdSt (p : Prop) (w w' : World) (q : outParam Prop) : Prop where
 st : Wd w w' → p → q
theorem kW {p q : Prop} {w w' : World} [WdSt p w w' q] (hT : Wd w w') (h : Hid p) : Hid q := WdSt.st hT h.out
instance wdRdN (w w' : World) (v : Value) (n : Nat) : WdSt (RdN w v n) w w' (RdN w' v n) := ⟨fun hT h => h.wd hT⟩
instance wdRdZ (w w' : World) (v : Value) (z : Int) : WdSt (RdZ w v z) w w' (RdZ w' v z) := ⟨fun hT h => h.wd hT⟩
instance wdRdQ (w w' : World) (v : Value) (x : Rat) : WdSt (RdQ w v x) w w' (RdQ w' v x) := ⟨fun hT h => h.wd hT⟩
theorem st_al0 (w : World) (cs : Array Value) (t : TypeId) : ∃ W, Hid (W = w.alloc (.cells cs t)) ∧ Hid (W.heap[w.heap.size]? = some (.cells cs t (0, 0))) ∧ Hid (W.heap.size = w.heap.size + 1) ∧ Below w.heap.size w W :=
 ⟨_, rfl, heap_alloc_new w _, by show _ = _; simp, (Below.refl _ _).alloc (Nat.le_refl _) _⟩
theorem st_alk {w w0 : World} (k k' : Nat) (cs : Array Value) (t : TypeId) (hs : Hid (w.heap.size = w0.heap.size + k)) (hk : k' = k + 1) :
  ∃ W, Hid (W = w.alloc (.cells cs t)) ∧ Hid (W.heap[w0.heap.size + k]? = some (.cells cs t (0, 0))) ∧ Hid (W.heap.size = w0.heap.size + k') ∧ Below w.heap.size w W := by
 refine ⟨_, rfl, ?_, ?_, (Below.refl _ _).alloc (Nat.le_refl _) _⟩
 ·show _ = _; rw [← hs.out]; exact heap_alloc_new w _
 ·show _ = _; have := hs.out; simp; omega
theorem kB {w w' : World} {b : Nat} {o : Obj} (h : Hid (w.heap[b]? = some o)) (hb : Below w.heap.size w w') : Hid (w'.heap[b]? = some o) := blk_below h hb
theorem kU {a w w' : World} (h : Hid (Below a.heap.size a w)) (k : Below w.heap.size w w') : Hid (Below a.heap.size a w') := h.out.trans (k.mono h.out.size)
theorem kM1 {w W : World} {b o : Nat} {v : Value} (h : Hid (W = w.setCell ⟨b, o, none⟩ v)) : W = setsW w b o [v] := h
theorem kN {w W : World} {b o t : Nat} {cs : Array Value} {vs : List Value} (hS : W = setsW w b o vs) (h : Hid (w.heap[b]? = some (.cells cs t (0, 0)))) (h1 : cs.toList.all notWB = true) (h2 : vs.all notWB = true) : Wd w W := by
 rw [hS]; exact sets_wd (NoW.of h.out h1) h2
theorem kO {w W : World} {b b' o : Nat} {ob : Obj} {vs : List Value} (hS : W = setsW w b' o vs) (h : Hid (w.heap[b]? = some ob)) (hne : b ≠ b') : Hid (W.heap[b]? = some ob) := by
 rw [hS]; exact sets_other h.out hne
def putL (o : Nat) (vs cs : List Value) : List Value := cs.take o ++ vs ++ cs.drop (o + vs.length)
theorem kP {w W : World} {b o t : Nat} {vs cs ds : List Value} (hS : W = setsW w b o vs) (h : Hid (w.heap[b]? = some (.cells cs.toArray t (0, 0)))) (h1 : Nat.ble (o + vs.length) cs.length = true) (h2 : putL o vs cs = ds) :
  Hid (W.heap[b]? = some (.cells ds.toArray t (0, 0))) := by
 have h1 := Nat.le_of_ble_eq_true h1
 have e : cs = cs.take o ++ (cs.drop o).take vs.length ++ cs.drop (o + vs.length) := by
  rw [← List.drop_drop, List.append_assoc, List.take_append_drop, List.take_append_drop]
 have h' := h.out
 rw [e] at h'
 have := sets_blk (vs := vs) h' (by rw [List.length_take, List.length_drop]; omega)
 rw [List.length_take, Nat.min_eq_left (by omega)] at this
 show _ = _
 rw [hS, ← h2]
 exact this
theorem kPf {w W : World} {b t : Nat} {vs cs : List Value} (hS : W = setsW w b 0 vs) (h : Hid (w.heap[b]? = some (.cells cs.toArray t (0, 0)))) (hl : cs.length = vs.length) : Hid (W.heap[b]? = some (.cells vs.toArray t (0, 0))) :=
 kP hS h (Nat.ble_eq_true_of_le (by omega)) (by unfold putL; rw [List.take_zero, List.nil_append, Nat.zero_add, ← hl, List.drop_length, List.append_nil])
theorem tt {a b c : World} (h : Below a.heap.size a b) (k : Below b.heap.size b c) : Below a.heap.size a c := h.trans (k.mono h.size)
theorem klt {w : World} {b : Nat} {o : Obj} (h : Hid (w.heap[b]? = some o)) : Hid (b < w.heap.size) := blk_lt h.out
theorem ksz {a w : World} (h : Hid (Below a.heap.size a w)) : Hid (a.heap.size ≤ w.heap.size) := h.out.size
theorem nlt {a b : Nat} (h : Nat.ble (a + 1) b = true := by rfl) : a < b := Nat.le_of_ble_eq_true h
theorem mV {P : Program} {f : FuncId} {ar : Array Value} {w : World} {v : Value} {K : Ending → World → Prop} (h : Calls P f ar w fun e w' => e = .returned v ∧ Below w.heap.size w w') (k : ∀ w', Below w.heap.size w w' → K (.returned v) w') : Calls P f ar w K :=
 h.mono fun e w' ⟨he, hb⟩ => by subst he; exact k w' hb
theorem mN {P : Program} {f : FuncId} {ar : Array Value} {w : World} {R : World → Value → Prop} {K : Ending → World → Prop} (h : Calls P f ar w fun e w' => (∃ v', e = .returned v' ∧ R w' v') ∧ Below w.heap.size w w')
  (k : ∀ w' A0 k0 c0, Hid (R w' (.slice A0 k0 c0)) → Below w.heap.size w w' → K (.returned (.slice A0 k0 c0)) w') (ho : ∀ w v, R w v → ∃ A0 k0 c0, v = .slice A0 k0 c0 ∧ R w (.slice A0 k0 c0) := by exact fun _ _ h => h.open) : Calls P f ar w K :=
 h.mono fun e w' ⟨⟨v, he, hr⟩, hb⟩ => by
  obtain ⟨A0, k0, c0, hv, hq⟩ := ho _ _ hr
  subst he hv
  exact k w' A0 k0 c0 hq hb
theorem mZ {P : Program} {f : FuncId} {ar : Array Value} {w : World} {R : World → Value → Prop} {K : Ending → World → Prop} (h : Calls P f ar w fun e w' => (∃ v', e = .returned v' ∧ R w' v') ∧ Below w.heap.size w w')
  (k : ∀ w' g0 A0 k0 c0, Hid (R w' (.agg #[.bool g0, .slice A0 k0 c0])) → Below w.heap.size w w' → K (.returned (.agg #[.bool g0, .slice A0 k0 c0])) w') (ho : ∀ w v, R w v → ∃ g0 A0 k0 c0, v = .agg #[.bool g0, .slice A0 k0 c0] ∧ R w (.agg #[.bool g0, .slice A0 k0 c0]) := by exact fun _ _ h => h.open) : Calls P f ar w K :=
 h.mono fun e w' ⟨⟨v, he, hr⟩, hb⟩ => by
  obtain ⟨g0, A0, k0, c0, hv, hq⟩ := ho _ _ hr
  subst he hv
  exact k w' g0 A0 k0 c0 hq hb
theorem mQ {P : Program} {f : FuncId} {ar : Array Value} {w : World} {R : World → Value → Prop} {K : Ending → World → Prop} (h : Calls P f ar w fun e w' => (∃ v', e = .returned v' ∧ R w' v') ∧ Below w.heap.size w w')
  (k : ∀ w' g0 A0 k0 c0 A1 k1 c1, Hid (R w' (.agg #[.bool g0, .slice A0 k0 c0, .slice A1 k1 c1])) → Below w.heap.size w w' → K (.returned (.agg #[.bool g0, .slice A0 k0 c0, .slice A1 k1 c1])) w') (ho : ∀ w v, R w v → ∃ g0 A0 k0 c0 A1 k1 c1, v = .agg #[.bool g0, .slice A0 k0 c0, .slice A1 k1 c1] ∧ R w (.agg #[.bool g0, .slice A0 k0 c0, .slice A1 k1 c1]) := by exact fun _ _ h => h.open) : Calls P f ar w K :=
 h.mono fun e w' ⟨⟨v, he, hr⟩, hb⟩ => by
  obtain ⟨g0, A0, k0, c0, A1, k1, c1, hv, hq⟩ := ho _ _ hr
  subst he hv
  exact k w' g0 A0 k0 c0 A1 k1 c1 hq hb
theorem mS {P : Program} {f : FuncId} {ar : Array Value} {w : World} {R : World → Value → Prop} {K : Ending → World → Prop} (h : Calls P f ar w fun e w' => (∃ v', e = .returned v' ∧ R w' v') ∧ Below w.heap.size w w')
  (k : ∀ w' g0 A0 k0 c0 g1 A1 k1 c1 g2 A2 k2 c2 g3 A3 k3 c3 A4 k4 c4, Hid (R w' (.agg #[.bool g0, .slice A0 k0 c0, .bool g1, .slice A1 k1 c1, .bool g2, .slice A2 k2 c2, .bool g3, .slice A3 k3 c3, .slice A4 k4 c4])) → Below w.heap.size w w' → K (.returned (.agg #[.bool g0, .slice A0 k0 c0, .bool g1, .slice A1 k1 c1, .bool g2, .slice A2 k2 c2, .bool g3, .slice A3 k3 c3, .slice A4 k4 c4])) w') (ho : ∀ w v, R w v → ∃ g0 A0 k0 c0 g1 A1 k1 c1 g2 A2 k2 c2 g3 A3 k3 c3 A4 k4 c4, v = .agg #[.bool g0, .slice A0 k0 c0, .bool g1, .slice A1 k1 c1, .bool g2, .slice A2 k2 c2, .bool g3, .slice A3 k3 c3, .slice A4 k4 c4] ∧ R w (.agg #[.bool g0, .slice A0 k0 c0, .bool g1, .slice A1 k1 c1, .bool g2, .slice A2 k2 c2, .bool g3, .slice A3 k3 c3, .slice A4 k4 c4]) := by exact fun _ _ h => h.open) : Calls P f ar w K :=
 h.mono fun e w' ⟨⟨v, he, hr⟩, hb⟩ => by
  obtain ⟨g0, A0, k0, c0, g1, A1, k1, c1, g2, A2, k2, c2, g3, A3, k3, c3, A4, k4, c4, hv, hq⟩ := ho _ _ hr
  subst he hv
  exact k w' g0 A0 k0 c0 g1 A1 k1 c1 g2 A2 k2 c2 g3 A3 k3 c3 A4 k4 c4 hq hb
theorem kS {a w W : World} {b o : Nat} {vs : List Value} (hS : W = setsW w b o vs) (hle : Hid (a.heap.size ≤ b)) (h : Hid (Below a.heap.size a w)) : Hid (Below a.heap.size a W) := by
 show Below _ _ _; rw [hS]; exact sets_below hle.out h.out
theorem kZ {w W : World} {b o : Nat} {vs : List Value} (hS : W = setsW w b o vs) : Hid (W.heap.size = w.heap.size) := by show _ = _; rw [hS]; exact sets_size
theorem kC {w : World} {b t : Nat} {cs : List Value} {v : Value} (h : Hid (w.heap[b]? = some (.cells cs.toArray t (0, 0)))) (i : Nat) (hv : cs[i]? = some v) : w.cell? ⟨b, i, none⟩ = some v := by
 rw [blk_cell h.out]; simpa using hv
theorem kD {w : World} {b t : Nat} {cs : Array Value} (h : Hid (w.heap[b]? = some (.cells cs t (0, 0)))) (i : Nat) : w.cell? ⟨b, i, none⟩ = cs[i]? := blk_cell h.out i
theorem kF {w : World} {b t : Nat} {cs : Array Value} (h : Hid (w.heap[b]? = some (.cells cs t (0, 0)))) (i : Nat) : w.frozen? ⟨b, i, none⟩ = false := blk_free h.out i
end Go.Proofs.YtodckaioeomccaaGreat
namespace Go.Proofs.YtodckaioeomccaaGreat
open Go.RowKit
set_option linter.unusedVariables false
theorem kV {p q : Prop} {w w' : World} [WdSt p w w' q] (hb : Below w.heap.size w w') (h : Hid p) : Hid q := kW (Wd.of_below hb) h
section
variable {P : Program} {ops : Array Oper} {Q : Exit → Act → World → Prop} {S : World → Prop}
theorem plq {l m : List (Nat × Oper)} {a : Act} {w : World} (n : Nat) (hm : pull n l = m := by first | (simp only [places, pull]; rfl) | rfl) (h : Seq P ops Q S m a w) : Seq P ops Q S l a w := by
 subst hm
 exact seq_pull n h
end
end Go.Proofs.YtodckaioeomccaaGreat
namespace Go.Proofs.YtodckaioeomccaaGreat
open Go.RowKit
set_option linter.unusedVariables false
set_option linter.unusedSimpArgs false
set_option maxRecDepth 100000
set_option maxHeartbeats 4000000
theorem signed_not (z : Int) : signed (!decide (z < 0)) z.natAbs = -z := by
 unfold signed
 by_cases h : z < 0
 ·simp [h]; omega
 ·simp [h]; omega
theorem signed_ne (z y : Int) : signed (decide (z < 0) != decide (y < 0)) (z.natAbs * y.natAbs) = z * y := by
 unfold signed
 rw [← Int.natAbs_mul]
 by_cases h : z < 0 <;> by_cases k : y < 0
 ·have := Int.mul_pos_of_neg_of_neg h k; simp [h, k]; omega
 ·have := Int.mul_nonpos_of_nonpos_of_nonneg (a := z) (b := y) (by omega) (by omega); simp [h, k]; omega
 ·have := Int.mul_nonpos_of_nonneg_of_nonpos (a := z) (b := y) (by omega) (by omega); simp [h, k]; omega
 ·have := Int.mul_nonneg (a := z) (b := y) (by omega) (by omega); simp [h, k]; omega
theorem QS.neg {k : Nat} {x : Rat} (h : QS k x) : QS k (-x) := ⟨by show dl (-x.num).natAbs ≤ k; rw [Int.natAbs_neg]; exact h.1, h.2⟩
theorem isign_any (v : Value) (z : Int) (w : World) (hv : RdZ w v z) : Calls Tryz.prog 197 #[v] w fun e w' => e = .returned (.int .i64 (Int.sign z)) ∧ Below w.heap.size w w' := by
 obtain ⟨g, A, k, c, rfl, hv⟩ := hv.open
 have hg := hv.sign
 have hk : dl z.natAbs = k := by
  obtain ⟨A', n', c', e, e1, _⟩ := RdW.open_ hv.abs
  simp only [Value.slice.injEq] at e
  obtain ⟨rfl, rfl, rfl⟩ := e
  exact e1
 clear hv
 rcases Int.lt_trichotomy z 0 with h | h | h
 ·have hgt : g = true := by rw [hg]; exact decide_eq_true h
  rw [Int.sign_eq_neg_one_of_neg h]
  subst hgt
  clear hg hk h
  go_enter Tryz.func197, Tryz.ntmps197
  go_wp2_with fail
  go_ret
  exact ⟨rfl, (Below.refl _ w).alloc (Nat.le_refl _) _⟩
 ·have hgt : g = false := by rw [hg]; exact decide_eq_false (by omega)
  have hk0 : k = 0 := by rw [← hk, h]; exact dl_zero
  subst hgt; subst hk0
  rw [h]
  clear hg hk h
  go_enter Tryz.func197, Tryz.ntmps197
  go_wp2_with fail
  go_ret
  exact ⟨rfl, (Below.refl _ w).alloc (Nat.le_refl _) _⟩
 ·have hgt : g = false := by rw [hg]; exact decide_eq_false (by omega)
  have hk0 : 0 < k := by rw [← hk]; exact dl_pos (by omega)
  rw [Int.sign_eq_one_of_pos h]
  subst hgt
  clear hg hk h
  go_enter Tryz.func197, Tryz.ntmps197
  go_wp2_with fail
  go_ret
  exact ⟨rfl, (Below.refl _ w).alloc (Nat.le_refl _) _⟩
theorem iminus_any (v : Value) (z : Int) (w : World) (hv : RdZ w v z) :
  Calls Tryz.prog 220 #[v] w fun e w' => (∃ v', e = .returned v' ∧ RdZ w' v' (-z)) ∧ Below w.heap.size w w' := by
 have HSG : Hid (∀ g, g = decide (z < 0) → signed (!g) z.natAbs = -z) := fun g h => by rw [h]; exact signed_not z
 obtain ⟨gp0a, Ap0a, kp0a, cp0a, rfl, hv⟩ := hv.open
 have HX0 := h0d hv
 clear hv
 go_enter Tryz.func220, Tryz.ntmps220
 obtain ⟨W1, HW1, HB2, s1w, j1⟩ := st_al0 w #[.bool gp0a, .slice Ap0a kp0a cp0a] 27
 have HBw := h0d j1
 obtain ⟨W3, HW3, HB4, s3w, j2⟩ := st_alk 1 2 #[.bool false, .slice none 0 0] 27 s1w rfl
 have l4b : Hid (w.heap.size ≤ w.heap.size + 1) := by show _ ≤ _; omega
 go_wp2_with fail
 rw [← HW1.out, ← HW3.out]
 replace HBw := kU HBw j2
 replace HX0 := kV HBw.out HX0
 refine mZ (whole_any _ _ z.natAbs _ HX0.out.abs) fun w1 g1a A1a k1a c1a HR1 j1c => ?_
 rw [HSG.out _ HX0.out.sign] at HR1
 replace HB4 := kB HB4 j1c
 have c5 := kC HB4 0 rfl
 have c6 := kF HB4 0
 have c7 := kC HB4 1 rfl
 have c8 := kF HB4 1
 obtain ⟨W9, HW9⟩ : ∃ W, Hid (W = ((w1.setCell ⟨w.heap.size + 1, 0, none⟩ (.bool g1a)).setCell ⟨w.heap.size + 1, 1, none⟩ (.slice A1a k1a c1a))) := ⟨_, rfl⟩
 have SW9 : Hid (W9 = setsW w1 (w.heap.size + 1) 0 [.bool g1a, .slice A1a k1a c1a]) := HW9.out
 have TW9 := kN (SW9.out) HB4 rfl rfl
 replace HB4 := kP (ds := [.bool g1a, .slice A1a k1a c1a]) (SW9.out) HB4 rfl rfl
 go_wp2_with fail
 rw [← HW9.out]
 clear c5 c6 c7 c8
 have c10 := kC HB4 0 rfl
 have c11 := kC HB4 1 rfl
 replace HR1 := kW TW9 HR1
 replace HBw := kS (SW9.out) l4b (kU HBw j1c)
 exact bodyPost_ret (v := .agg #[.bool g1a, .slice A1a k1a c1a]) (by simp [results, Tryz.results220, go_sem, c10, c11]) rfl ⟨⟨_, rfl, HR1.out⟩, HBw.out⟩
theorem itimes_any (v u : Value) (z y : Int) (w : World) (hv : RdZ w v z) (hu : RdZ w u y) (hz6 : dl z.natAbs ≤ 450000) (hy6 : dl y.natAbs ≤ 450000) :
  Calls Tryz.prog 168 #[v, u] w fun e w' => (∃ v', e = .returned v' ∧ RdZ w' v' (z * y)) ∧ Below w.heap.size w w' := by
 have HSG : Hid (∀ g k, g = decide (z < 0) → k = decide (y < 0) → signed (!g == k) (z.natAbs * y.natAbs) = z * y) := fun g k h h2 => by rw [h, h2]; exact signed_ne z y
 obtain ⟨gp0a, Ap0a, kp0a, cp0a, rfl, hv⟩ := hv.open
 have HX0 := h0d hv
 clear hv
 obtain ⟨gp1a, Ap1a, kp1a, cp1a, rfl, hu⟩ := hu.open
 have HX1 := h0d hu
 clear hu
 go_enter Tryz.func168, Tryz.ntmps168
 obtain ⟨W1, HW1, HB2, s1w, j1⟩ := st_al0 w #[.bool gp0a, .slice Ap0a kp0a cp0a] 27
 have HBw := h0d j1
 obtain ⟨W3, HW3, HB4, s3w, j2⟩ := st_alk 1 2 #[.bool gp1a, .slice Ap1a kp1a cp1a] 27 s1w rfl
 obtain ⟨W5, HW5, HB6, s5w, j3⟩ := st_alk 2 3 #[.bool false, .slice none 0 0] 27 s3w rfl
 have n2b6 : Hid (w.heap.size ≠ w.heap.size + 2) := by show _ ≠ _; omega
 have n4b6 : Hid (w.heap.size + 1 ≠ w.heap.size + 2) := by show _ ≠ _; omega
 have l6b : Hid (w.heap.size ≤ w.heap.size + 2) := by show _ ≤ _; omega
 go_wp2_with fail
 rw [← HW1.out, ← HW3.out, ← HW5.out]
 obtain ⟨W7, hW7⟩ : ∃ W, W = W5.drew := ⟨_, rfl⟩
 have j4 : Below W5.heap.size W5 W7 := by rw [hW7]; exact (Below.refl _ _).drew
 have jm1 := tt (tt j2 j3) j4
 replace HB2 := kB HB2 jm1
 have jm2 := tt j3 j4
 replace HB4 := kB HB4 jm2
 refine seq_start (S := fun w' => w'.cell? ⟨w.heap.size, 0, none⟩ = some (.bool gp0a) ∧ w'.cell? ⟨w.heap.size + 1, 0, none⟩ = some (.bool gp1a) ∧ w'.cell? ⟨w.heap.size, 1, none⟩ = some (.slice Ap0a kp0a cp0a) ∧ w'.cell? ⟨w.heap.size + 1, 1, none⟩ = some (.slice Ap1a kp1a cp1a)) (by kernel_rfl) (by kernel_rfl) (by rw [← hW7]; exact ⟨kD HB2 0, kD HB4 0, kD HB2 1, kD HB4 1⟩) ?_
 rw [← hW7]
 clear hW7
 iterate 9 refine tk0 (h := ?_)
 refine sop (h := fun K9 hK9 => ?_)
 go_simp
 replace HBw := kU HBw jm1
 replace HX0 := kV HBw.out HX0
 replace HX1 := kV HBw.out HX1
 refine mN (times_any _ _ z.natAbs y.natAbs _ HX0.out.abs HX1.out.abs (by omega) (by omega)) fun w1 A1 k1 c1 HR1 j1c => ?_
 replace HB2 := kB HB2 j1c
 replace HB4 := kB HB4 j1c
 refine ckk hK9 (by exact ⟨kD HB2 0, kD HB4 0, kD HB2 1, kD HB4 1⟩) (h := ?_)
 clear hK9 K9
 refine sop (h := fun K9 hK9 => ?_)
 go_simp
 refine mZ (whole_any _ _ _ _ HR1.out) fun w2 g2a A2a k2a c2a HR2 j2c => ?_
 have jm3 := tt j1c j2c
 replace HX0 := kV jm3 HX0
 replace HX1 := kV jm3 HX1
 rw [HSG.out _ _ HX0.out.sign HX1.out.sign] at HR2
 replace HB2 := kB HB2 j2c
 replace HB4 := kB HB4 j2c
 refine ckk hK9 (by exact ⟨kD HB2 0, kD HB4 0, kD HB2 1, kD HB4 1⟩) (h := ?_)
 clear hK9 K9
 refine sop (h := fun K9 hK9 => ?_)
 have jm4 := tt j4 jm3
 replace HB6 := kB HB6 jm4
 have c8 := kC HB6 0 rfl
 have c9 := kF HB6 0
 have c10 := kC HB6 1 rfl
 have c11 := kF HB6 1
 go_simp
 obtain ⟨W12, HW12⟩ : ∃ W, Hid (W = ((w2.setCell ⟨w.heap.size + 2, 0, none⟩ (.bool g2a)).setCell ⟨w.heap.size + 2, 1, none⟩ (.slice A2a k2a c2a))) := ⟨_, rfl⟩
 have SW12 : Hid (W12 = setsW w2 (w.heap.size + 2) 0 [.bool g2a, .slice A2a k2a c2a]) := HW12.out
 have TW12 := kN (SW12.out) HB6 rfl rfl
 replace HB6 := kP (ds := [.bool g2a, .slice A2a k2a c2a]) (SW12.out) HB6 rfl rfl
 rw [← HW12.out]
 replace HB2 := kO (SW12.out) HB2 n2b6.out
 replace HB4 := kO (SW12.out) HB4 n4b6.out
 refine ckk hK9 (by exact ⟨kD HB2 0, kD HB4 0, kD HB2 1, kD HB4 1⟩) (h := ?_)
 clear hK9 K9 c8 c9 c10 c11
 refine seq_done (by kernel_rfl) ?_
 go_wp2_with fail
 have c13 := kC HB6 0 rfl
 have c14 := kC HB6 1 rfl
 replace HR2 := kW TW12 HR2
 replace HBw := kS (SW12.out) l6b (kU HBw jm3)
 exact bodyPost_ret (v := .agg #[.bool g2a, .slice A2a k2a c2a]) (by simp [results, Tryz.results168, go_sem, c13, c14]) rfl ⟨⟨_, rfl, HR2.out⟩, HBw.out⟩
theorem sign_any (v : Value) (x : Rat) (w : World) (hv : RdQ w v x) :
  Calls Tryz.prog 118 #[v] w fun e w' => e = .returned (.int .i64 (Int.sign x.num)) ∧ Below w.heap.size w w' := by
 obtain ⟨gp0a, Ap0a, kp0a, cp0a, Ap0b, kp0b, cp0b, rfl, hv⟩ := hv.open
 have HX0 := h0d hv
 clear hv
 go_enter Tryz.func118, Tryz.ntmps118
 obtain ⟨W1, HW1, HB2, s1w, j1⟩ := st_al0 w #[.bool gp0a, .slice Ap0a kp0a cp0a, .slice Ap0b kp0b cp0b] 32
 have HBw := h0d j1
 go_wp2_with fail
 rw [← HW1.out]
 replace HX0 := kV j1 HX0
 refine mV (isign_any _ x.num _ HX0.out.num) fun w1 j1c => ?_
 go_wp2_with fail
 go_ret
 replace HBw := kU HBw j1c
 exact ⟨rfl, HBw.out⟩
theorem neg_any (v : Value) (x : Rat) (w : World) (hv : RdQ w v x) :
  Calls Tryz.prog 167 #[v] w fun e w' => (∃ v', e = .returned v' ∧ RdQ w' v' (-x)) ∧ Below w.heap.size w w' := by
 obtain ⟨gp0a, Ap0a, kp0a, cp0a, Ap0b, kp0b, cp0b, rfl, hv⟩ := hv.open
 have HX0 := h0d hv
 clear hv
 go_enter Tryz.func167, Tryz.ntmps167
 obtain ⟨W1, HW1, HB2, s1w, j1⟩ := st_al0 w #[.bool gp0a, .slice Ap0a kp0a cp0a, .slice Ap0b kp0b cp0b] 32
 have HBw := h0d j1
 obtain ⟨W3, HW3, HB4, s3w, j2⟩ := st_alk 1 2 #[.bool false, .slice none 0 0, .slice none 0 0] 32 s1w rfl
 have n2b4 : Hid (w.heap.size ≠ w.heap.size + 1) := by show _ ≠ _; omega
 have l4b : Hid (w.heap.size ≤ w.heap.size + 1) := by show _ ≤ _; omega
 go_wp2_with fail
 rw [← HW1.out, ← HW3.out]
 obtain ⟨W5, hW5⟩ : ∃ W, W = W3.drew := ⟨_, rfl⟩
 have j3 : Below W3.heap.size W3 W5 := by rw [hW5]; exact (Below.refl _ _).drew
 have jm1 := tt j2 j3
 replace HB2 := kB HB2 jm1
 refine seq_start (S := fun w' => w'.cell? ⟨w.heap.size, 0, none⟩ = some (.bool gp0a) ∧ w'.cell? ⟨w.heap.size, 1, none⟩ = some (.slice Ap0a kp0a cp0a) ∧ w'.cell? ⟨w.heap.size, 2, none⟩ = some (.slice Ap0b kp0b cp0b)) (by kernel_rfl) (by kernel_rfl) (by rw [← hW5]; exact ⟨kD HB2 0, kD HB2 1, kD HB2 2⟩) ?_
 rw [← hW5]
 clear hW5
 iterate 2 refine tk0 (h := ?_)
 iterate 2 (refine plq 1 (h := ?_); refine tk0 (h := ?_))
 refine sop (h := fun K9 hK9 => ?_)
 go_simp
 replace HBw := kU HBw jm1
 replace HX0 := kV HBw.out HX0
 refine mZ (iminus_any _ x.num _ HX0.out.num) fun w1 g1a A1a k1a c1a HR1 j1c => ?_
 replace HB2 := kB HB2 j1c
 refine ckk hK9 (by exact ⟨kD HB2 0, kD HB2 1, kD HB2 2⟩) (h := ?_)
 clear hK9 K9
 refine tk0 (h := ?_)
 refine sop (h := fun K9 hK9 => ?_)
 have jm2 := tt j3 j1c
 replace HB4 := kB HB4 jm2
 have c6 := kC HB4 0 rfl
 have c7 := kF HB4 0
 have c8 := kC HB4 1 rfl
 have c9 := kF HB4 1
 have c10 := kC HB4 2 rfl
 have c11 := kF HB4 2
 go_simp
 obtain ⟨W12, HW12⟩ : ∃ W, Hid (W = (((w1.setCell ⟨w.heap.size + 1, 0, none⟩ (.bool g1a)).setCell ⟨w.heap.size + 1, 1, none⟩ (.slice A1a k1a c1a)).setCell ⟨w.heap.size + 1, 2, none⟩ (.slice Ap0b kp0b cp0b))) := ⟨_, rfl⟩
 have SW12 : Hid (W12 = setsW w1 (w.heap.size + 1) 0 [.bool g1a, .slice A1a k1a c1a, .slice Ap0b kp0b cp0b]) := HW12.out
 have TW12 := kN (SW12.out) HB4 rfl rfl
 replace HB4 := kP (ds := [.bool g1a, .slice A1a k1a c1a, .slice Ap0b kp0b cp0b]) (SW12.out) HB4 rfl rfl
 rw [← HW12.out]
 replace HB2 := kO (SW12.out) HB2 n2b4.out
 refine ckk hK9 (by exact ⟨kD HB2 0, kD HB2 1, kD HB2 2⟩) (h := ?_)
 clear hK9 K9 c6 c7 c8 c9 c10 c11
 refine seq_done (by kernel_rfl) ?_
 go_wp2_with fail
 have c13 := kC HB4 0 rfl
 have c14 := kC HB4 1 rfl
 have c15 := kC HB4 2 rfl
 replace HR1 := kW TW12 HR1
 replace HX0 := kW TW12 (kV j1c HX0)
 replace HBw := kS (SW12.out) l4b (kU HBw j1c)
 exact bodyPost_ret (v := .agg #[.bool g1a, .slice A1a k1a c1a, .slice Ap0b kp0b cp0b]) (by simp [results, Tryz.results167, go_sem, c13, c14, c15]) rfl ⟨⟨_, rfl, (RdQ.mk (x := -x) HR1.out HX0.out.den)⟩, HBw.out⟩
theorem sub_any (v u : Value) (x y : Rat) (w : World) (hv : RdQ w v x) (hu : RdQ w u y) (hx6 : QS 100000 x) (hy6 : QS 100000 y) :
  Calls Tryz.prog 78 #[v, u] w fun e w' => (∃ v', e = .returned v' ∧ RdQ w' v' (x - y)) ∧ Below w.heap.size w w' := by
 have HQX := h0d hx6
 have HQY := h0d hy6
 clear hx6 hy6
 obtain ⟨gp0a, Ap0a, kp0a, cp0a, Ap0b, kp0b, cp0b, rfl, hv⟩ := hv.open
 have HX0 := h0d hv
 clear hv
 obtain ⟨gp1a, Ap1a, kp1a, cp1a, Ap1b, kp1b, cp1b, rfl, hu⟩ := hu.open
 have HX1 := h0d hu
 clear hu
 go_enter Tryz.func78, Tryz.ntmps78
 obtain ⟨W1, HW1, HB2, s1w, j1⟩ := st_al0 w #[.bool gp0a, .slice Ap0a kp0a cp0a, .slice Ap0b kp0b cp0b] 32
 have HBw := h0d j1
 obtain ⟨W3, HW3, HB4, s3w, j2⟩ := st_alk 1 2 #[.bool gp1a, .slice Ap1a kp1a cp1a, .slice Ap1b kp1b cp1b] 32 s1w rfl
 obtain ⟨W5, HW5, HB6, s5w, j3⟩ := st_alk 2 3 #[.bool false, .slice none 0 0, .slice none 0 0] 32 s3w rfl
 have n2b6 : Hid (w.heap.size ≠ w.heap.size + 2) := by show _ ≠ _; omega
 have n4b6 : Hid (w.heap.size + 1 ≠ w.heap.size + 2) := by show _ ≠ _; omega
 have l6b : Hid (w.heap.size ≤ w.heap.size + 2) := by show _ ≤ _; omega
 go_wp2_with fail
 rw [← HW1.out, ← HW3.out, ← HW5.out]
 obtain ⟨W7, hW7⟩ : ∃ W, W = W5.drew := ⟨_, rfl⟩
 have j4 : Below W5.heap.size W5 W7 := by rw [hW7]; exact (Below.refl _ _).drew
 have jm1 := tt (tt j2 j3) j4
 replace HB2 := kB HB2 jm1
 have jm2 := tt j3 j4
 replace HB4 := kB HB4 jm2
 refine seq_start (S := fun w' => w'.cell? ⟨w.heap.size, 0, none⟩ = some (.bool gp0a) ∧ w'.cell? ⟨w.heap.size, 1, none⟩ = some (.slice Ap0a kp0a cp0a) ∧ w'.cell? ⟨w.heap.size, 2, none⟩ = some (.slice Ap0b kp0b cp0b) ∧ w'.cell? ⟨w.heap.size + 1, 0, none⟩ = some (.bool gp1a) ∧ w'.cell? ⟨w.heap.size + 1, 1, none⟩ = some (.slice Ap1a kp1a cp1a) ∧ w'.cell? ⟨w.heap.size + 1, 2, none⟩ = some (.slice Ap1b kp1b cp1b)) (by kernel_rfl) (by kernel_rfl) (by rw [← hW7]; exact ⟨kD HB2 0, kD HB2 1, kD HB2 2, kD HB4 0, kD HB4 1, kD HB4 2⟩) ?_
 rw [← hW7]
 clear hW7
 iterate 2 refine tk0 (h := ?_)
 refine sop (h := fun K9 hK9 => ?_)
 go_simp
 replace HBw := kU HBw jm1
 replace HX1 := kV HBw.out HX1
 refine mQ (neg_any _ y _ HX1.out) fun w1 g1a A1a k1a c1a A1b k1b c1b HR1 j1c => ?_
 replace HB2 := kB HB2 j1c
 replace HB4 := kB HB4 j1c
 refine ckk hK9 (by exact ⟨kD HB2 0, kD HB2 1, kD HB2 2, kD HB4 0, kD HB4 1, kD HB4 2⟩) (h := ?_)
 clear hK9 K9
 refine sop (h := fun K9 hK9 => ?_)
 go_simp
 replace HBw := kU HBw j1c
 replace HX0 := kV HBw.out HX0
 refine mQ (add_any _ _ x (-y) _ HX0.out HR1.out HQX.out HQY.out.neg) fun w2 g2a A2a k2a c2a A2b k2b c2b HR2 j2c => ?_
 rw [← Rat.sub_eq_add_neg] at HR2
 replace HB2 := kB HB2 j2c
 replace HB4 := kB HB4 j2c
 refine ckk hK9 (by exact ⟨kD HB2 0, kD HB2 1, kD HB2 2, kD HB4 0, kD HB4 1, kD HB4 2⟩) (h := ?_)
 clear hK9 K9
 refine sop (h := fun K9 hK9 => ?_)
 have jm3 := tt (tt j4 j1c) j2c
 replace HB6 := kB HB6 jm3
 have c8 := kC HB6 0 rfl
 have c9 := kF HB6 0
 have c10 := kC HB6 1 rfl
 have c11 := kF HB6 1
 have c12 := kC HB6 2 rfl
 have c13 := kF HB6 2
 go_simp
 obtain ⟨W14, HW14⟩ : ∃ W, Hid (W = (((w2.setCell ⟨w.heap.size + 2, 0, none⟩ (.bool g2a)).setCell ⟨w.heap.size + 2, 1, none⟩ (.slice A2a k2a c2a)).setCell ⟨w.heap.size + 2, 2, none⟩ (.slice A2b k2b c2b))) := ⟨_, rfl⟩
 have SW14 : Hid (W14 = setsW w2 (w.heap.size + 2) 0 [.bool g2a, .slice A2a k2a c2a, .slice A2b k2b c2b]) := HW14.out
 have TW14 := kN (SW14.out) HB6 rfl rfl
 replace HB6 := kP (ds := [.bool g2a, .slice A2a k2a c2a, .slice A2b k2b c2b]) (SW14.out) HB6 rfl rfl
 rw [← HW14.out]
 replace HB2 := kO (SW14.out) HB2 n2b6.out
 replace HB4 := kO (SW14.out) HB4 n4b6.out
 refine ckk hK9 (by exact ⟨kD HB2 0, kD HB2 1, kD HB2 2, kD HB4 0, kD HB4 1, kD HB4 2⟩) (h := ?_)
 clear hK9 K9 c8 c9 c10 c11 c12 c13
 refine seq_done (by kernel_rfl) ?_
 go_wp2_with fail
 have c15 := kC HB6 0 rfl
 have c16 := kC HB6 1 rfl
 have c17 := kC HB6 2 rfl
 replace HR2 := kW TW14 HR2
 replace HBw := kS (SW14.out) l6b (kU HBw j2c)
 exact bodyPost_ret (v := .agg #[.bool g2a, .slice A2a k2a c2a, .slice A2b k2b c2b]) (by simp [results, Tryz.results78, go_sem, c15, c16, c17]) rfl ⟨⟨_, rfl, HR2.out⟩, HBw.out⟩
theorem mk_sizes {z : Int} {D : Nat} (hD : D ≠ 0) : (mkRat z D).num.natAbs ≤ z.natAbs ∧ (mkRat z D).den ≤ D := by
 rw [mk_num hD, mk_den hD]
 constructor
 ·rw [Int.natAbs_ediv_of_dvd (Int.ofNat_dvd_left.2 (Nat.gcd_dvd_left _ _))]; exact Nat.div_le_self _ _
 ·exact Nat.div_le_self _ _
theorem QS.mul {a b : Nat} {x y : Rat} (h : QS a x) (k : QS b y) : QS (a + b) (x * y) := by
 have hxd := x.den_nz
 have hyd := y.den_nz
 have e : x * y = mkRat (x.num * y.num) (x.den * y.den) := Rat.mul_def' x y
 have h1 := mk_sizes (z := x.num * y.num) (D := x.den * y.den) (Nat.mul_ne_zero hxd hyd)
 rw [← e] at h1
 refine ⟨Nat.le_trans (dl_mono h1.1) ?_, Nat.le_trans (dl_mono h1.2) ?_⟩
 ·rw [Int.natAbs_mul]; have := dl_mul x.num.natAbs y.num.natAbs; have := h.1; have := k.1; omega
 ·have := dl_mul x.den y.den; have := h.2; have := k.2; omega
theorem mul_any (v u : Value) (x y : Rat) (w : World) (hv : RdQ w v x) (hu : RdQ w u y) (hx6 : QS 100000 x) (hy6 : QS 100000 y) :
  Calls Tryz.prog 79 #[v, u] w fun e w' => (∃ v', e = .returned v' ∧ RdQ w' v' (x * y)) ∧ Below w.heap.size w w' := by
 have HQX := h0d hx6
 have HQY := h0d hy6
 have HP : Hid (dl (x.num * y.num).natAbs ≤ 900000 ∧ dl (x.den * y.den) ≤ 900000) := ⟨by rw [Int.natAbs_mul]; have := dl_mul x.num.natAbs y.num.natAbs; have := hx6.1; have := hy6.1; omega, by have := dl_mul x.den y.den; have := hx6.2; have := hy6.2; omega⟩
 clear hx6 hy6
 obtain ⟨gp0a, Ap0a, kp0a, cp0a, Ap0b, kp0b, cp0b, rfl, hv⟩ := hv.open
 have HX0 := h0d hv
 clear hv
 obtain ⟨gp1a, Ap1a, kp1a, cp1a, Ap1b, kp1b, cp1b, rfl, hu⟩ := hu.open
 have HX1 := h0d hu
 clear hu
 go_enter Tryz.func79, Tryz.ntmps79
 obtain ⟨W1, HW1, HB2, s1w, j1⟩ := st_al0 w #[.bool gp0a, .slice Ap0a kp0a cp0a, .slice Ap0b kp0b cp0b] 32
 have HBw := h0d j1
 obtain ⟨W3, HW3, HB4, s3w, j2⟩ := st_alk 1 2 #[.bool gp1a, .slice Ap1a kp1a cp1a, .slice Ap1b kp1b cp1b] 32 s1w rfl
 obtain ⟨W5, HW5, HB6, s5w, j3⟩ := st_alk 2 3 #[.bool false, .slice none 0 0, .slice none 0 0] 32 s3w rfl
 have n2b6 : Hid (w.heap.size ≠ w.heap.size + 2) := by show _ ≠ _; omega
 have n4b6 : Hid (w.heap.size + 1 ≠ w.heap.size + 2) := by show _ ≠ _; omega
 have l6b : Hid (w.heap.size ≤ w.heap.size + 2) := by show _ ≤ _; omega
 go_wp2_with fail
 rw [← HW1.out, ← HW3.out, ← HW5.out]
 obtain ⟨W7, hW7⟩ : ∃ W, W = W5.drew := ⟨_, rfl⟩
 have j4 : Below W5.heap.size W5 W7 := by rw [hW7]; exact (Below.refl _ _).drew
 have jm1 := tt (tt j2 j3) j4
 replace HB2 := kB HB2 jm1
 have jm2 := tt j3 j4
 replace HB4 := kB HB4 jm2
 refine seq_start (S := fun w' => w'.cell? ⟨w.heap.size, 0, none⟩ = some (.bool gp0a) ∧ w'.cell? ⟨w.heap.size, 1, none⟩ = some (.slice Ap0a kp0a cp0a) ∧ w'.cell? ⟨w.heap.size + 1, 0, none⟩ = some (.bool gp1a) ∧ w'.cell? ⟨w.heap.size + 1, 1, none⟩ = some (.slice Ap1a kp1a cp1a) ∧ w'.cell? ⟨w.heap.size, 2, none⟩ = some (.slice Ap0b kp0b cp0b) ∧ w'.cell? ⟨w.heap.size + 1, 2, none⟩ = some (.slice Ap1b kp1b cp1b)) (by kernel_rfl) (by kernel_rfl) (by rw [← hW7]; exact ⟨kD HB2 0, kD HB2 1, kD HB4 0, kD HB4 1, kD HB2 2, kD HB4 2⟩) ?_
 rw [← hW7]
 clear hW7
 iterate 4 refine tk0 (h := ?_)
 iterate 2 (refine plq 1 (h := ?_); refine tk0 (h := ?_))
 iterate 2 (refine plq 2 (h := ?_); refine tk0 (h := ?_))
 refine sop (h := fun K9 hK9 => ?_)
 go_simp
 replace HBw := kU HBw jm1
 replace HX0 := kV HBw.out HX0
 replace HX1 := kV HBw.out HX1
 refine mZ (itimes_any _ _ x.num y.num _ HX0.out.num HX1.out.num (by have := HQX.out.1; omega) (by have := HQY.out.1; omega)) fun w1 g1a A1a k1a c1a HR1 j1c => ?_
 replace HB2 := kB HB2 j1c
 replace HB4 := kB HB4 j1c
 refine ckk hK9 (by exact ⟨kD HB2 0, kD HB2 1, kD HB4 0, kD HB4 1, kD HB2 2, kD HB4 2⟩) (h := ?_)
 clear hK9 K9
 refine sop (h := fun K9 hK9 => ?_)
 go_simp
 replace HX0 := kV j1c HX0
 refine mN (under_any _ x.den _ x.den_nz HX0.out.den) fun w2 A2 k2 c2 HR2 j2c => ?_
 replace HB2 := kB HB2 j2c
 replace HB4 := kB HB4 j2c
 refine ckk hK9 (by exact ⟨kD HB2 0, kD HB2 1, kD HB4 0, kD HB4 1, kD HB2 2, kD HB4 2⟩) (h := ?_)
 clear hK9 K9
 refine sop (h := fun K9 hK9 => ?_)
 go_simp
 have jm3 := tt j1c j2c
 replace HX1 := kV jm3 HX1
 refine mN (under_any _ y.den _ y.den_nz HX1.out.den) fun w3 A3 k3 c3 HR3 j3c => ?_
 replace HB2 := kB HB2 j3c
 replace HB4 := kB HB4 j3c
 refine ckk hK9 (by exact ⟨kD HB2 0, kD HB2 1, kD HB4 0, kD HB4 1, kD HB2 2, kD HB4 2⟩) (h := ?_)
 clear hK9 K9
 refine sop (h := fun K9 hK9 => ?_)
 go_simp
 replace HR2 := kV j3c HR2
 refine mN (times_any _ _ x.den y.den _ HR2.out HR3.out (by have := HQX.out.2; omega) (by have := HQY.out.2; omega)) fun w4 A4 k4 c4 HR4 j4c => ?_
 replace HB2 := kB HB2 j4c
 replace HB4 := kB HB4 j4c
 refine ckk hK9 (by exact ⟨kD HB2 0, kD HB2 1, kD HB4 0, kD HB4 1, kD HB2 2, kD HB4 2⟩) (h := ?_)
 clear hK9 K9
 refine sop (h := fun K9 hK9 => ?_)
 go_simp
 have jm4 := tt (tt j2c j3c) j4c
 replace HR1 := kV jm4 HR1
 refine mQ (over_any _ _ (x.num * y.num) (x.den * y.den) _ HR1.out HR4.out (Nat.mul_ne_zero x.den_nz y.den_nz) HP.out.1 HP.out.2) fun w5 g5a A5a k5a c5a A5b k5b c5b HR5 j5c => ?_
 rw [← Rat.mul_def'] at HR5
 replace HB2 := kB HB2 j5c
 replace HB4 := kB HB4 j5c
 refine ckk hK9 (by exact ⟨kD HB2 0, kD HB2 1, kD HB4 0, kD HB4 1, kD HB2 2, kD HB4 2⟩) (h := ?_)
 clear hK9 K9
 refine sop (h := fun K9 hK9 => ?_)
 have jm5 := tt (tt (tt (tt (tt j4 j1c) j2c) j3c) j4c) j5c
 replace HB6 := kB HB6 jm5
 have c8 := kC HB6 0 rfl
 have c9 := kF HB6 0
 have c10 := kC HB6 1 rfl
 have c11 := kF HB6 1
 have c12 := kC HB6 2 rfl
 have c13 := kF HB6 2
 go_simp
 obtain ⟨W14, HW14⟩ : ∃ W, Hid (W = (((w5.setCell ⟨w.heap.size + 2, 0, none⟩ (.bool g5a)).setCell ⟨w.heap.size + 2, 1, none⟩ (.slice A5a k5a c5a)).setCell ⟨w.heap.size + 2, 2, none⟩ (.slice A5b k5b c5b))) := ⟨_, rfl⟩
 have SW14 : Hid (W14 = setsW w5 (w.heap.size + 2) 0 [.bool g5a, .slice A5a k5a c5a, .slice A5b k5b c5b]) := HW14.out
 have TW14 := kN (SW14.out) HB6 rfl rfl
 replace HB6 := kP (ds := [.bool g5a, .slice A5a k5a c5a, .slice A5b k5b c5b]) (SW14.out) HB6 rfl rfl
 rw [← HW14.out]
 replace HB2 := kO (SW14.out) HB2 n2b6.out
 replace HB4 := kO (SW14.out) HB4 n4b6.out
 refine ckk hK9 (by exact ⟨kD HB2 0, kD HB2 1, kD HB4 0, kD HB4 1, kD HB2 2, kD HB4 2⟩) (h := ?_)
 clear hK9 K9 c8 c9 c10 c11 c12 c13
 refine seq_done (by kernel_rfl) ?_
 go_wp2_with fail
 have c15 := kC HB6 0 rfl
 have c16 := kC HB6 1 rfl
 have c17 := kC HB6 2 rfl
 replace HR5 := kW TW14 HR5
 have jm6 := tt (tt (tt jm3 j3c) j4c) j5c
 replace HBw := kS (SW14.out) l6b (kU HBw jm6)
 exact bodyPost_ret (v := .agg #[.bool g5a, .slice A5a k5a c5a, .slice A5b k5b c5b]) (by simp [results, Tryz.results79, go_sem, c15, c16, c17]) rfl ⟨⟨_, rfl, HR5.out⟩, HBw.out⟩
theorem cmpQ_any (v u : Value) (x y : Rat) (w : World) (hv : RdQ w v x) (hu : RdQ w u y) (hx6 : QS 100000 x) (hy6 : QS 100000 y) :
  Calls Tryz.prog 76 #[v, u] w fun e w' => e = .returned (.int .i64 (Int.sign (x - y).num)) ∧ Below w.heap.size w w' := by
 have HQX := h0d hx6
 have HQY := h0d hy6
 clear hx6 hy6
 obtain ⟨gp0a, Ap0a, kp0a, cp0a, Ap0b, kp0b, cp0b, rfl, hv⟩ := hv.open
 have HX0 := h0d hv
 clear hv
 obtain ⟨gp1a, Ap1a, kp1a, cp1a, Ap1b, kp1b, cp1b, rfl, hu⟩ := hu.open
 have HX1 := h0d hu
 clear hu
 go_enter Tryz.func76, Tryz.ntmps76
 obtain ⟨W1, HW1, HB2, s1w, j1⟩ := st_al0 w #[.bool gp0a, .slice Ap0a kp0a cp0a, .slice Ap0b kp0b cp0b] 32
 have HBw := h0d j1
 obtain ⟨W3, HW3, HB4, s3w, j2⟩ := st_alk 1 2 #[.bool gp1a, .slice Ap1a kp1a cp1a, .slice Ap1b kp1b cp1b] 32 s1w rfl
 go_wp2_with fail
 rw [← HW1.out, ← HW3.out]
 replace HBw := kU HBw j2
 replace HX0 := kV HBw.out HX0
 replace HX1 := kV HBw.out HX1
 refine mQ (sub_any _ _ x y _ HX0.out HX1.out HQX.out HQY.out) fun w1 g1a A1a k1a c1a A1b k1b c1b HR1 j1c => ?_
 go_wp2_with fail
 refine mV (sign_any _ (x - y) _ HR1.out) fun w2 j2c => ?_
 go_wp2_with fail
 go_ret
 have jm1 := tt j1c j2c
 replace HBw := kU HBw jm1
 exact ⟨rfl, HBw.out⟩
end Go.Proofs.YtodckaioeomccaaGreat
namespace Go.Proofs.YtodckaioeomccaaGreat
open Go.RowKit
set_option linter.unusedVariables false
set_option linter.unusedSimpArgs false
set_option maxRecDepth 100000
set_option maxHeartbeats 4000000
theorem ratio_div (n d : Int) (hd : d ≠ 0) : ratio n d = (n : Rat) / (d : Rat) := by
 unfold ratio
 rw [Rat.mkRat_eq_div]
 by_cases h : d < 0
 ·rw [if_pos h]
  have e : ((d.natAbs : Nat) : Int) = -d := by omega
  have e2 : (((d.natAbs : Nat) : Int) : Rat) = ((-d : Int) : Rat) := by rw [e]
  rw [show ((d.natAbs : Nat) : Rat) = (((d.natAbs : Nat) : Int) : Rat) from (Rat.intCast_natCast _).symm, e2, Rat.intCast_neg, Rat.intCast_neg]
  grind
 ·rw [if_neg h]
  have e : ((d.natAbs : Nat) : Int) = d := by omega
  rw [show ((d.natAbs : Nat) : Rat) = (((d.natAbs : Nat) : Int) : Rat) from (Rat.intCast_natCast _).symm, e]
theorem num_div (x : Rat) : x = (x.num : Rat) / ((x.den : Int) : Rat) := by
 rw [Rat.intCast_natCast, ← Rat.mkRat_eq_div, Rat.mkRat_self]
theorem div_ratio (x y : Rat) (hy : y ≠ 0) : ratio (x.num * y.den) (x.den * y.num) = x / y := by
 have hn : y.num ≠ 0 := fun h => hy (Rat.num_eq_zero.1 h)
 have hd : (x.den : Int) ≠ 0 := by have := x.den_nz; omega
 have hd2 : (y.den : Int) ≠ 0 := by have := y.den_nz; omega
 rw [ratio_div _ _ (Int.mul_ne_zero hd hn)]
 have h1 : ((x.den : Int) : Rat) ≠ 0 := fun h => hd (by exact_mod_cast h)
 have h2 : ((y.num : Int) : Rat) ≠ 0 := fun h => hn (by exact_mod_cast h)
 have h3 : ((y.den : Int) : Rat) ≠ 0 := fun h => hd2 (by exact_mod_cast h)
 conv => rhs; rw [num_div x, num_div y]
 rw [Rat.intCast_mul, Rat.intCast_mul]
 grind
theorem zero_len {w : World} {g : Bool} {A B : Option Addr} {k c m d : Nat} {x : Rat} (h : RdQ w (.agg #[.bool g, .slice A k c, .slice B m d]) x) : k = 0 ↔ x = 0 := by
 obtain ⟨A', n', c', e, e1, _⟩ := RdW.open_ h.num.abs
 simp only [Value.slice.injEq] at e
 obtain ⟨rfl, rfl, rfl⟩ := e
 rw [← Rat.num_eq_zero]
 have e2 : dl x.num.natAbs = k := e1
 constructor
 ·intro hk
  rcases Nat.eq_zero_or_pos x.num.natAbs with h0 | h0
  ·omega
  ·have := dl_pos (show x.num.natAbs ≠ 0 by omega); omega
 ·intro hx
  rw [← e2, hx]; exact dl_zero
theorem zero_yes (v : Value) (x : Rat) (w : World) (hv : RdQ w v x) (h0 : x = 0) :
  Calls Tryz.prog 81 #[v] w fun e w' => e = .returned (.bool true) ∧ Below w.heap.size w w' := by
 obtain ⟨gp0a, Ap0a, kp0a, cp0a, Ap0b, kp0b, cp0b, rfl, hv⟩ := hv.open
 have HX0 := h0d hv
 clear hv
 have hk : kp0a = 0 := (zero_len HX0.out).2 h0
 clear h0
 subst hk
 go_enter Tryz.func81, Tryz.ntmps81
 obtain ⟨W1, HW1, HB2, s1w, j1⟩ := st_al0 w #[.bool gp0a, .slice Ap0a 0 cp0a, .slice Ap0b kp0b cp0b] 32
 have l2b : Hid (w.heap.size ≤ w.heap.size) := by show _ ≤ _; omega
 have HBw := h0d j1
 go_wp2_with fail
 rw [← HW1.out]
 go_ret
 exact ⟨rfl, HBw.out⟩
theorem zero_no (v : Value) (x : Rat) (w : World) (hv : RdQ w v x) (h0 : x ≠ 0) :
  Calls Tryz.prog 81 #[v] w fun e w' => e = .returned (.bool false) ∧ Below w.heap.size w w' := by
 obtain ⟨gp0a, Ap0a, kp0a, cp0a, Ap0b, kp0b, cp0b, rfl, hv⟩ := hv.open
 have HX0 := h0d hv
 clear hv
 have hk : ((kp0a : Int) == 0) = false := by have : kp0a ≠ 0 := fun e => h0 ((zero_len HX0.out).1 e); simp; omega
 clear h0
 go_enter Tryz.func81, Tryz.ntmps81
 obtain ⟨W1, HW1, HB2, s1w, j1⟩ := st_al0 w #[.bool gp0a, .slice Ap0a kp0a cp0a, .slice Ap0b kp0b cp0b] 32
 have l2b : Hid (w.heap.size ≤ w.heap.size) := by show _ ≤ _; omega
 have HBw := h0d j1
 go_wp2_with fail
 rw [← HW1.out]
 go_ret
 exact ⟨rfl, HBw.out⟩
theorem div_signed (x y : Rat) (hy : y ≠ 0) : mkRat (signed (decide (x.num * y.den < 0) != decide (y.num < 0)) (x.num * y.den).natAbs) (x.den * y.num.natAbs) = x / y := by
 rw [← div_ratio x y hy]
 have hd : 0 < (x.den : Int) := by have := x.den_nz; omega
 have hn : y.num ≠ 0 := fun h => hy (Rat.num_eq_zero.1 h)
 have h1 : decide (y.num < 0) = decide ((x.den : Int) * y.num < 0) := by
  rw [Bool.eq_iff_iff, decide_eq_true_iff, decide_eq_true_iff]
  constructor
  ·intro h; exact Int.mul_neg_of_pos_of_neg hd h
  ·intro h; refine Int.not_le.1 fun h2 => ?_; have := Int.mul_nonneg (Int.le_of_lt hd) h2; omega
 have h2 : ((x.den : Int) * y.num).natAbs = x.den * y.num.natAbs := by rw [Int.natAbs_mul, Int.natAbs_natCast]
 rw [h1, ← h2]
 exact ratio_signed _ _ (Int.mul_ne_zero (by omega) hn)
theorem QS.div {a b : Nat} {x y : Rat} (h : QS a x) (k : QS b y) (hy : y ≠ 0) : QS (a + b) (x / y) := by
 have hxd := x.den_nz
 have hn : y.num.natAbs ≠ 0 := fun h => hy (Rat.num_eq_zero.1 (by omega))
 have h1 := mk_sizes (z := signed (decide (x.num * y.den < 0) != decide (y.num < 0)) (x.num * y.den).natAbs) (D := x.den * y.num.natAbs) (Nat.mul_ne_zero hxd hn)
 rw [div_signed x y hy, signed_abs] at h1
 refine ⟨Nat.le_trans (dl_mono h1.1) ?_, Nat.le_trans (dl_mono h1.2) ?_⟩
 ·have := dl_imul x.num y.den; have := h.1; have := k.2; omega
 ·have := dl_mul x.den y.num.natAbs; have := h.2; have := k.1; omega
theorem div_any (v u : Value) (x y : Rat) (w : World) (hv : RdQ w v x) (hu : RdQ w u y) (hy : y ≠ 0) (hx6 : QS 100000 x) (hy6 : QS 100000 y) :
  Calls Tryz.prog 198 #[v, u] w fun e w' => (∃ v', e = .returned (.tuple #[v', .int .i64 0]) ∧ RdQ w' v' (x / y)) ∧ Below w.heap.size w w' := by
 have HQX := h0d hx6
 have HQY := h0d hy6
 have HY0 := h0d hy
 have HDS : Hid (mkRat (signed (!decide (x.num * y.den < 0) == decide (y.num < 0)) (x.num * y.den).natAbs) (x.den * y.num.natAbs) = x / y) := div_signed x y hy
 have HP : Hid (dl (x.num * y.den).natAbs ≤ 900000 ∧ dl (x.den * y.num.natAbs) ≤ 900000 ∧ x.den * y.num.natAbs ≠ 0) := ⟨by have := dl_imul x.num y.den; have := hx6.1; have := hy6.2; omega, by have := dl_mul x.den y.num.natAbs; have := hx6.2; have := hy6.1; omega, Nat.mul_ne_zero x.den_nz fun h => hy (Rat.num_eq_zero.1 (by omega))⟩
 clear hx6 hy6 hy
 obtain ⟨gp0a, Ap0a, kp0a, cp0a, Ap0b, kp0b, cp0b, rfl, hv⟩ := hv.open
 have HX0 := h0d hv
 clear hv
 obtain ⟨gp1a, Ap1a, kp1a, cp1a, Ap1b, kp1b, cp1b, rfl, hu⟩ := hu.open
 have HX1 := h0d hu
 clear hu
 go_enter Tryz.func198, Tryz.ntmps198
 obtain ⟨W1, HW1, HB2, s1w, j1⟩ := st_al0 w #[.bool gp0a, .slice Ap0a kp0a cp0a, .slice Ap0b kp0b cp0b] 32
 have HBw := h0d j1
 obtain ⟨W3, HW3, HB4, s3w, j2⟩ := st_alk 1 2 #[.bool gp1a, .slice Ap1a kp1a cp1a, .slice Ap1b kp1b cp1b] 32 s1w rfl
 obtain ⟨W5, HW5, HB6, s5w, j3⟩ := st_alk 2 3 #[.bool false, .slice none 0 0, .slice none 0 0] 32 s3w rfl
 have n2b6 : Hid (w.heap.size ≠ w.heap.size + 2) := by show _ ≠ _; omega
 have n4b6 : Hid (w.heap.size + 1 ≠ w.heap.size + 2) := by show _ ≠ _; omega
 have l6b : Hid (w.heap.size ≤ w.heap.size + 2) := by show _ ≤ _; omega
 go_wp2_with fail
 rw [← HW1.out, ← HW3.out, ← HW5.out]
 have jm1 := tt j2 j3
 replace HBw := kU HBw jm1
 replace HX1 := kV HBw.out HX1
 refine mV (zero_no _ y _ HX1.out HY0.out) fun w1 j1c => ?_
 go_wp2_with fail
 obtain ⟨W7, hW7⟩ : ∃ W, W = w1.drew := ⟨_, rfl⟩
 have j4 : Below w1.heap.size w1 W7 := by rw [hW7]; exact (Below.refl _ _).drew
 have jm2 := tt (tt jm1 j1c) j4
 replace HB2 := kB HB2 jm2
 have jm3 := tt (tt j3 j1c) j4
 replace HB4 := kB HB4 jm3
 refine seq_start (S := fun w' => w'.cell? ⟨w.heap.size, 0, none⟩ = some (.bool gp0a) ∧ w'.cell? ⟨w.heap.size, 1, none⟩ = some (.slice Ap0a kp0a cp0a) ∧ w'.cell? ⟨w.heap.size + 1, 2, none⟩ = some (.slice Ap1b kp1b cp1b)) (by kernel_rfl) (by kernel_rfl) (by rw [← hW7]; exact ⟨kD HB2 0, kD HB2 1, kD HB4 2⟩) ?_
 rw [← hW7]
 clear hW7
 iterate 4 refine tk0 (h := ?_)
 refine plq 2 (h := ?_)
 refine seq_both ?_ ?_ ?_ ?_ ?_
 ·kernel_rfl
 ·rfl
 ·rfl
 ·intro K9 hK9
  go_simp
  obtain ⟨W8, HW8, HB9, s8w, j5⟩ := st_al0 W7 #[.bool false, .slice none 0 0] 27
  have n2b9 : Hid (w.heap.size ≠ W7.heap.size) := by show _ ≠ _; have hlt := blk_lt HB2.out; omega
  have n4b9 : Hid (w.heap.size + 1 ≠ W7.heap.size) := by show _ ≠ _; have hlt := blk_lt HB4.out; omega
  have n6b9 : Hid (w.heap.size + 2 ≠ W7.heap.size) := by show _ ≠ _; have hlt := blk_lt HB6.out; have := j1c.size; have := j4.size; omega
  have l9b : Hid (w.heap.size ≤ W7.heap.size) := by show _ ≤ _; have hlt := HBw.out.size; have := j1c.size; have := j4.size; omega
  rw [← HW8.out]
  replace HB2 := kB HB2 j5
  replace HB4 := kB HB4 j5
  refine ckk hK9 (by exact ⟨kD HB2 0, kD HB2 1, kD HB4 2⟩) (h := ?_)
  clear hK9 K9
  refine sop (h := fun K9 hK9 => ?_)
  go_simp
  have jm4 := tt (tt j1c j4) j5
  replace HX1 := kV jm4 HX1
  refine mN (under_any _ y.den _ y.den_nz HX1.out.den) fun w2 A2 k2 c2 HR2 j2c => ?_
  replace HB2 := kB HB2 j2c
  replace HB4 := kB HB4 j2c
  refine ckk hK9 (by exact ⟨kD HB2 0, kD HB2 1, kD HB4 2⟩) (h := ?_)
  clear hK9 K9
  refine sop (h := fun K9 hK9 => ?_)
  go_simp
  have jm5 := tt jm4 j2c
  replace HBw := kU HBw jm5
  replace HX0 := kV HBw.out HX0
  refine mZ (scaled_any _ _ x.num y.den _ HX0.out.num HR2.out (by have := HQX.out.1; omega) (by have := HQY.out.2; omega)) fun w3 g3a A3a k3a c3a HR3 j3c => ?_
  replace HB2 := kB HB2 j3c
  replace HB4 := kB HB4 j3c
  refine ckk hK9 (by exact ⟨kD HB2 0, kD HB2 1, kD HB4 2⟩) (h := ?_)
  clear hK9 K9
  refine sop (h := fun K9 hK9 => ?_)
  have jm6 := tt j2c j3c
  replace HB9 := kB HB9 jm6
  have c10 := kC HB9 0 rfl
  have c11 := kF HB9 0
  have c12 := kC HB9 1 rfl
  have c13 := kF HB9 1
  go_simp
  obtain ⟨W14, HW14⟩ : ∃ W, Hid (W = ((w3.setCell ⟨W7.heap.size, 0, none⟩ (.bool g3a)).setCell ⟨W7.heap.size, 1, none⟩ (.slice A3a k3a c3a))) := ⟨_, rfl⟩
  have SW14 : Hid (W14 = setsW w3 (W7.heap.size) 0 [.bool g3a, .slice A3a k3a c3a]) := HW14.out
  have TW14 := kN (SW14.out) HB9 rfl rfl
  replace HB9 := kP (ds := [.bool g3a, .slice A3a k3a c3a]) (SW14.out) HB9 rfl rfl
  rw [← HW14.out]
  replace HB2 := kO (SW14.out) HB2 n2b9.out
  replace HB4 := kO (SW14.out) HB4 n4b9.out
  refine ckk hK9 (by exact ⟨kD HB2 0, kD HB2 1, kD HB4 2⟩) (h := ?_)
  clear hK9 K9 c10 c11 c12 c13
  refine seq_done (by kernel_rfl) ?_
  go_wp2_with fail
  obtain ⟨W15, hW15⟩ : ∃ W, W = W14.drew := ⟨_, rfl⟩
  have j6 : Below W14.heap.size W14 W15 := by rw [hW15]; exact (Below.refl _ _).drew
  replace HB9 := kB HB9 j6
  replace HB4 := kB HB4 j6
  replace HB2 := kB HB2 j6
  refine seq_start (S := fun w' => w'.cell? ⟨W7.heap.size, 0, none⟩ = some (.bool g3a) ∧ w'.cell? ⟨w.heap.size + 1, 0, none⟩ = some (.bool gp1a) ∧ w'.cell? ⟨W7.heap.size, 1, none⟩ = some (.slice A3a k3a c3a) ∧ w'.cell? ⟨w.heap.size, 2, none⟩ = some (.slice Ap0b kp0b cp0b) ∧ w'.cell? ⟨w.heap.size + 1, 1, none⟩ = some (.slice Ap1a kp1a cp1a)) (by kernel_rfl) (by kernel_rfl) (by rw [← hW15]; exact ⟨kD HB9 0, kD HB4 0, kD HB9 1, kD HB2 2, kD HB4 1⟩) ?_
  rw [← hW15]
  clear hW15
  iterate 8 refine tk0 (h := ?_)
  iterate 2 (refine plq 1 (h := ?_); refine tk0 (h := ?_))
  iterate 3 (refine plq 2 (h := ?_); refine tk0 (h := ?_))
  refine sop (h := fun K9 hK9 => ?_)
  go_simp
  replace HR3 := kV j6 (kW TW14 HR3)
  refine mZ (whole_any _ _ (x.num * y.den).natAbs _ HR3.out.abs) fun w4 g4a A4a k4a c4a HR4 j4c => ?_
  replace HB9 := kB HB9 j4c
  replace HB4 := kB HB4 j4c
  replace HB2 := kB HB2 j4c
  refine ckk hK9 (by exact ⟨kD HB9 0, kD HB4 0, kD HB9 1, kD HB2 2, kD HB4 1⟩) (h := ?_)
  clear hK9 K9
  refine sop (h := fun K9 hK9 => ?_)
  go_simp
  have jm7 := tt j6 j4c
  replace HX0 := kV jm7 (kW TW14 (kV j3c HX0))
  refine mN (under_any _ x.den _ x.den_nz HX0.out.den) fun w5 A5 k5 c5 HR5 j5c => ?_
  replace HB9 := kB HB9 j5c
  replace HB4 := kB HB4 j5c
  replace HB2 := kB HB2 j5c
  refine ckk hK9 (by exact ⟨kD HB9 0, kD HB4 0, kD HB9 1, kD HB2 2, kD HB4 1⟩) (h := ?_)
  clear hK9 K9
  refine sop (h := fun K9 hK9 => ?_)
  go_simp
  have jm8 := tt jm7 j5c
  replace HX1 := kV jm8 (kW TW14 (kV jm6 HX1))
  refine mN (times_any _ _ x.den y.num.natAbs _ HR5.out HX1.out.num.abs (by have := HQX.out.2; omega) (by have := HQY.out.1; omega)) fun w6 A6 k6 c6 HR6 j6c => ?_
  replace HB9 := kB HB9 j6c
  replace HB4 := kB HB4 j6c
  replace HB2 := kB HB2 j6c
  refine ckk hK9 (by exact ⟨kD HB9 0, kD HB4 0, kD HB9 1, kD HB2 2, kD HB4 1⟩) (h := ?_)
  clear hK9 K9
  refine sop (h := fun K9 hK9 => ?_)
  go_simp
  have jm9 := tt j5c j6c
  replace HR4 := kV jm9 HR4
  refine mQ (over_any _ _ _ _ _ HR4.out HR6.out HP.out.2.2 (by rw [signed_abs]; exact HP.out.1) HP.out.2.1) fun w7 g7a A7a k7a c7a A7b k7b c7b HR7 j7c => ?_
  have hq := HR7.out
  have jm10 := tt (tt (tt j4c j5c) j6c) j7c
  replace HR3 := kV jm10 HR3
  have jm11 := tt j6c j7c
  replace HX1 := kV jm11 HX1
  rw [HR3.out.sign, HX1.out.num.sign, HDS.out] at hq
  replace HR7 := h0d hq
  clear hq
  replace HB9 := kB HB9 j7c
  replace HB4 := kB HB4 j7c
  replace HB2 := kB HB2 j7c
  refine ckk hK9 (by exact ⟨kD HB9 0, kD HB4 0, kD HB9 1, kD HB2 2, kD HB4 1⟩) (h := ?_)
  clear hK9 K9
  refine sop (h := fun K9 hK9 => ?_)
  have jm12 := tt jm5 j3c
  have jm13 := tt j6 jm10
  replace HB6 := kB (kO (SW14.out) (kB HB6 jm12) n6b9.out) jm13
  have c16 := kC HB6 0 rfl
  have c17 := kF HB6 0
  have c18 := kC HB6 1 rfl
  have c19 := kF HB6 1
  have c20 := kC HB6 2 rfl
  have c21 := kF HB6 2
  go_simp
  obtain ⟨W22, HW22⟩ : ∃ W, Hid (W = (((w7.setCell ⟨w.heap.size + 2, 0, none⟩ (.bool g7a)).setCell ⟨w.heap.size + 2, 1, none⟩ (.slice A7a k7a c7a)).setCell ⟨w.heap.size + 2, 2, none⟩ (.slice A7b k7b c7b))) := ⟨_, rfl⟩
  have SW22 : Hid (W22 = setsW w7 (w.heap.size + 2) 0 [.bool g7a, .slice A7a k7a c7a, .slice A7b k7b c7b]) := HW22.out
  have TW22 := kN (SW22.out) HB6 rfl rfl
  replace HB6 := kP (ds := [.bool g7a, .slice A7a k7a c7a, .slice A7b k7b c7b]) (SW22.out) HB6 rfl rfl
  rw [← HW22.out]
  replace HB9 := kO (SW22.out) HB9 n6b9.out.symm
  replace HB4 := kO (SW22.out) HB4 n4b6.out
  replace HB2 := kO (SW22.out) HB2 n2b6.out
  refine ckk hK9 (by exact ⟨kD HB9 0, kD HB4 0, kD HB9 1, kD HB2 2, kD HB4 1⟩) (h := ?_)
  clear hK9 K9 c16 c17 c18 c19 c20 c21
  refine tk0 (h := ?_)
  refine seq_done (by kernel_rfl) ?_
  go_wp2_with fail
  have c23 := kC HB6 0 rfl
  have c24 := kC HB6 1 rfl
  have c25 := kC HB6 2 rfl
  replace HR7 := kW TW22 HR7
  replace HBw := kS (SW22.out) l6b (kU (kS (SW14.out) l9b (kU HBw j3c)) jm13)
  exact bodyPost_ret (v := .tuple #[.agg #[.bool g7a, .slice A7a k7a c7a, .slice A7b k7b c7b], .int .i64 0]) (by simp [results, Tryz.results198, go_sem, c23, c24, c25]) rfl ⟨⟨_, rfl, HR7.out⟩, HBw.out⟩
 intro K9 hK9
 go_simp
 have jm4 := tt j1c j4
 replace HX1 := kV jm4 HX1
 refine mN (under_any _ y.den _ y.den_nz HX1.out.den) fun w2 A2 k2 c2 HR2 j2c => ?_
 replace HB2 := kB HB2 j2c
 replace HB4 := kB HB4 j2c
 refine ckk hK9 (by exact ⟨kD HB2 0, kD HB2 1, kD HB4 2⟩) (h := ?_)
 clear hK9 K9
 refine plq 1 (h := ?_)
 refine plq 1 (h := ?_)
 refine seq_both ?_ ?_ ?_ ?_ ?_
 ·kernel_rfl
 ·rfl
 ·rfl
 ·intro K9 hK9
  go_simp
  obtain ⟨W8, HW8, HB9, s8w, j5⟩ := st_al0 w2 #[.bool false, .slice none 0 0] 27
  have n2b9 : Hid (w.heap.size ≠ w2.heap.size) := by show _ ≠ _; have hlt := blk_lt HB2.out; omega
  have n4b9 : Hid (w.heap.size + 1 ≠ w2.heap.size) := by show _ ≠ _; have hlt := blk_lt HB4.out; omega
  have n6b9 : Hid (w.heap.size + 2 ≠ w2.heap.size) := by show _ ≠ _; have hlt := blk_lt HB6.out; have := j1c.size; have := j4.size; have := j2c.size; omega
  have l9b : Hid (w.heap.size ≤ w2.heap.size) := by show _ ≤ _; have hlt := HBw.out.size; have := j1c.size; have := j4.size; have := j2c.size; omega
  rw [← HW8.out]
  replace HB2 := kB HB2 j5
  replace HB4 := kB HB4 j5
  refine ckk hK9 (by exact ⟨kD HB2 0, kD HB2 1, kD HB4 2⟩) (h := ?_)
  clear hK9 K9
  refine sop (h := fun K9 hK9 => ?_)
  go_simp
  have jm5 := tt (tt jm4 j2c) j5
  replace HBw := kU HBw jm5
  replace HX0 := kV HBw.out HX0
  replace HR2 := kV j5 HR2
  refine mZ (scaled_any _ _ x.num y.den _ HX0.out.num HR2.out (by have := HQX.out.1; omega) (by have := HQY.out.2; omega)) fun w3 g3a A3a k3a c3a HR3 j3c => ?_
  replace HB2 := kB HB2 j3c
  replace HB4 := kB HB4 j3c
  refine ckk hK9 (by exact ⟨kD HB2 0, kD HB2 1, kD HB4 2⟩) (h := ?_)
  clear hK9 K9
  refine sop (h := fun K9 hK9 => ?_)
  replace HB9 := kB HB9 j3c
  have c10 := kC HB9 0 rfl
  have c11 := kF HB9 0
  have c12 := kC HB9 1 rfl
  have c13 := kF HB9 1
  go_simp
  obtain ⟨W14, HW14⟩ : ∃ W, Hid (W = ((w3.setCell ⟨w2.heap.size, 0, none⟩ (.bool g3a)).setCell ⟨w2.heap.size, 1, none⟩ (.slice A3a k3a c3a))) := ⟨_, rfl⟩
  have SW14 : Hid (W14 = setsW w3 (w2.heap.size) 0 [.bool g3a, .slice A3a k3a c3a]) := HW14.out
  have TW14 := kN (SW14.out) HB9 rfl rfl
  replace HB9 := kP (ds := [.bool g3a, .slice A3a k3a c3a]) (SW14.out) HB9 rfl rfl
  rw [← HW14.out]
  replace HB2 := kO (SW14.out) HB2 n2b9.out
  replace HB4 := kO (SW14.out) HB4 n4b9.out
  refine ckk hK9 (by exact ⟨kD HB2 0, kD HB2 1, kD HB4 2⟩) (h := ?_)
  clear hK9 K9 c10 c11 c12 c13
  refine seq_done (by kernel_rfl) ?_
  go_wp2_with fail
  obtain ⟨W15, hW15⟩ : ∃ W, W = W14.drew := ⟨_, rfl⟩
  have j6 : Below W14.heap.size W14 W15 := by rw [hW15]; exact (Below.refl _ _).drew
  replace HB9 := kB HB9 j6
  replace HB4 := kB HB4 j6
  replace HB2 := kB HB2 j6
  refine seq_start (S := fun w' => w'.cell? ⟨w2.heap.size, 0, none⟩ = some (.bool g3a) ∧ w'.cell? ⟨w.heap.size + 1, 0, none⟩ = some (.bool gp1a) ∧ w'.cell? ⟨w2.heap.size, 1, none⟩ = some (.slice A3a k3a c3a) ∧ w'.cell? ⟨w.heap.size, 2, none⟩ = some (.slice Ap0b kp0b cp0b) ∧ w'.cell? ⟨w.heap.size + 1, 1, none⟩ = some (.slice Ap1a kp1a cp1a)) (by kernel_rfl) (by kernel_rfl) (by rw [← hW15]; exact ⟨kD HB9 0, kD HB4 0, kD HB9 1, kD HB2 2, kD HB4 1⟩) ?_
  rw [← hW15]
  clear hW15
  iterate 8 refine tk0 (h := ?_)
  iterate 2 (refine plq 1 (h := ?_); refine tk0 (h := ?_))
  iterate 3 (refine plq 2 (h := ?_); refine tk0 (h := ?_))
  refine sop (h := fun K9 hK9 => ?_)
  go_simp
  replace HR3 := kV j6 (kW TW14 HR3)
  refine mZ (whole_any _ _ (x.num * y.den).natAbs _ HR3.out.abs) fun w4 g4a A4a k4a c4a HR4 j4c => ?_
  replace HB9 := kB HB9 j4c
  replace HB4 := kB HB4 j4c
  replace HB2 := kB HB2 j4c
  refine ckk hK9 (by exact ⟨kD HB9 0, kD HB4 0, kD HB9 1, kD HB2 2, kD HB4 1⟩) (h := ?_)
  clear hK9 K9
  refine sop (h := fun K9 hK9 => ?_)
  go_simp
  have jm6 := tt j6 j4c
  replace HX0 := kV jm6 (kW TW14 (kV j3c HX0))
  refine mN (under_any _ x.den _ x.den_nz HX0.out.den) fun w5 A5 k5 c5 HR5 j5c => ?_
  replace HB9 := kB HB9 j5c
  replace HB4 := kB HB4 j5c
  replace HB2 := kB HB2 j5c
  refine ckk hK9 (by exact ⟨kD HB9 0, kD HB4 0, kD HB9 1, kD HB2 2, kD HB4 1⟩) (h := ?_)
  clear hK9 K9
  refine sop (h := fun K9 hK9 => ?_)
  go_simp
  have jm7 := tt (tt j2c j5) j3c
  have jm8 := tt jm6 j5c
  replace HX1 := kV jm8 (kW TW14 (kV jm7 HX1))
  refine mN (times_any _ _ x.den y.num.natAbs _ HR5.out HX1.out.num.abs (by have := HQX.out.2; omega) (by have := HQY.out.1; omega)) fun w6 A6 k6 c6 HR6 j6c => ?_
  replace HB9 := kB HB9 j6c
  replace HB4 := kB HB4 j6c
  replace HB2 := kB HB2 j6c
  refine ckk hK9 (by exact ⟨kD HB9 0, kD HB4 0, kD HB9 1, kD HB2 2, kD HB4 1⟩) (h := ?_)
  clear hK9 K9
  refine sop (h := fun K9 hK9 => ?_)
  go_simp
  have jm9 := tt j5c j6c
  replace HR4 := kV jm9 HR4
  refine mQ (over_any _ _ _ _ _ HR4.out HR6.out HP.out.2.2 (by rw [signed_abs]; exact HP.out.1) HP.out.2.1) fun w7 g7a A7a k7a c7a A7b k7b c7b HR7 j7c => ?_
  have hq := HR7.out
  have jm10 := tt (tt (tt j4c j5c) j6c) j7c
  replace HR3 := kV jm10 HR3
  have jm11 := tt j6c j7c
  replace HX1 := kV jm11 HX1
  rw [HR3.out.sign, HX1.out.num.sign, HDS.out] at hq
  replace HR7 := h0d hq
  clear hq
  replace HB9 := kB HB9 j7c
  replace HB4 := kB HB4 j7c
  replace HB2 := kB HB2 j7c
  refine ckk hK9 (by exact ⟨kD HB9 0, kD HB4 0, kD HB9 1, kD HB2 2, kD HB4 1⟩) (h := ?_)
  clear hK9 K9
  refine sop (h := fun K9 hK9 => ?_)
  have jm12 := tt jm5 j3c
  have jm13 := tt j6 jm10
  replace HB6 := kB (kO (SW14.out) (kB HB6 jm12) n6b9.out) jm13
  have c16 := kC HB6 0 rfl
  have c17 := kF HB6 0
  have c18 := kC HB6 1 rfl
  have c19 := kF HB6 1
  have c20 := kC HB6 2 rfl
  have c21 := kF HB6 2
  go_simp
  obtain ⟨W22, HW22⟩ : ∃ W, Hid (W = (((w7.setCell ⟨w.heap.size + 2, 0, none⟩ (.bool g7a)).setCell ⟨w.heap.size + 2, 1, none⟩ (.slice A7a k7a c7a)).setCell ⟨w.heap.size + 2, 2, none⟩ (.slice A7b k7b c7b))) := ⟨_, rfl⟩
  have SW22 : Hid (W22 = setsW w7 (w.heap.size + 2) 0 [.bool g7a, .slice A7a k7a c7a, .slice A7b k7b c7b]) := HW22.out
  have TW22 := kN (SW22.out) HB6 rfl rfl
  replace HB6 := kP (ds := [.bool g7a, .slice A7a k7a c7a, .slice A7b k7b c7b]) (SW22.out) HB6 rfl rfl
  rw [← HW22.out]
  replace HB9 := kO (SW22.out) HB9 n6b9.out.symm
  replace HB4 := kO (SW22.out) HB4 n4b6.out
  replace HB2 := kO (SW22.out) HB2 n2b6.out
  refine ckk hK9 (by exact ⟨kD HB9 0, kD HB4 0, kD HB9 1, kD HB2 2, kD HB4 1⟩) (h := ?_)
  clear hK9 K9 c16 c17 c18 c19 c20 c21
  refine tk0 (h := ?_)
  refine seq_done (by kernel_rfl) ?_
  go_wp2_with fail
  have c23 := kC HB6 0 rfl
  have c24 := kC HB6 1 rfl
  have c25 := kC HB6 2 rfl
  replace HR7 := kW TW22 HR7
  replace HBw := kS (SW22.out) l6b (kU (kS (SW14.out) l9b (kU HBw j3c)) jm13)
  exact bodyPost_ret (v := .tuple #[.agg #[.bool g7a, .slice A7a k7a c7a, .slice A7b k7b c7b], .int .i64 0]) (by simp [results, Tryz.results198, go_sem, c23, c24, c25]) rfl ⟨⟨_, rfl, HR7.out⟩, HBw.out⟩
 intro K9 hK9
 go_simp
 have jm5 := tt jm4 j2c
 replace HBw := kU HBw jm5
 replace HX0 := kV HBw.out HX0
 refine mZ (scaled_any _ _ x.num y.den _ HX0.out.num HR2.out (by have := HQX.out.1; omega) (by have := HQY.out.2; omega)) fun w3 g3a A3a k3a c3a HR3 j3c => ?_
 replace HB2 := kB HB2 j3c
 replace HB4 := kB HB4 j3c
 refine ckk hK9 (by exact ⟨kD HB2 0, kD HB2 1, kD HB4 2⟩) (h := ?_)
 clear hK9 K9
 refine sop (h := fun K9 hK9 => ?_)
 go_simp
 obtain ⟨W8, HW8, HB9, s8w, j5⟩ := st_al0 w3 #[.bool false, .slice none 0 0] 27
 have n2b9 : Hid (w.heap.size ≠ w3.heap.size) := by show _ ≠ _; have hlt := blk_lt HB2.out; omega
 have n4b9 : Hid (w.heap.size + 1 ≠ w3.heap.size) := by show _ ≠ _; have hlt := blk_lt HB4.out; omega
 have n6b9 : Hid (w.heap.size + 2 ≠ w3.heap.size) := by show _ ≠ _; have hlt := blk_lt HB6.out; have := j1c.size; have := j4.size; have := j2c.size; have := j3c.size; omega
 have l9b : Hid (w.heap.size ≤ w3.heap.size) := by show _ ≤ _; have hlt := HBw.out.size; have := j3c.size; omega
 rw [← HW8.out]
 replace HB2 := kB HB2 j5
 replace HB4 := kB HB4 j5
 refine ckk hK9 (by exact ⟨kD HB2 0, kD HB2 1, kD HB4 2⟩) (h := ?_)
 clear hK9 K9
 refine sop (h := fun K9 hK9 => ?_)
 have c10 := kC HB9 0 rfl
 have c11 := kF HB9 0
 have c12 := kC HB9 1 rfl
 have c13 := kF HB9 1
 go_simp
 obtain ⟨W14, HW14⟩ : ∃ W, Hid (W = ((W8.setCell ⟨w3.heap.size, 0, none⟩ (.bool g3a)).setCell ⟨w3.heap.size, 1, none⟩ (.slice A3a k3a c3a))) := ⟨_, rfl⟩
 have SW14 : Hid (W14 = setsW W8 (w3.heap.size) 0 [.bool g3a, .slice A3a k3a c3a]) := HW14.out
 have TW14 := kN (SW14.out) HB9 rfl rfl
 replace HB9 := kP (ds := [.bool g3a, .slice A3a k3a c3a]) (SW14.out) HB9 rfl rfl
 rw [← HW14.out]
 replace HB2 := kO (SW14.out) HB2 n2b9.out
 replace HB4 := kO (SW14.out) HB4 n4b9.out
 refine ckk hK9 (by exact ⟨kD HB2 0, kD HB2 1, kD HB4 2⟩) (h := ?_)
 clear hK9 K9 c10 c11 c12 c13
 refine seq_done (by kernel_rfl) ?_
 go_wp2_with fail
 obtain ⟨W15, hW15⟩ : ∃ W, W = W14.drew := ⟨_, rfl⟩
 have j6 : Below W14.heap.size W14 W15 := by rw [hW15]; exact (Below.refl _ _).drew
 replace HB9 := kB HB9 j6
 replace HB4 := kB HB4 j6
 replace HB2 := kB HB2 j6
 refine seq_start (S := fun w' => w'.cell? ⟨w3.heap.size, 0, none⟩ = some (.bool g3a) ∧ w'.cell? ⟨w.heap.size + 1, 0, none⟩ = some (.bool gp1a) ∧ w'.cell? ⟨w3.heap.size, 1, none⟩ = some (.slice A3a k3a c3a) ∧ w'.cell? ⟨w.heap.size, 2, none⟩ = some (.slice Ap0b kp0b cp0b) ∧ w'.cell? ⟨w.heap.size + 1, 1, none⟩ = some (.slice Ap1a kp1a cp1a)) (by kernel_rfl) (by kernel_rfl) (by rw [← hW15]; exact ⟨kD HB9 0, kD HB4 0, kD HB9 1, kD HB2 2, kD HB4 1⟩) ?_
 rw [← hW15]
 clear hW15
 iterate 8 refine tk0 (h := ?_)
 iterate 2 (refine plq 1 (h := ?_); refine tk0 (h := ?_))
 iterate 3 (refine plq 2 (h := ?_); refine tk0 (h := ?_))
 refine sop (h := fun K9 hK9 => ?_)
 go_simp
 replace HR3 := kV j6 (kW TW14 (kV j5 HR3))
 refine mZ (whole_any _ _ (x.num * y.den).natAbs _ HR3.out.abs) fun w4 g4a A4a k4a c4a HR4 j4c => ?_
 replace HB9 := kB HB9 j4c
 replace HB4 := kB HB4 j4c
 replace HB2 := kB HB2 j4c
 refine ckk hK9 (by exact ⟨kD HB9 0, kD HB4 0, kD HB9 1, kD HB2 2, kD HB4 1⟩) (h := ?_)
 clear hK9 K9
 refine sop (h := fun K9 hK9 => ?_)
 go_simp
 have jm6 := tt j3c j5
 have jm7 := tt j6 j4c
 replace HX0 := kV jm7 (kW TW14 (kV jm6 HX0))
 refine mN (under_any _ x.den _ x.den_nz HX0.out.den) fun w5 A5 k5 c5 HR5 j5c => ?_
 replace HB9 := kB HB9 j5c
 replace HB4 := kB HB4 j5c
 replace HB2 := kB HB2 j5c
 refine ckk hK9 (by exact ⟨kD HB9 0, kD HB4 0, kD HB9 1, kD HB2 2, kD HB4 1⟩) (h := ?_)
 clear hK9 K9
 refine sop (h := fun K9 hK9 => ?_)
 go_simp
 have jm8 := tt j2c jm6
 have jm9 := tt jm7 j5c
 replace HX1 := kV jm9 (kW TW14 (kV jm8 HX1))
 refine mN (times_any _ _ x.den y.num.natAbs _ HR5.out HX1.out.num.abs (by have := HQX.out.2; omega) (by have := HQY.out.1; omega)) fun w6 A6 k6 c6 HR6 j6c => ?_
 replace HB9 := kB HB9 j6c
 replace HB4 := kB HB4 j6c
 replace HB2 := kB HB2 j6c
 refine ckk hK9 (by exact ⟨kD HB9 0, kD HB4 0, kD HB9 1, kD HB2 2, kD HB4 1⟩) (h := ?_)
 clear hK9 K9
 refine sop (h := fun K9 hK9 => ?_)
 go_simp
 have jm10 := tt j5c j6c
 replace HR4 := kV jm10 HR4
 refine mQ (over_any _ _ _ _ _ HR4.out HR6.out HP.out.2.2 (by rw [signed_abs]; exact HP.out.1) HP.out.2.1) fun w7 g7a A7a k7a c7a A7b k7b c7b HR7 j7c => ?_
 have hq := HR7.out
 have jm11 := tt (tt (tt j4c j5c) j6c) j7c
 replace HR3 := kV jm11 HR3
 have jm12 := tt j6c j7c
 replace HX1 := kV jm12 HX1
 rw [HR3.out.sign, HX1.out.num.sign, HDS.out] at hq
 replace HR7 := h0d hq
 clear hq
 replace HB9 := kB HB9 j7c
 replace HB4 := kB HB4 j7c
 replace HB2 := kB HB2 j7c
 refine ckk hK9 (by exact ⟨kD HB9 0, kD HB4 0, kD HB9 1, kD HB2 2, kD HB4 1⟩) (h := ?_)
 clear hK9 K9
 refine sop (h := fun K9 hK9 => ?_)
 have jm13 := tt (tt jm5 j3c) j5
 have jm14 := tt j6 jm11
 replace HB6 := kB (kO (SW14.out) (kB HB6 jm13) n6b9.out) jm14
 have c16 := kC HB6 0 rfl
 have c17 := kF HB6 0
 have c18 := kC HB6 1 rfl
 have c19 := kF HB6 1
 have c20 := kC HB6 2 rfl
 have c21 := kF HB6 2
 go_simp
 obtain ⟨W22, HW22⟩ : ∃ W, Hid (W = (((w7.setCell ⟨w.heap.size + 2, 0, none⟩ (.bool g7a)).setCell ⟨w.heap.size + 2, 1, none⟩ (.slice A7a k7a c7a)).setCell ⟨w.heap.size + 2, 2, none⟩ (.slice A7b k7b c7b))) := ⟨_, rfl⟩
 have SW22 : Hid (W22 = setsW w7 (w.heap.size + 2) 0 [.bool g7a, .slice A7a k7a c7a, .slice A7b k7b c7b]) := HW22.out
 have TW22 := kN (SW22.out) HB6 rfl rfl
 replace HB6 := kP (ds := [.bool g7a, .slice A7a k7a c7a, .slice A7b k7b c7b]) (SW22.out) HB6 rfl rfl
 rw [← HW22.out]
 replace HB9 := kO (SW22.out) HB9 n6b9.out.symm
 replace HB4 := kO (SW22.out) HB4 n4b6.out
 replace HB2 := kO (SW22.out) HB2 n2b6.out
 refine ckk hK9 (by exact ⟨kD HB9 0, kD HB4 0, kD HB9 1, kD HB2 2, kD HB4 1⟩) (h := ?_)
 clear hK9 K9 c16 c17 c18 c19 c20 c21
 refine tk0 (h := ?_)
 refine seq_done (by kernel_rfl) ?_
 go_wp2_with fail
 have c23 := kC HB6 0 rfl
 have c24 := kC HB6 1 rfl
 have c25 := kC HB6 2 rfl
 replace HR7 := kW TW22 HR7
 replace HBw := kS (SW22.out) l6b (kU (kS (SW14.out) l9b (kU HBw jm6)) jm14)
 exact bodyPost_ret (v := .tuple #[.agg #[.bool g7a, .slice A7a k7a c7a, .slice A7b k7b c7b], .int .i64 0]) (by simp [results, Tryz.results198, go_sem, c23, c24, c25]) rfl ⟨⟨_, rfl, HR7.out⟩, HBw.out⟩
theorem one_any (w : World) :
  Calls Tryz.prog 119 #[] w fun e w' => (∃ v', e = .returned v' ∧ RdQ w' v' 1) ∧ Below w.heap.size w w' := by
 go_enter Tryz.func119, Tryz.ntmps119
 obtain ⟨W1, HW1, HB2, s1w, j1⟩ := st_al0 w #[.bool false, .slice none 0 0, .slice none 0 0] 32
 have l2b : Hid (w.heap.size ≤ w.heap.size) := by show _ ≤ _; omega
 have HBw := h0d j1
 go_wp2_with fail
 rw [← HW1.out]
 refine mQ (int_any 1 _ (by omega) (by omega)) fun w1 g1a A1a k1a c1a A1b k1b c1b HR1 j1c => ?_
 replace HB2 := kB HB2 j1c
 have c3 := kC HB2 0 rfl
 have c4 := kF HB2 0
 have c5 := kC HB2 1 rfl
 have c6 := kF HB2 1
 have c7 := kC HB2 2 rfl
 have c8 := kF HB2 2
 obtain ⟨W9, HW9⟩ : ∃ W, Hid (W = (((w1.setCell ⟨w.heap.size, 0, none⟩ (.bool g1a)).setCell ⟨w.heap.size, 1, none⟩ (.slice A1a k1a c1a)).setCell ⟨w.heap.size, 2, none⟩ (.slice A1b k1b c1b))) := ⟨_, rfl⟩
 have SW9 : Hid (W9 = setsW w1 (w.heap.size) 0 [.bool g1a, .slice A1a k1a c1a, .slice A1b k1b c1b]) := HW9.out
 have TW9 := kN (SW9.out) HB2 rfl rfl
 replace HB2 := kP (ds := [.bool g1a, .slice A1a k1a c1a, .slice A1b k1b c1b]) (SW9.out) HB2 rfl rfl
 go_wp2_with fail
 rw [← HW9.out]
 clear c3 c4 c5 c6 c7 c8
 have c10 := kC HB2 0 rfl
 have c11 := kC HB2 1 rfl
 have c12 := kC HB2 2 rfl
 replace HR1 := kW TW9 HR1
 replace HBw := kS (SW9.out) l2b (kU HBw j1c)
 exact bodyPost_ret (v := .agg #[.bool g1a, .slice A1a k1a c1a, .slice A1b k1b c1b]) (by simp [results, Tryz.results119, go_sem, c10, c11, c12]) rfl ⟨⟨_, rfl, HR1.out⟩, HBw.out⟩
theorem ratioB_any (v u : Value) (x y : Rat) (w : World) (hv : RdQ w v x) (hu : RdQ w u y) (hy : y ≠ 0) (hx6 : QS 100000 x) (hy6 : QS 100000 y) :
  Calls Tryz.prog 120 #[v, u] w fun e w' => (∃ v', e = .returned v' ∧ RdQ w' v' (x / y)) ∧ Below w.heap.size w w' := by
 have HQX := h0d hx6
 have HQY := h0d hy6
 have HY0 := h0d hy
 clear hx6 hy6 hy
 obtain ⟨gp0a, Ap0a, kp0a, cp0a, Ap0b, kp0b, cp0b, rfl, hv⟩ := hv.open
 have HX0 := h0d hv
 clear hv
 obtain ⟨gp1a, Ap1a, kp1a, cp1a, Ap1b, kp1b, cp1b, rfl, hu⟩ := hu.open
 have HX1 := h0d hu
 clear hu
 go_enter Tryz.func120, Tryz.ntmps120
 obtain ⟨W1, HW1, HB2, s1w, j1⟩ := st_al0 w #[.bool gp0a, .slice Ap0a kp0a cp0a, .slice Ap0b kp0b cp0b] 32
 have HBw := h0d j1
 obtain ⟨W3, HW3, HB4, s3w, j2⟩ := st_alk 1 2 #[.bool gp1a, .slice Ap1a kp1a cp1a, .slice Ap1b kp1b cp1b] 32 s1w rfl
 obtain ⟨W5, HW5, HB6, s5w, j3⟩ := st_alk 2 3 #[.bool false, .slice none 0 0, .slice none 0 0] 32 s3w rfl
 have l6b : Hid (w.heap.size ≤ w.heap.size + 2) := by show _ ≤ _; omega
 go_wp2_with fail
 rw [← HW1.out, ← HW3.out, ← HW5.out]
 have jm1 := tt j2 j3
 replace HBw := kU HBw jm1
 replace HX0 := kV HBw.out HX0
 replace HX1 := kV HBw.out HX1
 refine (div_any _ _ x y _ HX0.out HX1.out HY0.out HQX.out HQY.out).mono ?_
 rintro e w1 ⟨⟨vx, rfl, hr⟩, j1c⟩
 obtain ⟨g1a, A1a, k1a, c1a, A1b, k1b, c1b, rfl, hr⟩ := hr.open
 have HR1 := h0d hr
 clear hr
 obtain ⟨W7, HW7, HB8, s7w, j4⟩ := st_al0 w1 #[.bool g1a, .slice A1a k1a c1a, .slice A1b k1b c1b] 32
 have jm2 := tt j1c j4
 replace HB6 := kB HB6 jm2
 have c9 := kC HB6 0 rfl
 have c10 := kF HB6 0
 have c11 := kC HB6 1 rfl
 have c12 := kF HB6 1
 have c13 := kC HB6 2 rfl
 have c14 := kF HB6 2
 obtain ⟨W15, HW15⟩ : ∃ W, Hid (W = (((W7.setCell ⟨w.heap.size + 2, 0, none⟩ (.bool g1a)).setCell ⟨w.heap.size + 2, 1, none⟩ (.slice A1a k1a c1a)).setCell ⟨w.heap.size + 2, 2, none⟩ (.slice A1b k1b c1b))) := ⟨_, rfl⟩
 have SW15 : Hid (W15 = setsW W7 (w.heap.size + 2) 0 [.bool g1a, .slice A1a k1a c1a, .slice A1b k1b c1b]) := HW15.out
 have TW15 := kN (SW15.out) HB6 rfl rfl
 replace HB6 := kP (ds := [.bool g1a, .slice A1a k1a c1a, .slice A1b k1b c1b]) (SW15.out) HB6 rfl rfl
 rw [HW7.out] at c9
 rw [HW7.out] at c10
 rw [HW7.out] at c11
 rw [HW7.out] at c12
 rw [HW7.out] at c13
 rw [HW7.out] at c14
 go_wp2_with fail
 rw [← HW7.out, ← HW15.out]
 rw [← HW7.out] at c9
 rw [← HW7.out] at c10
 rw [← HW7.out] at c11
 rw [← HW7.out] at c12
 rw [← HW7.out] at c13
 rw [← HW7.out] at c14
 clear c9 c10 c11 c12 c13 c14
 have c16 := kC HB6 0 rfl
 have c17 := kC HB6 1 rfl
 have c18 := kC HB6 2 rfl
 replace HR1 := kW TW15 (kV j4 HR1)
 replace HBw := kS (SW15.out) l6b (kU HBw jm2)
 exact bodyPost_ret (v := .agg #[.bool g1a, .slice A1a k1a c1a, .slice A1b k1b c1b]) (by simp [results, Tryz.results120, go_sem, c16, c17, c18]) rfl ⟨⟨_, rfl, HR1.out⟩, HBw.out⟩
end Go.Proofs.YtodckaioeomccaaGreat
