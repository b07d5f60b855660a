/- The walks of integers and fractions of the package exact. -/
import Derived.Test.YtodckaioeomccaaGreatPart19
namespace Go.Proofs.YtodckaioeomccaaGreat
open Go.RowKit
set_option linter.unusedVariables false
set_option linter.unusedSimpArgs false
theorem RdN.slice {w : World} {v : Value} {n : Nat} (h : RdN w v n) : ∃ A k c, v = .slice A k c := let ⟨A, c, h1, _⟩ := h; ⟨A, _, c, h1⟩
/-- The cells of a block that was there. -/
theorem res2 {W w' : World} {b t : Nat} {c0 c1 : Value} (h : W.heap[b]? = some (.cells #[c0, c1] t (0, 0))) (hb : Below W.heap.size W w') :
    w'.cell? ⟨b, 0, none⟩ = some c0 ∧ w'.cell? ⟨b, 1, none⟩ = some c1 ∧ w'.frozen? ⟨b, 0, none⟩ = false ∧ w'.frozen? ⟨b, 1, none⟩ = false := by
  have h' := (hb.block b (Array.getElem?_eq_some_iff.1 h).1).trans h
  exact ⟨cell_of_row w' b 0 _ t (0, 0) h', cell_of_row w' b 1 _ t (0, 0) h', frozen_of_row w' b 0 _ t h', frozen_of_row w' b 1 _ t h'⟩
theorem res3 {W w' : World} {b t : Nat} {c0 c1 c2 : Value} (h : W.heap[b]? = some (.cells #[c0, c1, c2] t (0, 0))) (hb : Below W.heap.size W w') :
    w'.cell? ⟨b, 0, none⟩ = some c0 ∧ w'.cell? ⟨b, 1, none⟩ = some c1 ∧ w'.cell? ⟨b, 2, none⟩ = some c2 ∧ w'.frozen? ⟨b, 0, none⟩ = false ∧ w'.frozen? ⟨b, 1, none⟩ = false ∧ w'.frozen? ⟨b, 2, none⟩ = false := by
  have h' := (hb.block b (Array.getElem?_eq_some_iff.1 h).1).trans h
  exact ⟨cell_of_row w' b 0 _ t (0, 0) h', cell_of_row w' b 1 _ t (0, 0) h', cell_of_row w' b 2 _ t (0, 0) h', frozen_of_row w' b 0 _ t h', frozen_of_row w' b 1 _ t h', frozen_of_row w' b 2 _ t h'⟩
/-- A store to a cell that holds nothing of the list leaves the list as it reads. -/
theorem Rd.set_ {α : Type} {f : α → Value} {w : World} {S : Nat → Prop} {v : Value} {xs : List α} (h : Rd f w S v xs) {p : Addr} {c : Value} (hc : w.cell? p = some c) (hne : ∀ x, c ≠ f x) (u : Value) : Rd f (w.setCell p u) S v xs := by
  obtain ⟨A, cap, rfl, h1, h2, h3⟩ := h
  refine ⟨A, cap, rfl, h1, h2, fun hn => ?_⟩
  obtain ⟨b, off, rfl, hb, hcell⟩ := h3 hn
  refine ⟨b, off, rfl, hb, fun i hi => ?_⟩
  rw [World.cell?_setCell_other w p ⟨b, off + i, none⟩ u (fun e => by
    have h4 := hcell i hi
    rw [← e, hc] at h4
    exact hne _ (Option.some.inj h4))]
  exact hcell i hi
theorem Rd.set2 {α : Type} {f : α → Value} {w : World} {S : Nat → Prop} {v : Value} {xs : List α} (h : Rd f w S v xs) {b : Nat} {c0 c1 : Value} (h0 : w.cell? ⟨b, 0, none⟩ = some c0) (h1 : w.cell? ⟨b, 1, none⟩ = some c1) (n0 : ∀ x, c0 ≠ f x) (n1 : ∀ x, c1 ≠ f x) (u0 u1 : Value) :
    Rd f ((w.setCell ⟨b, 0, none⟩ u0).setCell ⟨b, 1, none⟩ u1) S v xs :=
  (h.set_ h0 n0 u0).set_ (c := c1) (by rw [World.cell?_setCell_other w ⟨b, 0, none⟩ ⟨b, 1, none⟩ u0 (by intro e; simp at e)]; exact h1) n1 u1
theorem Rd.set3 {α : Type} {f : α → Value} {w : World} {S : Nat → Prop} {v : Value} {xs : List α} (h : Rd f w S v xs) {b : Nat} {c0 c1 c2 : Value} (h0 : w.cell? ⟨b, 0, none⟩ = some c0) (h1 : w.cell? ⟨b, 1, none⟩ = some c1) (h2 : w.cell? ⟨b, 2, none⟩ = some c2) (n0 : ∀ x, c0 ≠ f x) (n1 : ∀ x, c1 ≠ f x) (n2 : ∀ x, c2 ≠ f x) (u0 u1 u2 : Value) :
    Rd f (((w.setCell ⟨b, 0, none⟩ u0).setCell ⟨b, 1, none⟩ u1).setCell ⟨b, 2, none⟩ u2) S v xs :=
  (h.set2 h0 h1 n0 n1 u0 u1).set_ (c := c2) (by
    rw [World.cell?_setCell_other (w.setCell ⟨b, 0, none⟩ u0) ⟨b, 1, none⟩ ⟨b, 2, none⟩ u1 (by intro e; simp at e), World.cell?_setCell_other w ⟨b, 0, none⟩ ⟨b, 2, none⟩ u0 (by intro e; simp at e)]; exact h2) n2 u2
theorem nwB (b : Bool) (k : Nat) : Value.bool b ≠ u64V k := by simp [u64V]
theorem nwS (A : Option Addr) (n c : Nat) (k : Nat) : Value.slice A n c ≠ u64V k := by simp [u64V]
theorem RdN.set2 {w : World} {v : Value} {n : Nat} (h : RdN w v n) {b : Nat} {c0 : Bool} {A : Option Addr} {m c : Nat} (h0 : w.cell? ⟨b, 0, none⟩ = some (.bool c0)) (h1 : w.cell? ⟨b, 1, none⟩ = some (.slice A m c)) (u0 u1 : Value) :
    RdN ((w.setCell ⟨b, 0, none⟩ u0).setCell ⟨b, 1, none⟩ u1) v n := Rd.set2 h h0 h1 (nwB _) (nwS _ _ _) u0 u1
theorem RdN.set3 {w : World} {v : Value} {n : Nat} (h : RdN w v n) {b : Nat} {c0 : Bool} {A A' : Option Addr} {m c m' c' : Nat} (h0 : w.cell? ⟨b, 0, none⟩ = some (.bool c0)) (h1 : w.cell? ⟨b, 1, none⟩ = some (.slice A m c)) (h2 : w.cell? ⟨b, 2, none⟩ = some (.slice A' m' c')) (u0 u1 u2 : Value) :
    RdN (((w.setCell ⟨b, 0, none⟩ u0).setCell ⟨b, 1, none⟩ u1).setCell ⟨b, 2, none⟩ u2) v n := Rd.set3 h h0 h1 h2 (nwB _) (nwS _ _ _) (nwS _ _ _) u0 u1 u2
theorem resL {W w' : World} {b t : Nat} {cs : Array Value} (h : W.heap[b]? = some (.cells cs t (0, 0))) (hb : Below W.heap.size W w') : ∀ i, w'.cell? ⟨b, i, none⟩ = cs[i]? ∧ w'.frozen? ⟨b, i, none⟩ = false := by
  have h' := (hb.block b (Array.getElem?_eq_some_iff.1 h).1).trans h
  exact fun i => ⟨cell_of_row w' b i _ t (0, 0) h', frozen_of_row w' b i _ t h'⟩
/-- An integer, given by its value. -/
def RdZ (w : World) (v : Value) (z : Int) : Prop := ∃ a, v = .agg #[.bool (decide (z < 0)), a] ∧ RdN w a z.natAbs
theorem RdZ.below {w w' : World} {v : Value} {z : Int} (h : RdZ w v z) (hb : Below w.heap.size w w') : RdZ w' v z := let ⟨a, h1, h2⟩ := h; ⟨a, h1, h2.below hb⟩
/-- An integer out of a sign and an absolute value. -/
def signed (neg : Bool) (n : Nat) : Int := if neg then -(n : Int) else n
theorem signed_abs (neg : Bool) (n : Nat) : (signed neg n).natAbs = n := by unfold signed; split <;> simp
theorem signed_neg (neg : Bool) (n : Nat) : decide (signed neg n < 0) = (neg && decide (0 < n)) := by
  unfold signed; cases neg <;> simp <;> omega
theorem under_none (v : Value) (w : World) (h : RdN w v 0) : Calls Tryz.prog 162 #[v] w fun e w' => (∃ v', e = .returned v' ∧ RdN w' v' 1) ∧ Below w.heap.size w w' := by
  have HW := Lib.hid (word_any 1 w (by unfold B64; omega))
  obtain ⟨A, k, c, rfl, e1, hk, _, hm, _⟩ := RdW.open_ h
  rw [digs_zero] at e1
  obtain rfl : k = 0 := by simpa using e1.symm
  clear e1 h
  go_enter Tryz.func162, Tryz.ntmps162
  go_wp2_with (go_at_call 209; refine HW.out.mono ?_; rintro e w3 ⟨⟨v3, rfl, hr3⟩, hb3⟩; have HR3 := Lib.hid hr3; have HB3 := Lib.hid hb3; clear hr3 hb3)
  go_ret
  exact ⟨⟨_, rfl, HR3.out⟩, HB3.out⟩
theorem under_many (v : Value) (n : Nat) (w : World) (h : RdN w v n) (hn : n ≠ 0) : Calls Tryz.prog 162 #[v] w fun e w' => e = .returned v ∧ w = w' := by
  obtain ⟨A, k, c, rfl, e1, hk, _, hm, _⟩ := RdW.open_ h
  have hkp : 0 < k := by have := dl_pos hn; unfold dl at this; omega
  have hkb : ((k : Int) == 0) = false := by simp; omega
  clear e1
  go_enter Tryz.func162, Tryz.ntmps162
  go_wp2_with fail
  go_ret
  exact ⟨rfl, rfl⟩
/-- A denominator as it is stored: none for 1. -/
def den1 (d : Nat) : Nat := if d = 1 then 0 else d
theorem under_any (v : Value) (d : Nat) (w : World) (hd : d ≠ 0) (h : RdN w v (den1 d)) : Calls Tryz.prog 162 #[v] w fun e w' => (∃ v', e = .returned v' ∧ RdN w' v' d) ∧ Below w.heap.size w w' := by
  unfold den1 at h
  by_cases h1 : d = 1
  · rw [if_pos h1] at h
    rw [h1]
    exact under_none v w h
  · rw [if_neg h1] at h
    exact (under_many v d w h hd).mono fun e w' ⟨he, hw⟩ => ⟨⟨v, he, hw ▸ h⟩, hw ▸ Below.refl _ _⟩
set_option maxHeartbeats 1000000 in
theorem whole_any (neg : Bool) (v : Value) (n : Nat) (w : World) (h : RdN w v n) : Calls Tryz.prog 199 #[.bool neg, v] w fun e w' => (∃ v', e = .returned v' ∧ RdZ w' v' (signed neg n)) ∧ Below w.heap.size w w' := by
  have H := Lib.hid h
  obtain ⟨A, k, c, rfl, e1, hk, _, hm, _⟩ := RdW.open_ h
  have HZ : Hid ((neg && decide (0 < k)) = decide (signed neg n < 0)) := by
    show _ = _
    rw [signed_neg]
    congr 1
    rw [Bool.eq_iff_iff, decide_eq_true_iff, decide_eq_true_iff]
    have h1 : dl n = k := e1
    constructor
    · intro h2
      rcases Nat.eq_zero_or_pos n with h0 | h0
      · rw [h0, dl_zero] at h1; omega
      · exact h0
    · intro h2; have := dl_pos (show n ≠ 0 by omega); omega
  have HA := Lib.hid (signed_abs neg n)
  clear h e1
  cases neg
  · go_enter Tryz.func199, Tryz.ntmps199
    go_wp2_with fail
    exact bodyPost_ret (v := .agg #[.bool false, .slice A k c]) (by simp [results, Tryz.results199, go_sem]) rfl ⟨⟨_, rfl, _, by rw [← HZ.out]; rfl, by rw [HA.out]; exact H.out.below ((Below.refl _ w).alloc (Nat.le_refl _) _)⟩, (Below.refl _ w).alloc (Nat.le_refl _) _⟩
  · go_enter Tryz.func199, Tryz.ntmps199
    go_wp2_with fail
    exact bodyPost_ret (v := .agg #[.bool (decide (0 < k)), .slice A k c]) (by simp [results, Tryz.results199, go_sem]) rfl ⟨⟨_, rfl, _, by rw [← HZ.out]; rfl, by rw [HA.out]; exact H.out.below ((Below.refl _ w).alloc (Nat.le_refl _) _)⟩, (Below.refl _ w).alloc (Nat.le_refl _) _⟩
set_option maxHeartbeats 1000000 in
theorem of_any (n : Int) (w : World) (h1 : -9223372036854775808 ≤ n) (h2 : n ≤ 9223372036854775807) : Calls Tryz.prog 136 #[.int .i64 n] w fun e w' => (∃ v', e = .returned v' ∧ RdZ w' v' n) ∧ Below w.heap.size w w' := by
  obtain ⟨k, hk⟩ : ∃ k : Nat, k = n.natAbs := ⟨_, rfl⟩
  have hkB : k < B64 := by unfold B64; omega
  have HK := Lib.hid hk
  have HW := Lib.hid (fun w' => word_any k w' hkB)
  by_cases h0 : n < 0
  · have hd : decide (n < 0) = true := decide_eq_true h0
    have hc1 : IntKind.u64.wrap (-(IntKind.u64.wrap n)) = (k : Int) := by rw [IntKind.wrap_u64, IntKind.wrap_u64]; omega
    obtain ⟨m, hm⟩ : ∃ m : Nat, m = 18446744073709551616 - k := ⟨_, rfl⟩
    have hc2 : IntKind.u64.wrap n = (m : Int) := by rw [IntKind.wrap_u64]; unfold B64 at hkB; omega
    rw [hc2] at hc1
    have hN : Hid (decide (n < 0) = true) := hd
    have HRS : Hid (∀ w', Below (w.alloc (.cells #[.bool false, .slice none 0 0] 27)).heap.size (w.alloc (.cells #[.bool false, .slice none 0 0] 27)) w' → _) := fun w' h => res2 (heap_alloc_new w _) h
    clear hk hkB hm
    go_enter Tryz.func136, Tryz.ntmps136
    go_wp2_with (go_at_call 209; refine (HW.out _).mono ?_; rintro e w3 ⟨⟨v3, rfl, hr3⟩, hb3⟩; obtain ⟨A3, n3, c3, rfl⟩ := hr3.slice; have HR3 := Lib.hid hr3; have HB3 := Lib.hid hb3; obtain ⟨q0, q1, q2, q3⟩ := HRS.out _ hb3; clear hr3 hb3)
    have hbw : Below w.heap.size w w3 := ((Below.refl _ w).alloc (Nat.le_refl _) _).trans (HB3.out.mono (by simp))
    exact bodyPost_ret (v := .agg #[.bool true, .slice A3 n3 c3]) (by simp [results, Tryz.results136, go_sem, q0, q1]) rfl ⟨⟨_, rfl, _, by rw [hN.out], by rw [← HK.out]; exact HR3.out.set2 q0 q1 _ _⟩, (hbw.setCell (Nat.le_refl _) _).setCell (Nat.le_refl _) _⟩
  · have hd : decide (n < 0) = false := decide_eq_false h0
    have hc2 : IntKind.u64.wrap n = (k : Int) := by rw [IntKind.wrap_u64]; unfold B64 at hkB; omega
    have hN : Hid (decide (n < 0) = false) := hd
    have HRS : Hid (∀ w', Below (w.alloc (.cells #[.bool false, .slice none 0 0] 27)).heap.size (w.alloc (.cells #[.bool false, .slice none 0 0] 27)) w' → _) := fun w' h => res2 (heap_alloc_new w _) h
    clear hk hkB
    go_enter Tryz.func136, Tryz.ntmps136
    go_wp2_with (go_at_call 209; refine (HW.out _).mono ?_; rintro e w3 ⟨⟨v3, rfl, hr3⟩, hb3⟩; obtain ⟨A3, n3, c3, rfl⟩ := hr3.slice; have HR3 := Lib.hid hr3; have HB3 := Lib.hid hb3; obtain ⟨q0, q1, q2, q3⟩ := HRS.out _ hb3; clear hr3 hb3)
    have hbw : Below w.heap.size w w3 := ((Below.refl _ w).alloc (Nat.le_refl _) _).trans (HB3.out.mono (by simp))
    exact bodyPost_ret (v := .agg #[.bool false, .slice A3 n3 c3]) (by simp [results, Tryz.results136, go_sem, q0, q1]) rfl ⟨⟨_, rfl, _, by rw [hN.out], by rw [← HK.out]; exact HR3.out.set2 q0 q1 _ _⟩, (hbw.setCell (Nat.le_refl _) _).setCell (Nat.le_refl _) _⟩
theorem signed_decide (z : Int) (n : Nat) : signed (decide (z < 0)) (z.natAbs * n) = z * n := by
  unfold signed
  by_cases h : z < 0
  · rw [if_pos (by simpa using h), Int.natCast_mul, ← Int.neg_mul]
    congr 1; omega
  · rw [if_neg (by simpa using h), Int.natCast_mul]
    congr 1; omega
set_option maxRecDepth 100000 in
set_option maxHeartbeats 1000000 in
theorem scaled_any (v vn : Value) (z : Int) (n : Nat) (w : World) (hv : RdZ w v z) (hn : RdN w vn n) (hz6 : dl z.natAbs ≤ 900000) (hn6 : dl n ≤ 900000) :
    Calls Tryz.prog 164 #[v, vn] w fun e w' => (∃ v', e = .returned v' ∧ RdZ w' v' (z * n)) ∧ Below w.heap.size w w' := by
  obtain ⟨a, rfl, ha⟩ := hv
  obtain ⟨Aa, ka, ca, rfl⟩ := ha.slice
  obtain ⟨ng, hng⟩ : ∃ b, b = decide (z < 0) := ⟨_, rfl⟩
  rw [← hng]
  have HSG : Hid (signed ng (z.natAbs * n) = z * n) := by show _ = _; rw [hng]; exact signed_decide z n
  have HTI := Lib.hid (fun w' (hb : Below w.heap.size w w') => times_any _ vn z.natAbs n w' (ha.below hb) (hn.below hb) (by omega) (by omega))
  clear ha hn hng
  obtain ⟨W2, hW2⟩ : ∃ W2, W2 = ((w.alloc (Obj.cells #[Value.bool ng, Value.slice Aa ka ca] 27)).alloc (Obj.cells #[Value.bool false, Value.slice none 0 0] 27)) := ⟨_, rfl⟩
  have hb2w : Below w.heap.size w W2 := by rw [hW2]; exact ((Below.refl _ w).alloc (by simp <;> omega) _).alloc (by simp <;> omega) _
  have hsz2 : w.heap.size + 2 ≤ W2.heap.size := by rw [hW2]; simp
  have HARG0 : Hid (∀ w', Below W2.heap.size W2 w' → _) := fun w' h => resL (cs := #[Value.bool ng, Value.slice Aa ka ca]) (b := w.heap.size) (t := 27) (by rw [hW2, Below.heap_alloc _ _ _ (by simp <;> omega)]; have hx := heap_alloc_new w (.cells #[Value.bool ng, Value.slice Aa ka ca] 27); simpa using hx) h
  have HRES0 : Hid (∀ w', Below W2.heap.size W2 w' → _) := fun w' h => resL (cs := #[Value.bool false, Value.slice none 0 0]) (b := w.heap.size + 1) (t := 27) (by rw [hW2]; have hx := heap_alloc_new (w.alloc (Obj.cells #[Value.bool ng, Value.slice Aa ka ca] 27)) (.cells #[Value.bool false, Value.slice none 0 0] 27); simpa using hx) h
  have HB2W := Lib.hid hb2w
  have HSZ2 := Lib.hid hsz2
  have HW2 := Lib.hid hW2
  have HBs : Hid (Below W2.heap.size W2 W2) := Below.refl _ _
  clear hW2 hb2w hsz2
  go_enter Tryz.func164, Tryz.ntmps164
  go_wp2_with fail
  rw [← HW2.out]
  have HBD1 : Hid (Below W2.heap.size W2 W2.drew) := HBs.out.drew
  have dd0 := HARG0.out _ HBD1.out
  refine seq_start (S := fun w' => w'.cell? ⟨w.heap.size, 0, none⟩ = some (Value.bool ng) ∧ w'.cell? ⟨w.heap.size, 1, none⟩ = some (Value.slice Aa ka ca)) (by kernel_rfl) (by kernel_rfl) (by exact ⟨(dd0 0).1, (dd0 1).1⟩) ?_
  clear dd0
  repeat (first
    | (refine seq_take0 (v := ?_) ?_ (fun _ _ _ h => h) (by kernel_rfl) ?_ ?_; rotate_left; (focus rfl); (focus (intro w' hSw; (try dsimp only at hSw); go_simp; (try with_reducible rfl); done)); (try simp only [Act.put, List.setIfInBounds_toArray, List.set_cons_zero, List.set_cons_succ]))
    | (refine seq_takeG (v := ?_) (g := ?_) (d := ?_) (b := ?_) (u := ?_) ?_ ?_ ?_ ?_ (fun _ _ _ h => h) (by kernel_rfl) ?_ ?_; rotate_left 5; (focus rfl); (focus rfl); (focus rfl); (focus (first | rfl | (go_simp; done))); (focus (intro w' hSw; (try dsimp only at hSw); go_simp; (try with_reducible rfl); done)); (try simp only [Act.put, List.setIfInBounds_toArray, List.set_cons_zero, List.set_cons_succ]))
    | (refine seq_skipG (g := ?_) (d := ?_) (b := ?_) (u := ?_) ?_ ?_ ?_ ?_ (fun _ _ _ h => h) (by kernel_rfl) ?_; rotate_left 4; (focus rfl); (focus rfl); (focus rfl); (focus (first | rfl | (go_simp; done))); (try simp only [Act.put, List.setIfInBounds_toArray, List.set_cons_zero, List.set_cons_succ])))
  refine seq_op (by kernel_rfl) (by rfl) (fun K hK => ?_)
  go_simp
  refine (HTI.out _ (HB2W.out.trans (HBD1.out.mono HB2W.out.size))).mono ?_
  rintro e w3 ⟨⟨v3, rfl, hr3⟩, hbx⟩
  obtain ⟨A3, n3, c3, rfl⟩ := hr3.slice
  have HR3 := Lib.hid hr3
  have HB_w3 : Hid (Below W2.heap.size W2 w3) := HBD1.out.trans (hbx.mono HBD1.out.size)
  have dd0 := HARG0.out _ HB_w3.out
  refine hK.out _ _ (by exact ⟨(dd0 0).1, (dd0 1).1⟩) ?_
  clear hK K dd0 hbx hr3
  repeat (first
    | (refine seq_take0 (v := ?_) ?_ (fun _ _ _ h => h) (by kernel_rfl) ?_ ?_; rotate_left; (focus rfl); (focus (intro w' hSw; (try dsimp only at hSw); go_simp; (try with_reducible rfl); done)); (try simp only [Act.put, List.setIfInBounds_toArray, List.set_cons_zero, List.set_cons_succ]))
    | (refine seq_takeG (v := ?_) (g := ?_) (d := ?_) (b := ?_) (u := ?_) ?_ ?_ ?_ ?_ (fun _ _ _ h => h) (by kernel_rfl) ?_ ?_; rotate_left 5; (focus rfl); (focus rfl); (focus rfl); (focus (first | rfl | (go_simp; done))); (focus (intro w' hSw; (try dsimp only at hSw); go_simp; (try with_reducible rfl); done)); (try simp only [Act.put, List.setIfInBounds_toArray, List.set_cons_zero, List.set_cons_succ]))
    | (refine seq_skipG (g := ?_) (d := ?_) (b := ?_) (u := ?_) ?_ ?_ ?_ ?_ (fun _ _ _ h => h) (by kernel_rfl) ?_; rotate_left 4; (focus rfl); (focus rfl); (focus rfl); (focus (first | rfl | (go_simp; done))); (try simp only [Act.put, List.setIfInBounds_toArray, List.set_cons_zero, List.set_cons_succ])))
  refine seq_op (by kernel_rfl) (by rfl) (fun K hK => ?_)
  go_simp
  refine (whole_any _ _ _ _ HR3.out).mono ?_
  rintro e w4 ⟨⟨v4, rfl, hz4⟩, hbx⟩
  rw [HSG.out] at hz4
  obtain ⟨a4, rfl, hr4⟩ := hz4
  obtain ⟨A4, n4, c4, rfl⟩ := hr4.slice
  have HR4 := Lib.hid hr4
  have HB_w4 : Hid (Below W2.heap.size W2 w4) := HB_w3.out.trans (hbx.mono HB_w3.out.size)
  have dd0 := HARG0.out _ HB_w4.out
  refine hK.out _ _ (by exact ⟨(dd0 0).1, (dd0 1).1⟩) ?_
  clear hK K dd0 hbx hr4
  repeat (first
    | (refine seq_take0 (v := ?_) ?_ (fun _ _ _ h => h) (by kernel_rfl) ?_ ?_; rotate_left; (focus rfl); (focus (intro w' hSw; (try dsimp only at hSw); go_simp; (try with_reducible rfl); done)); (try simp only [Act.put, List.setIfInBounds_toArray, List.set_cons_zero, List.set_cons_succ]))
    | (refine seq_takeG (v := ?_) (g := ?_) (d := ?_) (b := ?_) (u := ?_) ?_ ?_ ?_ ?_ (fun _ _ _ h => h) (by kernel_rfl) ?_ ?_; rotate_left 5; (focus rfl); (focus rfl); (focus rfl); (focus (first | rfl | (go_simp; done))); (focus (intro w' hSw; (try dsimp only at hSw); go_simp; (try with_reducible rfl); done)); (try simp only [Act.put, List.setIfInBounds_toArray, List.set_cons_zero, List.set_cons_succ]))
    | (refine seq_skipG (g := ?_) (d := ?_) (b := ?_) (u := ?_) ?_ ?_ ?_ ?_ (fun _ _ _ h => h) (by kernel_rfl) ?_; rotate_left 4; (focus rfl); (focus rfl); (focus rfl); (focus (first | rfl | (go_simp; done))); (try simp only [Act.put, List.setIfInBounds_toArray, List.set_cons_zero, List.set_cons_succ])))
  refine seq_op (by kernel_rfl) (by rfl) (fun K hK => ?_)
  have qq := HRES0.out _ HB_w4.out
  have q0 := (qq 0).1
  have q1 := (qq 1).1
  have qf0 := (qq 0).2
  have qf1 := (qq 1).2
  simp only [List.getElem?_toArray, List.getElem?_cons_zero, List.getElem?_cons_succ] at q0 q1
  clear qq
  go_simp
  have dd0 := HARG0.out _ HB_w4.out
  refine hK.out _ _ (by go_simp; (first | done | exact ⟨(dd0 0).1, (dd0 1).1⟩)) ?_
  clear hK K dd0
  repeat (first
    | (refine seq_take0 (v := ?_) ?_ (fun _ _ _ h => h) (by kernel_rfl) ?_ ?_; rotate_left; (focus rfl); (focus (intro w' hSw; (try dsimp only at hSw); go_simp; (try with_reducible rfl); done)); (try simp only [Act.put, List.setIfInBounds_toArray, List.set_cons_zero, List.set_cons_succ]))
    | (refine seq_takeG (v := ?_) (g := ?_) (d := ?_) (b := ?_) (u := ?_) ?_ ?_ ?_ ?_ (fun _ _ _ h => h) (by kernel_rfl) ?_ ?_; rotate_left 5; (focus rfl); (focus rfl); (focus rfl); (focus (first | rfl | (go_simp; done))); (focus (intro w' hSw; (try dsimp only at hSw); go_simp; (try with_reducible rfl); done)); (try simp only [Act.put, List.setIfInBounds_toArray, List.set_cons_zero, List.set_cons_succ]))
    | (refine seq_skipG (g := ?_) (d := ?_) (b := ?_) (u := ?_) ?_ ?_ ?_ ?_ (fun _ _ _ h => h) (by kernel_rfl) ?_; rotate_left 4; (focus rfl); (focus rfl); (focus rfl); (focus (first | rfl | (go_simp; done))); (try simp only [Act.put, List.setIfInBounds_toArray, List.set_cons_zero, List.set_cons_succ])))
  refine seq_done (by kernel_rfl) ?_
  go_wp2_with fail
  have hbw := HB2W.out.trans (HB_w4.out.mono HB2W.out.size)
  exact bodyPost_ret (v := .agg #[.bool (decide (z * n < 0)), .slice A4 n4 c4]) (by simp [results, Tryz.results164, go_sem, q0, q1]) rfl ⟨⟨_, rfl, _, rfl, HR4.out.set2 q0 q1 _ _⟩, (hbw.setCell (by simp <;> omega) _).setCell (by simp <;> omega) _⟩
theorem signed_sum {z y : Int} (h : decide (z < 0) = decide (y < 0)) : signed (decide (z < 0)) (z.natAbs + y.natAbs) = z + y := by
  unfold signed
  by_cases h1 : z < 0
  · have h2 : y < 0 := by simpa [h1] using h
    rw [if_pos (by simpa using h1)]; omega
  · have h2 : ¬ y < 0 := by simpa [h1] using h
    rw [if_neg (by simpa using h1)]; omega
theorem signed_diff {z y : Int} (h : decide (z < 0) ≠ decide (y < 0)) (hle : y.natAbs ≤ z.natAbs) : signed (decide (z < 0)) (z.natAbs - y.natAbs) = z + y := by
  unfold signed
  by_cases h1 : z < 0
  · have h2 : ¬ y < 0 := by simpa [h1] using h
    rw [if_pos (by simpa using h1)]; omega
  · have h2 : y < 0 := by simpa [h1] using h
    rw [if_neg (by simpa using h1)]; omega
set_option maxRecDepth 100000 in
set_option maxHeartbeats 4000000 in
theorem iplus_any (v u : Value) (z y : Int) (w : World) (hv : RdZ w v z) (hu : RdZ w u y) (hz6 : dl z.natAbs ≤ 900000) (hy6 : dl y.natAbs ≤ 900000) :
    Calls Tryz.prog 165 #[v, u] w fun e w' => (∃ v', e = .returned v' ∧ RdZ w' v' (z + y)) ∧ Below w.heap.size w w' := by
  obtain ⟨a, rfl, ha⟩ := hv
  obtain ⟨b, rfl, hb⟩ := hu
  obtain ⟨Aa, ka, ca, rfl⟩ := ha.slice
  obtain ⟨Ab, kb, cb, rfl⟩ := hb.slice
  obtain ⟨ng, hng⟩ : ∃ b, b = decide (z < 0) := ⟨_, rfl⟩
  obtain ⟨nh, hnh⟩ : ∃ b, b = decide (y < 0) := ⟨_, rfl⟩
  rw [← hng, ← hnh]
  have HPL := Lib.hid (fun w' (h : Below w.heap.size w w') => plus_any _ _ z.natAbs y.natAbs w' (ha.below h) (hb.below h) (by omega) (by omega))
  have HCM := Lib.hid (fun w' (h : Below w.heap.size w w') => cmp_any _ _ z.natAbs y.natAbs w' (ha.below h) (hb.below h))
  have HM1 := Lib.hid (fun w' (h : Below w.heap.size w w') (hle : y.natAbs ≤ z.natAbs) => minus_any _ _ z.natAbs y.natAbs w' (ha.below h) (hb.below h) hle (by omega))
  have HM2 := Lib.hid (fun w' (h : Below w.heap.size w w') (hle : z.natAbs ≤ y.natAbs) => minus_any _ _ y.natAbs z.natAbs w' (hb.below h) (ha.below h) hle (by omega))
  have HNG := Lib.hid hng
  have HNH := Lib.hid hnh
  clear ha hb hng hnh
  obtain ⟨W2, hW2⟩ : ∃ W2, W2 = (((w.alloc (Obj.cells #[Value.bool ng, Value.slice Aa ka ca] 27)).alloc (Obj.cells #[Value.bool nh, Value.slice Ab kb cb] 27)).alloc (Obj.cells #[Value.bool false, Value.slice none 0 0] 27)) := ⟨_, rfl⟩
  have hb2w : Below w.heap.size w W2 := by rw [hW2]; exact (((Below.refl _ w).alloc (by simp <;> omega) _).alloc (by simp <;> omega) _).alloc (by simp <;> omega) _
  have hsz2 : w.heap.size + 3 ≤ W2.heap.size := by rw [hW2]; simp
  have HARG0 : Hid (∀ w', Below W2.heap.size W2 w' → _) := fun w' h => resL (cs := #[Value.bool ng, Value.slice Aa ka ca]) (b := w.heap.size) (t := 27) (by rw [hW2, Below.heap_alloc _ _ _ (by simp <;> omega), Below.heap_alloc _ _ _ (by simp <;> omega)]; have hx := heap_alloc_new w (.cells #[Value.bool ng, Value.slice Aa ka ca] 27); simpa using hx) h
  have HARG1 : Hid (∀ w', Below W2.heap.size W2 w' → _) := fun w' h => resL (cs := #[Value.bool nh, Value.slice Ab kb cb]) (b := w.heap.size + 1) (t := 27) (by rw [hW2, Below.heap_alloc _ _ _ (by simp <;> omega)]; have hx := heap_alloc_new (w.alloc (Obj.cells #[Value.bool ng, Value.slice Aa ka ca] 27)) (.cells #[Value.bool nh, Value.slice Ab kb cb] 27); simpa using hx) h
  have HRES0 : Hid (∀ w', Below W2.heap.size W2 w' → _) := fun w' h => resL (cs := #[Value.bool false, Value.slice none 0 0]) (b := w.heap.size + 2) (t := 27) (by rw [hW2]; have hx := heap_alloc_new ((w.alloc (Obj.cells #[Value.bool ng, Value.slice Aa ka ca] 27)).alloc (Obj.cells #[Value.bool nh, Value.slice Ab kb cb] 27)) (.cells #[Value.bool false, Value.slice none 0 0] 27); simpa using hx) h
  have HB2W := Lib.hid hb2w
  have HSZ2 := Lib.hid hsz2
  have HW2 := Lib.hid hW2
  have HBs : Hid (Below W2.heap.size W2 W2) := Below.refl _ _
  clear hW2 hb2w hsz2
  by_cases hE : ng = nh
  · have hEb : (ng == nh) = true := by simp [hE]
    have HSG : Hid (signed ng (z.natAbs + y.natAbs) = z + y) := by show _ = _; rw [HNG.out]; exact signed_sum (by rw [← HNG.out, ← HNH.out, hE])
    clear hE
    go_enter Tryz.func165, Tryz.ntmps165
    go_wp2_with fail
    rw [← HW2.out]
    have HBD1 : Hid (Below W2.heap.size W2 W2.drew) := HBs.out.drew
    have dd0 := HARG0.out _ HBD1.out
    have dd1 := HARG1.out _ HBD1.out
    refine seq_start (S := fun w' => w'.cell? ⟨w.heap.size, 0, none⟩ = some (Value.bool ng) ∧ w'.cell? ⟨w.heap.size, 1, none⟩ = some (Value.slice Aa ka ca) ∧ w'.cell? ⟨w.heap.size + 1, 0, none⟩ = some (Value.bool nh) ∧ w'.cell? ⟨w.heap.size + 1, 1, none⟩ = some (Value.slice Ab kb cb)) (by kernel_rfl) (by kernel_rfl) (by exact ⟨(dd0 0).1, (dd0 1).1, (dd1 0).1, (dd1 1).1⟩) ?_
    clear dd0 dd1
    repeat (first
      | (refine seq_take0 (v := ?_) ?_ (fun _ _ _ h => h) (by kernel_rfl) ?_ ?_; rotate_left; (focus rfl); (focus (intro w' hSw; (try dsimp only at hSw); go_simp; (try with_reducible rfl); done)); (try simp only [Act.put, List.setIfInBounds_toArray, List.set_cons_zero, List.set_cons_succ]))
      | (refine seq_takeG (v := ?_) (g := ?_) (d := ?_) (b := ?_) (u := ?_) ?_ ?_ ?_ ?_ (fun _ _ _ h => h) (by kernel_rfl) ?_ ?_; rotate_left 5; (focus rfl); (focus rfl); (focus rfl); (focus (first | rfl | (go_simp; done))); (focus (intro w' hSw; (try dsimp only at hSw); go_simp; (try with_reducible rfl); done)); (try simp only [Act.put, List.setIfInBounds_toArray, List.set_cons_zero, List.set_cons_succ]))
      | (refine seq_skipG (g := ?_) (d := ?_) (b := ?_) (u := ?_) ?_ ?_ ?_ ?_ (fun _ _ _ h => h) (by kernel_rfl) ?_; rotate_left 4; (focus rfl); (focus rfl); (focus rfl); (focus (first | rfl | (go_simp; done))); (try simp only [Act.put, List.setIfInBounds_toArray, List.set_cons_zero, List.set_cons_succ])))
    refine seq_op (by kernel_rfl) (by rfl) (fun K hK => ?_)
    go_simp
    refine (HPL.out _ (HB2W.out.trans (HBD1.out.mono HB2W.out.size))).mono ?_
    rintro e w3 ⟨⟨v3, rfl, hr3⟩, hbx⟩
    obtain ⟨A3, n3, c3, rfl⟩ := hr3.slice
    have HR3 := Lib.hid hr3
    have HB_w3 : Hid (Below W2.heap.size W2 w3) := HBD1.out.trans (hbx.mono HBD1.out.size)
    have dd0 := HARG0.out _ HB_w3.out
    have dd1 := HARG1.out _ HB_w3.out
    refine hK.out _ _ (by exact ⟨(dd0 0).1, (dd0 1).1, (dd1 0).1, (dd1 1).1⟩) ?_
    clear hK K dd0 dd1 hbx hr3
    repeat (first
      | (refine seq_take0 (v := ?_) ?_ (fun _ _ _ h => h) (by kernel_rfl) ?_ ?_; rotate_left; (focus rfl); (focus (intro w' hSw; (try dsimp only at hSw); go_simp; (try with_reducible rfl); done)); (try simp only [Act.put, List.setIfInBounds_toArray, List.set_cons_zero, List.set_cons_succ]))
      | (refine seq_takeG (v := ?_) (g := ?_) (d := ?_) (b := ?_) (u := ?_) ?_ ?_ ?_ ?_ (fun _ _ _ h => h) (by kernel_rfl) ?_ ?_; rotate_left 5; (focus rfl); (focus rfl); (focus rfl); (focus (first | rfl | (go_simp; done))); (focus (intro w' hSw; (try dsimp only at hSw); go_simp; (try with_reducible rfl); done)); (try simp only [Act.put, List.setIfInBounds_toArray, List.set_cons_zero, List.set_cons_succ]))
      | (refine seq_skipG (g := ?_) (d := ?_) (b := ?_) (u := ?_) ?_ ?_ ?_ ?_ (fun _ _ _ h => h) (by kernel_rfl) ?_; rotate_left 4; (focus rfl); (focus rfl); (focus rfl); (focus (first | rfl | (go_simp; done))); (try simp only [Act.put, List.setIfInBounds_toArray, List.set_cons_zero, List.set_cons_succ])))
    refine seq_op (by kernel_rfl) (by rfl) (fun K hK => ?_)
    go_simp
    refine (whole_any _ _ _ _ HR3.out).mono ?_
    rintro e w4 ⟨⟨v4, rfl, hz4⟩, hbx⟩
    rw [HSG.out] at hz4
    obtain ⟨a4, rfl, hr4⟩ := hz4
    obtain ⟨A4, n4, c4, rfl⟩ := hr4.slice
    have HR4 := Lib.hid hr4
    have HB_w4 : Hid (Below W2.heap.size W2 w4) := HB_w3.out.trans (hbx.mono HB_w3.out.size)
    have dd0 := HARG0.out _ HB_w4.out
    have dd1 := HARG1.out _ HB_w4.out
    refine hK.out _ _ (by exact ⟨(dd0 0).1, (dd0 1).1, (dd1 0).1, (dd1 1).1⟩) ?_
    clear hK K dd0 dd1 hbx hr4
    repeat (first
      | (refine seq_take0 (v := ?_) ?_ (fun _ _ _ h => h) (by kernel_rfl) ?_ ?_; rotate_left; (focus rfl); (focus (intro w' hSw; (try dsimp only at hSw); go_simp; (try with_reducible rfl); done)); (try simp only [Act.put, List.setIfInBounds_toArray, List.set_cons_zero, List.set_cons_succ]))
      | (refine seq_takeG (v := ?_) (g := ?_) (d := ?_) (b := ?_) (u := ?_) ?_ ?_ ?_ ?_ (fun _ _ _ h => h) (by kernel_rfl) ?_ ?_; rotate_left 5; (focus rfl); (focus rfl); (focus rfl); (focus (first | rfl | (go_simp; done))); (focus (intro w' hSw; (try dsimp only at hSw); go_simp; (try with_reducible rfl); done)); (try simp only [Act.put, List.setIfInBounds_toArray, List.set_cons_zero, List.set_cons_succ]))
      | (refine seq_skipG (g := ?_) (d := ?_) (b := ?_) (u := ?_) ?_ ?_ ?_ ?_ (fun _ _ _ h => h) (by kernel_rfl) ?_; rotate_left 4; (focus rfl); (focus rfl); (focus rfl); (focus (first | rfl | (go_simp; done))); (try simp only [Act.put, List.setIfInBounds_toArray, List.set_cons_zero, List.set_cons_succ])))
    refine seq_op (by kernel_rfl) (by rfl) (fun K hK => ?_)
    have qq := HRES0.out _ HB_w4.out
    have q0 := (qq 0).1
    have q1 := (qq 1).1
    have qf0 := (qq 0).2
    have qf1 := (qq 1).2
    simp only [List.getElem?_toArray, List.getElem?_cons_zero, List.getElem?_cons_succ] at q0 q1
    clear qq
    go_simp
    have dd0 := HARG0.out _ HB_w4.out
    have dd1 := HARG1.out _ HB_w4.out
    refine hK.out _ _ (by go_simp; (first | done | exact ⟨(dd0 0).1, (dd0 1).1, (dd1 0).1, (dd1 1).1⟩)) ?_
    clear hK K dd0 dd1
    repeat (first
      | (refine seq_take0 (v := ?_) ?_ (fun _ _ _ h => h) (by kernel_rfl) ?_ ?_; rotate_left; (focus rfl); (focus (intro w' hSw; (try dsimp only at hSw); go_simp; (try with_reducible rfl); done)); (try simp only [Act.put, List.setIfInBounds_toArray, List.set_cons_zero, List.set_cons_succ]))
      | (refine seq_takeG (v := ?_) (g := ?_) (d := ?_) (b := ?_) (u := ?_) ?_ ?_ ?_ ?_ (fun _ _ _ h => h) (by kernel_rfl) ?_ ?_; rotate_left 5; (focus rfl); (focus rfl); (focus rfl); (focus (first | rfl | (go_simp; done))); (focus (intro w' hSw; (try dsimp only at hSw); go_simp; (try with_reducible rfl); done)); (try simp only [Act.put, List.setIfInBounds_toArray, List.set_cons_zero, List.set_cons_succ]))
      | (refine seq_skipG (g := ?_) (d := ?_) (b := ?_) (u := ?_) ?_ ?_ ?_ ?_ (fun _ _ _ h => h) (by kernel_rfl) ?_; rotate_left 4; (focus rfl); (focus rfl); (focus rfl); (focus (first | rfl | (go_simp; done))); (try simp only [Act.put, List.setIfInBounds_toArray, List.set_cons_zero, List.set_cons_succ])))
    refine seq_done (by kernel_rfl) ?_
    go_wp2_with fail
    have hbw := HB2W.out.trans (HB_w4.out.mono HB2W.out.size)
    exact bodyPost_ret (v := .agg #[.bool (decide (z + y < 0)), .slice A4 n4 c4]) (by simp [results, Tryz.results165, go_sem, q0, q1]) rfl ⟨⟨_, rfl, _, rfl, HR4.out.set2 q0 q1 _ _⟩, (hbw.setCell (by simp <;> omega) _).setCell (by simp <;> omega) _⟩
  · have hEb : (ng == nh) = false := by simp [hE]
    have HE : Hid (decide (z < 0) ≠ decide (y < 0)) := by show _ ≠ _; rw [← HNG.out, ← HNH.out]; exact hE
    clear hE
    by_cases hle : y.natAbs ≤ z.natAbs
    · have HSG : Hid (signed ng (z.natAbs - y.natAbs) = z + y) := by show _ = _; rw [HNG.out]; exact signed_diff HE.out hle
      have HLE := Lib.hid hle
      obtain ⟨cv, hcv⟩ : ∃ c, c = cmpN z.natAbs y.natAbs := ⟨_, rfl⟩
      rw [← hcv] at HCM
      have hcn : 0 ≤ cv := by rw [hcv]; unfold cmpN; rw [if_neg (by omega)]; split <;> omega
      have hcb : decide (0 ≤ cv) = true := by simpa using hcn
      clear hle hcv
      go_enter Tryz.func165, Tryz.ntmps165
      go_wp2_with (go_at_call 127; refine (HCM.out _ (by rw [← HW2.out]; exact HB2W.out)).mono ?_; rintro e w5 ⟨rfl, hbx⟩; rw [← HW2.out] at hbx; have HB_w5 := Lib.hid hbx; clear hbx)
      have HBD1 : Hid (Below W2.heap.size W2 w5.drew) := HB_w5.out.drew
      have dd0 := HARG0.out _ HBD1.out
      have dd1 := HARG1.out _ HBD1.out
      refine seq_start (S := fun w' => w'.cell? ⟨w.heap.size, 0, none⟩ = some (Value.bool ng) ∧ w'.cell? ⟨w.heap.size, 1, none⟩ = some (Value.slice Aa ka ca) ∧ w'.cell? ⟨w.heap.size + 1, 0, none⟩ = some (Value.bool nh) ∧ w'.cell? ⟨w.heap.size + 1, 1, none⟩ = some (Value.slice Ab kb cb)) (by kernel_rfl) (by kernel_rfl) (by exact ⟨(dd0 0).1, (dd0 1).1, (dd1 0).1, (dd1 1).1⟩) ?_
      clear dd0 dd1
      repeat (first
        | (refine seq_take0 (v := ?_) ?_ (fun _ _ _ h => h) (by kernel_rfl) ?_ ?_; rotate_left; (focus rfl); (focus (intro w' hSw; (try dsimp only at hSw); go_simp; (try with_reducible rfl); done)); (try simp only [Act.put, List.setIfInBounds_toArray, List.set_cons_zero, List.set_cons_succ]))
        | (refine seq_takeG (v := ?_) (g := ?_) (d := ?_) (b := ?_) (u := ?_) ?_ ?_ ?_ ?_ (fun _ _ _ h => h) (by kernel_rfl) ?_ ?_; rotate_left 5; (focus rfl); (focus rfl); (focus rfl); (focus (first | rfl | (go_simp; done))); (focus (intro w' hSw; (try dsimp only at hSw); go_simp; (try with_reducible rfl); done)); (try simp only [Act.put, List.setIfInBounds_toArray, List.set_cons_zero, List.set_cons_succ]))
        | (refine seq_skipG (g := ?_) (d := ?_) (b := ?_) (u := ?_) ?_ ?_ ?_ ?_ (fun _ _ _ h => h) (by kernel_rfl) ?_; rotate_left 4; (focus rfl); (focus rfl); (focus rfl); (focus (first | rfl | (go_simp; done))); (try simp only [Act.put, List.setIfInBounds_toArray, List.set_cons_zero, List.set_cons_succ])))
      refine seq_op (by kernel_rfl) (by rfl) (fun K hK => ?_)
      go_simp
      refine (HM1.out _ (HB2W.out.trans (HBD1.out.mono HB2W.out.size)) HLE.out).mono ?_
      rintro e w3 ⟨⟨v3, rfl, hr3⟩, hbx⟩
      obtain ⟨A3, n3, c3, rfl⟩ := hr3.slice
      have HR3 := Lib.hid hr3
      have HB_w3 : Hid (Below W2.heap.size W2 w3) := HBD1.out.trans (hbx.mono HBD1.out.size)
      have dd0 := HARG0.out _ HB_w3.out
      have dd1 := HARG1.out _ HB_w3.out
      refine hK.out _ _ (by exact ⟨(dd0 0).1, (dd0 1).1, (dd1 0).1, (dd1 1).1⟩) ?_
      clear hK K dd0 dd1 hbx hr3
      repeat (first
        | (refine seq_take0 (v := ?_) ?_ (fun _ _ _ h => h) (by kernel_rfl) ?_ ?_; rotate_left; (focus rfl); (focus (intro w' hSw; (try dsimp only at hSw); go_simp; (try with_reducible rfl); done)); (try simp only [Act.put, List.setIfInBounds_toArray, List.set_cons_zero, List.set_cons_succ]))
        | (refine seq_takeG (v := ?_) (g := ?_) (d := ?_) (b := ?_) (u := ?_) ?_ ?_ ?_ ?_ (fun _ _ _ h => h) (by kernel_rfl) ?_ ?_; rotate_left 5; (focus rfl); (focus rfl); (focus rfl); (focus (first | rfl | (go_simp; done))); (focus (intro w' hSw; (try dsimp only at hSw); go_simp; (try with_reducible rfl); done)); (try simp only [Act.put, List.setIfInBounds_toArray, List.set_cons_zero, List.set_cons_succ]))
        | (refine seq_skipG (g := ?_) (d := ?_) (b := ?_) (u := ?_) ?_ ?_ ?_ ?_ (fun _ _ _ h => h) (by kernel_rfl) ?_; rotate_left 4; (focus rfl); (focus rfl); (focus rfl); (focus (first | rfl | (go_simp; done))); (try simp only [Act.put, List.setIfInBounds_toArray, List.set_cons_zero, List.set_cons_succ])))
      refine seq_op (by kernel_rfl) (by rfl) (fun K hK => ?_)
      go_simp
      refine (whole_any _ _ _ _ HR3.out).mono ?_
      rintro e w4 ⟨⟨v4, rfl, hz4⟩, hbx⟩
      rw [HSG.out] at hz4
      obtain ⟨a4, rfl, hr4⟩ := hz4
      obtain ⟨A4, n4, c4, rfl⟩ := hr4.slice
      have HR4 := Lib.hid hr4
      have HB_w4 : Hid (Below W2.heap.size W2 w4) := HB_w3.out.trans (hbx.mono HB_w3.out.size)
      have dd0 := HARG0.out _ HB_w4.out
      have dd1 := HARG1.out _ HB_w4.out
      refine hK.out _ _ (by exact ⟨(dd0 0).1, (dd0 1).1, (dd1 0).1, (dd1 1).1⟩) ?_
      clear hK K dd0 dd1 hbx hr4
      repeat (first
        | (refine seq_take0 (v := ?_) ?_ (fun _ _ _ h => h) (by kernel_rfl) ?_ ?_; rotate_left; (focus rfl); (focus (intro w' hSw; (try dsimp only at hSw); go_simp; (try with_reducible rfl); done)); (try simp only [Act.put, List.setIfInBounds_toArray, List.set_cons_zero, List.set_cons_succ]))
        | (refine seq_takeG (v := ?_) (g := ?_) (d := ?_) (b := ?_) (u := ?_) ?_ ?_ ?_ ?_ (fun _ _ _ h => h) (by kernel_rfl) ?_ ?_; rotate_left 5; (focus rfl); (focus rfl); (focus rfl); (focus (first | rfl | (go_simp; done))); (focus (intro w' hSw; (try dsimp only at hSw); go_simp; (try with_reducible rfl); done)); (try simp only [Act.put, List.setIfInBounds_toArray, List.set_cons_zero, List.set_cons_succ]))
        | (refine seq_skipG (g := ?_) (d := ?_) (b := ?_) (u := ?_) ?_ ?_ ?_ ?_ (fun _ _ _ h => h) (by kernel_rfl) ?_; rotate_left 4; (focus rfl); (focus rfl); (focus rfl); (focus (first | rfl | (go_simp; done))); (try simp only [Act.put, List.setIfInBounds_toArray, List.set_cons_zero, List.set_cons_succ])))
      refine seq_op (by kernel_rfl) (by rfl) (fun K hK => ?_)
      have qq := HRES0.out _ HB_w4.out
      have q0 := (qq 0).1
      have q1 := (qq 1).1
      have qf0 := (qq 0).2
      have qf1 := (qq 1).2
      simp only [List.getElem?_toArray, List.getElem?_cons_zero, List.getElem?_cons_succ] at q0 q1
      clear qq
      go_simp
      have dd0 := HARG0.out _ HB_w4.out
      have dd1 := HARG1.out _ HB_w4.out
      refine hK.out _ _ (by go_simp; (first | done | exact ⟨(dd0 0).1, (dd0 1).1, (dd1 0).1, (dd1 1).1⟩)) ?_
      clear hK K dd0 dd1
      repeat (first
        | (refine seq_take0 (v := ?_) ?_ (fun _ _ _ h => h) (by kernel_rfl) ?_ ?_; rotate_left; (focus rfl); (focus (intro w' hSw; (try dsimp only at hSw); go_simp; (try with_reducible rfl); done)); (try simp only [Act.put, List.setIfInBounds_toArray, List.set_cons_zero, List.set_cons_succ]))
        | (refine seq_takeG (v := ?_) (g := ?_) (d := ?_) (b := ?_) (u := ?_) ?_ ?_ ?_ ?_ (fun _ _ _ h => h) (by kernel_rfl) ?_ ?_; rotate_left 5; (focus rfl); (focus rfl); (focus rfl); (focus (first | rfl | (go_simp; done))); (focus (intro w' hSw; (try dsimp only at hSw); go_simp; (try with_reducible rfl); done)); (try simp only [Act.put, List.setIfInBounds_toArray, List.set_cons_zero, List.set_cons_succ]))
        | (refine seq_skipG (g := ?_) (d := ?_) (b := ?_) (u := ?_) ?_ ?_ ?_ ?_ (fun _ _ _ h => h) (by kernel_rfl) ?_; rotate_left 4; (focus rfl); (focus rfl); (focus rfl); (focus (first | rfl | (go_simp; done))); (try simp only [Act.put, List.setIfInBounds_toArray, List.set_cons_zero, List.set_cons_succ])))
      refine seq_done (by kernel_rfl) ?_
      go_wp2_with fail
      have hbw := HB2W.out.trans (HB_w4.out.mono HB2W.out.size)
      exact bodyPost_ret (v := .agg #[.bool (decide (z + y < 0)), .slice A4 n4 c4]) (by simp [results, Tryz.results165, go_sem, q0, q1]) rfl ⟨⟨_, rfl, _, rfl, HR4.out.set2 q0 q1 _ _⟩, (hbw.setCell (by simp <;> omega) _).setCell (by simp <;> omega) _⟩
    · have HSG : Hid (signed nh (y.natAbs - z.natAbs) = z + y) := by show _ = _; rw [HNH.out, Int.add_comm]; exact signed_diff (fun h => HE.out h.symm) (by omega)
      have HLE := Lib.hid hle
      obtain ⟨cv, hcv⟩ : ∃ c, c = cmpN z.natAbs y.natAbs := ⟨_, rfl⟩
      rw [← hcv] at HCM
      have hcn : ¬ (0 ≤ cv) := by rw [hcv]; unfold cmpN; rw [if_pos (by omega)]; omega
      have hcb : decide (0 ≤ cv) = false := by simpa using hcn
      clear hle hcv
      go_enter Tryz.func165, Tryz.ntmps165
      go_wp2_with (go_at_call 127; refine (HCM.out _ (by rw [← HW2.out]; exact HB2W.out)).mono ?_; rintro e w5 ⟨rfl, hbx⟩; rw [← HW2.out] at hbx; have HB_w5 := Lib.hid hbx; clear hbx)
      have HBD1 : Hid (Below W2.heap.size W2 w5.drew) := HB_w5.out.drew
      have dd0 := HARG0.out _ HBD1.out
      have dd1 := HARG1.out _ HBD1.out
      refine seq_start (S := fun w' => w'.cell? ⟨w.heap.size, 0, none⟩ = some (Value.bool ng) ∧ w'.cell? ⟨w.heap.size, 1, none⟩ = some (Value.slice Aa ka ca) ∧ w'.cell? ⟨w.heap.size + 1, 0, none⟩ = some (Value.bool nh) ∧ w'.cell? ⟨w.heap.size + 1, 1, none⟩ = some (Value.slice Ab kb cb)) (by kernel_rfl) (by kernel_rfl) (by exact ⟨(dd0 0).1, (dd0 1).1, (dd1 0).1, (dd1 1).1⟩) ?_
      clear dd0 dd1
      repeat (first
        | (refine seq_take0 (v := ?_) ?_ (fun _ _ _ h => h) (by kernel_rfl) ?_ ?_; rotate_left; (focus rfl); (focus (intro w' hSw; (try dsimp only at hSw); go_simp; (try with_reducible rfl); done)); (try simp only [Act.put, List.setIfInBounds_toArray, List.set_cons_zero, List.set_cons_succ]))
        | (refine seq_takeG (v := ?_) (g := ?_) (d := ?_) (b := ?_) (u := ?_) ?_ ?_ ?_ ?_ (fun _ _ _ h => h) (by kernel_rfl) ?_ ?_; rotate_left 5; (focus rfl); (focus rfl); (focus rfl); (focus (first | rfl | (go_simp; done))); (focus (intro w' hSw; (try dsimp only at hSw); go_simp; (try with_reducible rfl); done)); (try simp only [Act.put, List.setIfInBounds_toArray, List.set_cons_zero, List.set_cons_succ]))
        | (refine seq_skipG (g := ?_) (d := ?_) (b := ?_) (u := ?_) ?_ ?_ ?_ ?_ (fun _ _ _ h => h) (by kernel_rfl) ?_; rotate_left 4; (focus rfl); (focus rfl); (focus rfl); (focus (first | rfl | (go_simp; done))); (try simp only [Act.put, List.setIfInBounds_toArray, List.set_cons_zero, List.set_cons_succ])))
      refine seq_op (by kernel_rfl) (by rfl) (fun K hK => ?_)
      go_simp
      refine (HM2.out _ (HB2W.out.trans (HBD1.out.mono HB2W.out.size)) (by have := HLE.out; omega)).mono ?_
      rintro e w3 ⟨⟨v3, rfl, hr3⟩, hbx⟩
      obtain ⟨A3, n3, c3, rfl⟩ := hr3.slice
      have HR3 := Lib.hid hr3
      have HB_w3 : Hid (Below W2.heap.size W2 w3) := HBD1.out.trans (hbx.mono HBD1.out.size)
      have dd0 := HARG0.out _ HB_w3.out
      have dd1 := HARG1.out _ HB_w3.out
      refine hK.out _ _ (by exact ⟨(dd0 0).1, (dd0 1).1, (dd1 0).1, (dd1 1).1⟩) ?_
      clear hK K dd0 dd1 hbx hr3
      repeat (first
        | (refine seq_take0 (v := ?_) ?_ (fun _ _ _ h => h) (by kernel_rfl) ?_ ?_; rotate_left; (focus rfl); (focus (intro w' hSw; (try dsimp only at hSw); go_simp; (try with_reducible rfl); done)); (try simp only [Act.put, List.setIfInBounds_toArray, List.set_cons_zero, List.set_cons_succ]))
        | (refine seq_takeG (v := ?_) (g := ?_) (d := ?_) (b := ?_) (u := ?_) ?_ ?_ ?_ ?_ (fun _ _ _ h => h) (by kernel_rfl) ?_ ?_; rotate_left 5; (focus rfl); (focus rfl); (focus rfl); (focus (first | rfl | (go_simp; done))); (focus (intro w' hSw; (try dsimp only at hSw); go_simp; (try with_reducible rfl); done)); (try simp only [Act.put, List.setIfInBounds_toArray, List.set_cons_zero, List.set_cons_succ]))
        | (refine seq_skipG (g := ?_) (d := ?_) (b := ?_) (u := ?_) ?_ ?_ ?_ ?_ (fun _ _ _ h => h) (by kernel_rfl) ?_; rotate_left 4; (focus rfl); (focus rfl); (focus rfl); (focus (first | rfl | (go_simp; done))); (try simp only [Act.put, List.setIfInBounds_toArray, List.set_cons_zero, List.set_cons_succ])))
      refine seq_op (by kernel_rfl) (by rfl) (fun K hK => ?_)
      go_simp
      refine (whole_any _ _ _ _ HR3.out).mono ?_
      rintro e w4 ⟨⟨v4, rfl, hz4⟩, hbx⟩
      rw [HSG.out] at hz4
      obtain ⟨a4, rfl, hr4⟩ := hz4
      obtain ⟨A4, n4, c4, rfl⟩ := hr4.slice
      have HR4 := Lib.hid hr4
      have HB_w4 : Hid (Below W2.heap.size W2 w4) := HB_w3.out.trans (hbx.mono HB_w3.out.size)
      have dd0 := HARG0.out _ HB_w4.out
      have dd1 := HARG1.out _ HB_w4.out
      refine hK.out _ _ (by exact ⟨(dd0 0).1, (dd0 1).1, (dd1 0).1, (dd1 1).1⟩) ?_
      clear hK K dd0 dd1 hbx hr4
      repeat (first
        | (refine seq_take0 (v := ?_) ?_ (fun _ _ _ h => h) (by kernel_rfl) ?_ ?_; rotate_left; (focus rfl); (focus (intro w' hSw; (try dsimp only at hSw); go_simp; (try with_reducible rfl); done)); (try simp only [Act.put, List.setIfInBounds_toArray, List.set_cons_zero, List.set_cons_succ]))
        | (refine seq_takeG (v := ?_) (g := ?_) (d := ?_) (b := ?_) (u := ?_) ?_ ?_ ?_ ?_ (fun _ _ _ h => h) (by kernel_rfl) ?_ ?_; rotate_left 5; (focus rfl); (focus rfl); (focus rfl); (focus (first | rfl | (go_simp; done))); (focus (intro w' hSw; (try dsimp only at hSw); go_simp; (try with_reducible rfl); done)); (try simp only [Act.put, List.setIfInBounds_toArray, List.set_cons_zero, List.set_cons_succ]))
        | (refine seq_skipG (g := ?_) (d := ?_) (b := ?_) (u := ?_) ?_ ?_ ?_ ?_ (fun _ _ _ h => h) (by kernel_rfl) ?_; rotate_left 4; (focus rfl); (focus rfl); (focus rfl); (focus (first | rfl | (go_simp; done))); (try simp only [Act.put, List.setIfInBounds_toArray, List.set_cons_zero, List.set_cons_succ])))
      refine seq_op (by kernel_rfl) (by rfl) (fun K hK => ?_)
      have qq := HRES0.out _ HB_w4.out
      have q0 := (qq 0).1
      have q1 := (qq 1).1
      have qf0 := (qq 0).2
      have qf1 := (qq 1).2
      simp only [List.getElem?_toArray, List.getElem?_cons_zero, List.getElem?_cons_succ] at q0 q1
      clear qq
      go_simp
      have dd0 := HARG0.out _ HB_w4.out
      have dd1 := HARG1.out _ HB_w4.out
      refine hK.out _ _ (by go_simp; (first | done | exact ⟨(dd0 0).1, (dd0 1).1, (dd1 0).1, (dd1 1).1⟩)) ?_
      clear hK K dd0 dd1
      repeat (first
        | (refine seq_take0 (v := ?_) ?_ (fun _ _ _ h => h) (by kernel_rfl) ?_ ?_; rotate_left; (focus rfl); (focus (intro w' hSw; (try dsimp only at hSw); go_simp; (try with_reducible rfl); done)); (try simp only [Act.put, List.setIfInBounds_toArray, List.set_cons_zero, List.set_cons_succ]))
        | (refine seq_takeG (v := ?_) (g := ?_) (d := ?_) (b := ?_) (u := ?_) ?_ ?_ ?_ ?_ (fun _ _ _ h => h) (by kernel_rfl) ?_ ?_; rotate_left 5; (focus rfl); (focus rfl); (focus rfl); (focus (first | rfl | (go_simp; done))); (focus (intro w' hSw; (try dsimp only at hSw); go_simp; (try with_reducible rfl); done)); (try simp only [Act.put, List.setIfInBounds_toArray, List.set_cons_zero, List.set_cons_succ]))
        | (refine seq_skipG (g := ?_) (d := ?_) (b := ?_) (u := ?_) ?_ ?_ ?_ ?_ (fun _ _ _ h => h) (by kernel_rfl) ?_; rotate_left 4; (focus rfl); (focus rfl); (focus rfl); (focus (first | rfl | (go_simp; done))); (try simp only [Act.put, List.setIfInBounds_toArray, List.set_cons_zero, List.set_cons_succ])))
      refine seq_done (by kernel_rfl) ?_
      go_wp2_with fail
      have hbw := HB2W.out.trans (HB_w4.out.mono HB2W.out.size)
      exact bodyPost_ret (v := .agg #[.bool (decide (z + y < 0)), .slice A4 n4 c4]) (by simp [results, Tryz.results165, go_sem, q0, q1]) rfl ⟨⟨_, rfl, _, rfl, HR4.out.set2 q0 q1 _ _⟩, (hbw.setCell (by simp <;> omega) _).setCell (by simp <;> omega) _⟩
end Go.Proofs.YtodckaioeomccaaGreat
