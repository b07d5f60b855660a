/- Walks of the reference's fractions: New and Of. -/
import Derived.Test.YtodckaioeomccaaGreatPart29
namespace Go.Proofs.YtodckaioeomccaaGreat
open Go.RowKit
set_option linter.unusedVariables false
set_option linter.unusedSimpArgs false
def WholePost (n : Int) (w : World) (e : Ending) (w' : World) : Prop := ∃ A k c B k' c', e = .returned (.agg #[.bool (decide (n < 0)), .slice A k c, .slice B k' c']) ∧ RdM w' (.slice A k c) n.natAbs ∧ Below w.heap.size w w'
theorem rwhole_parts (n : Int) (w : World) (h1 : -9223372036854775808 ≤ n) (h2 : n ≤ 9223372036854775807) : Calls Tryz.prog 104 #[.int .i64 n] w fun e w' => WholePost n w e w' :=
 (rwhole_any n w h1 h2).mono fun e w' ⟨⟨v', h3, h4⟩, h5⟩ => by
  obtain ⟨A, k, c, B, k', c', rfl, g1, g2⟩ := h4.parts
  exact ⟨A, k, c, B, k', c', h3, g1, h5⟩
set_option maxRecDepth 100000 in
set_option maxHeartbeats 4000000 in
theorem rnew_any (n d : Int) (w : World) (h1 : -9223372036854775808 ≤ n) (h2 : n ≤ 9223372036854775807) (h3 : -9223372036854775808 ≤ d) (h4 : d ≤ 9223372036854775807) (hd : d ≠ 0) :
  Calls Tryz.prog 101 #[.int .i64 n, .int .i64 d] w fun e w' => (∃ v', e = .returned (.tuple #[v', .int .i64 0]) ∧ RdF w' v' (ratio n d)) ∧ Below w.heap.size w w' := by
 have hdb : (d == 0) = false := by simp [hd]
 have HO1 := h0d (fun w' => rwhole_parts n w' h1 h2)
 have HO2 := h0d (fun w' => rwhole_parts d w' h3 h4)
 have HRQ := ratio_signed n d hd
 obtain ⟨ng, hng⟩ : ∃ b, b = decide (n < 0) := ⟨_, rfl⟩
 obtain ⟨nh, hnh⟩ : ∃ b, b = decide (d < 0) := ⟨_, rfl⟩
 rw [← hng, ← hnh] at HRQ
 obtain ⟨nx, hnx⟩ : ∃ b, b = (ng != nh) := ⟨_, rfl⟩
 rw [← hnx] at HRQ
 have HFR : Hid (∀ v1 v2 w', RdM w' v1 n.natAbs → RdM w' v2 d.natAbs → Calls Tryz.prog 187 #[.bool nx, v1, v2] w' fun e w'' => (∃ v', e = .returned v' ∧ RdF w'' v' (ratio n d)) ∧ Below w'.heap.size w' w'') := fun v1 v2 w' g1 g2 => by
  have := rfrac_any nx v1 v2 n.natAbs d.natAbs w' g1 g2 (by omega) (Nat.le_trans (dm_word (by unfold B64; omega)) (by omega)) (Nat.le_trans (dm_word (by unfold B64; omega)) (by omega))
  rw [HRQ] at this
  exact this
 have HNG := h0d hng
 have HNH := h0d hnh
 have hnx' : (!(ng == nh)) = nx := hnx.symm
 obtain ⟨W1, hW1⟩ : ∃ W, W = w.alloc (.cells #[.bool false, .slice none 0 0, .slice none 0 0] 40) := ⟨_, rfl⟩
 have HW1 : Hid (Below w.heap.size w W1) := by rw [hW1]; exact (Below.refl _ w).alloc (Nat.le_refl _) _
 have HRS : Hid (∀ w', Below W1.heap.size W1 w' → _) := fun w' h => res3 (c0 := .bool false) (c1 := .slice none 0 0) (c2 := .slice none 0 0) (b := w.heap.size) (t := 40) (by rw [hW1]; exact heap_alloc_new w _) h
 have HSZ : Hid (w.heap.size < W1.heap.size) := by show _ < _; rw [hW1]; simp
 have HE := h0d hW1
 clear hng hnh hnx hd hW1 HRQ
 go_enter Tryz.func101, Tryz.ntmps101
 go_wp2_with fail
 rw [← HE.out]
 refine (HO1.out _).mono ?_
 rintro e w3 ⟨A3, k3, c3, B3, m3, d3, rfl, hr3, hb3⟩
 rw [← HNG.out]
 have HR3 := h0d hr3
 have HB3 := h0d hb3
 clear hr3 hb3
 go_wp2_with fail
 refine (HO2.out _).mono ?_
 rintro e w4 ⟨A4, k4, c4, B4, m4, d4, rfl, hr4, hb4⟩
 rw [← HNH.out]
 have HR4 := h0d hr4
 have HR34 := h0d (HR3.out.below hb4)
 have HB4 : Hid (Below W1.heap.size W1 w4) := HB3.out.trans (hb4.mono HB3.out.size)
 clear hr4 hb4
 have hl4 : w.heap.size < w4.heap.size := by have := HB4.out.size; have := HSZ.out; omega
 go_wp2_with fail
 have HBA : Hid (Below w4.heap.size w4 ((w4.alloc (.cells #[.bool ng, .slice A3 k3 c3, .slice B3 m3 d3] 40)).alloc (.cells #[.bool nh, .slice A4 k4 c4, .slice B4 m4 d4] 40))) := ((Below.refl _ w4).alloc (Nat.le_refl _) _).alloc (by simp) _
 refine (HFR.out _ _ _ (HR34.out.below HBA.out) (HR4.out.below HBA.out)).mono ?_
 rintro e w5 ⟨⟨v5, rfl, hr5⟩, hb5⟩
 obtain ⟨A5, n5, c5, A6, n6, c6, rfl, hr6, hr7⟩ := hr5.parts
 have HR6 := h0d hr6
 have HR7 := h0d hr7
 have hbA5 : Below W1.heap.size W1 w5 := (HB4.out.trans (HBA.out.mono HB4.out.size)).trans (hb5.mono (Nat.le_trans HB4.out.size HBA.out.size))
 have HBW5 : Hid (Below w.heap.size w w5) := HW1.out.trans (hbA5.mono HW1.out.size)
 obtain ⟨q0, q1, q2, q3, q4, q5⟩ := HRS.out _ hbA5
 clear hr5 hr6 hr7 hb5 hbA5
 obtain ⟨dn, hdn⟩ : ∃ b, b = decide ((ratio n d).num < 0) := ⟨_, rfl⟩
 rw [← hdn]
 have HDN := h0d hdn
 clear hdn
 go_wp2_with fail
 exact bodyPost_ret (v := .tuple #[.agg #[.bool dn, .slice A5 n5 c5, .slice A6 n6 c6], .int .i64 0]) (by simp [results, Tryz.results101, go_sem, q0, q1, q2]) rfl ⟨⟨_, rfl, _, _, by rw [HDN.out], HR6.out.set3 q0 q1 q2 _ _ _, HR7.out.set3 q0 q1 q2 _ _ _⟩, ((HBW5.out.setCell (by simp) _).setCell (by simp) _).setCell (by simp) _⟩
end Go.Proofs.YtodckaioeomccaaGreat
