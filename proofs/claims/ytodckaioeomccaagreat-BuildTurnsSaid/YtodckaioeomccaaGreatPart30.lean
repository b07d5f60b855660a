/- Walks of numbers with roots: product, Mul. -/
import Derived.Test.YtodckaioeomccaaGreatPart28
namespace Go.Proofs.YtodckaioeomccaaGreat
open Go.RowKit Go.Proofs.S4P
set_option linter.unusedVariables false
set_option linter.unusedSimpArgs false
set_option maxRecDepth 100000
set_option maxHeartbeats 4000000
theorem ifold2 (v : Value) (z : Int) (w : World) (hv : RdZ w v z) (hz6 : dl z.natAbs ≤ 450000) :
  Calls Tryz.prog 219 #[v, .int .u64 2] w fun e w' => (∃ v', e = .returned v' ∧ RdZ w' v' (z * 2)) ∧ Below w.heap.size w w' := ifold_any v z 2 w hv hz6 (by unfold B64; omega)
theorem dl_f2 {z : Int} {K : Nat} (h : dl z.natAbs ≤ K) : dl (z * 2).natAbs ≤ K + 1 := by have := dl_muln (b := 2) h (dl_small (by unfold B64; omega)); exact this
theorem ifold3 (v : Value) (z : Int) (w : World) (hv : RdZ w v z) (hz6 : dl z.natAbs ≤ 450000) :
  Calls Tryz.prog 219 #[v, .int .u64 3] w fun e w' => (∃ v', e = .returned v' ∧ RdZ w' v' (z * 3)) ∧ Below w.heap.size w w' := ifold_any v z 3 w hv hz6 (by unfold B64; omega)
theorem dl_f3 {z : Int} {K : Nat} (h : dl z.natAbs ≤ K) : dl (z * 3).natAbs ≤ K + 1 := by have := dl_muln (b := 3) h (dl_small (by unfold B64; omega)); exact this
theorem ifold6 (v : Value) (z : Int) (w : World) (hv : RdZ w v z) (hz6 : dl z.natAbs ≤ 450000) :
  Calls Tryz.prog 219 #[v, .int .u64 6] w fun e w' => (∃ v', e = .returned v' ∧ RdZ w' v' (z * 6)) ∧ Below w.heap.size w w' := ifold_any v z 6 w hv hz6 (by unfold B64; omega)
theorem dl_f6 {z : Int} {K : Nat} (h : dl z.natAbs ≤ K) : dl (z * 6).natAbs ≤ K + 1 := by have := dl_muln (b := 6) h (dl_small (by unfold B64; omega)); exact this
theorem prod_00 {b1 b2 : Nat} {g0 g1 g2 g3 p0 p1 p2 p3 : Bool} {s0 s1 s2 s3 t0 t1 t2 t3 : Value} (zi yk : Int) (w : World) (h1 : w.heap[b1]? = some (.cells #[.bool g0, s0, .bool g1, s1, .bool g2, s2, .bool g3, s3] 28 (0, 0))) (h2 : w.heap[b2]? = some (.cells #[.bool p0, t0, .bool p1, t1, .bool p2, t2, .bool p3, t3] 28 (0, 0))) (hz : RdZ w (.agg #[.bool g0, s0]) zi) (hy : RdZ w (.agg #[.bool p0, t0]) yk) (hz6 : dl zi.natAbs ≤ 450000) (hy6 : dl yk.natAbs ≤ 450000) :
  Calls Tryz.prog 249 #[.int .i64 0, .int .i64 0, .pointer (some ⟨b1, 0, none⟩), .pointer (some ⟨b2, 0, none⟩)] w fun e w' => (∃ v', e = .returned v' ∧ RdZ w' v' (zi * yk)) ∧ Below w.heap.size w w' := by
 have HX0 := h0d hz
 have HX1 := h0d hy
 have HP2 := h0d h1
 have HP3 := h0d h2
 clear hz hy h1 h2
 go_enter Tryz.func249, Tryz.ntmps249
 obtain ⟨W1, HW1, HB2, s1w, j1⟩ := st_al0 w #[.bool false, .slice none 0 0] 27
 have HNE_P2_B2 : Hid (b1 ≠ w.heap.size) := by show _ ≠ _; have hlt := blk_lt HP2.out; omega
 have HNE_P3_B2 : Hid (b2 ≠ w.heap.size) := by show _ ≠ _; have hlt := blk_lt HP3.out; omega
 have l2b : Hid (w.heap.size ≤ w.heap.size) := by show _ ≤ _; omega
 have HBw := h0d j1
 go_wp2_with fail
 rw [← HW1.out]
 obtain ⟨W3, hW3⟩ : ∃ W, W = W1.drew := ⟨_, rfl⟩
 have j2 : Below W1.heap.size W1 W3 := by rw [hW3]; exact (Below.refl _ _).drew
 replace HBw := kU HBw j2
 replace HP2 := kB HP2 HBw.out
 replace HP3 := kB HP3 HBw.out
 refine seq_start (S := fun w' => w'.cell? ⟨b1, 0, none⟩ = some (.bool g0) ∧ w'.cell? ⟨b1, 1, none⟩ = some (s0) ∧ w'.cell? ⟨b2, 0, none⟩ = some (.bool p0) ∧ w'.cell? ⟨b2, 1, none⟩ = some (t0)) (by kernel_rfl) (by kernel_rfl) (by rw [← hW3]; exact ⟨kD HP2 0, kD HP2 1, kD HP3 0, kD HP3 1⟩) ?_
 rw [← hW3]
 clear hW3
 iterate 6 refine tk0 (h := ?_)
 refine sop (h := fun K9 hK9 => ?_)
 go_simp
 replace HX0 := kV HBw.out HX0
 replace HX1 := kV HBw.out HX1
 refine mZ (itimes_any _ _ zi yk _ HX0.out HX1.out (by omega) (by omega)) fun w1 g1a A1a k1a c1a HR1 j1c => ?_
 replace HP2 := kB HP2 j1c
 replace HP3 := kB HP3 j1c
 refine ckk hK9 (by exact ⟨kD HP2 0, kD HP2 1, kD HP3 0, kD HP3 1⟩) (h := ?_)
 clear hK9 K9
 refine sop (h := fun K9 hK9 => ?_)
 have jm1 := tt j2 j1c
 replace HB2 := kB HB2 jm1
 have c4 := kC HB2 0 rfl
 have c5 := kF HB2 0
 have c6 := kC HB2 1 rfl
 have c7 := kF HB2 1
 go_simp
 obtain ⟨W8, HW8⟩ : ∃ W, Hid (W = ((w1.setCell ⟨w.heap.size, 0, none⟩ (.bool g1a)).setCell ⟨w.heap.size, 1, none⟩ (.slice A1a k1a c1a))) := ⟨_, rfl⟩
 have SW8 : Hid (W8 = setsW w1 (w.heap.size) 0 [.bool g1a, .slice A1a k1a c1a]) := HW8.out
 have TW8 := kN (SW8.out) HB2 rfl rfl
 replace HB2 := kP (ds := [.bool g1a, .slice A1a k1a c1a]) (SW8.out) HB2 rfl rfl
 rw [← HW8.out]
 replace HP2 := kO (SW8.out) HP2 HNE_P2_B2.out
 replace HP3 := kO (SW8.out) HP3 HNE_P3_B2.out
 refine ckk hK9 (by exact ⟨kD HP2 0, kD HP2 1, kD HP3 0, kD HP3 1⟩) (h := ?_)
 clear hK9 K9 c4 c5 c6 c7
 refine seq_done (by kernel_rfl) ?_
 go_wp2_with fail
 have c9 := kC HB2 0 rfl
 have c10 := kC HB2 1 rfl
 replace HR1 := kW TW8 HR1
 replace HBw := kS (SW8.out) l2b (kU HBw j1c)
 exact bodyPost_ret (v := .agg #[.bool g1a, .slice A1a k1a c1a]) (by simp [results, Tryz.results249, go_sem, c9, c10]) rfl ⟨⟨_, rfl, HR1.out⟩, HBw.out⟩
theorem prod_01 {b1 b2 : Nat} {g0 g1 g2 g3 p0 p1 p2 p3 : Bool} {s0 s1 s2 s3 t0 t1 t2 t3 : Value} (zi yk : Int) (w : World) (h1 : w.heap[b1]? = some (.cells #[.bool g0, s0, .bool g1, s1, .bool g2, s2, .bool g3, s3] 28 (0, 0))) (h2 : w.heap[b2]? = some (.cells #[.bool p0, t0, .bool p1, t1, .bool p2, t2, .bool p3, t3] 28 (0, 0))) (hz : RdZ w (.agg #[.bool g0, s0]) zi) (hy : RdZ w (.agg #[.bool p1, t1]) yk) (hz6 : dl zi.natAbs ≤ 450000) (hy6 : dl yk.natAbs ≤ 450000) :
  Calls Tryz.prog 249 #[.int .i64 0, .int .i64 1, .pointer (some ⟨b1, 0, none⟩), .pointer (some ⟨b2, 0, none⟩)] w fun e w' => (∃ v', e = .returned v' ∧ RdZ w' v' (zi * yk)) ∧ Below w.heap.size w w' := by
 have HX0 := h0d hz
 have HX1 := h0d hy
 have HP2 := h0d h1
 have HP3 := h0d h2
 clear hz hy h1 h2
 go_enter Tryz.func249, Tryz.ntmps249
 obtain ⟨W1, HW1, HB2, s1w, j1⟩ := st_al0 w #[.bool false, .slice none 0 0] 27
 have HNE_P2_B2 : Hid (b1 ≠ w.heap.size) := by show _ ≠ _; have hlt := blk_lt HP2.out; omega
 have HNE_P3_B2 : Hid (b2 ≠ w.heap.size) := by show _ ≠ _; have hlt := blk_lt HP3.out; omega
 have l2b : Hid (w.heap.size ≤ w.heap.size) := by show _ ≤ _; omega
 have HBw := h0d j1
 go_wp2_with fail
 rw [← HW1.out]
 obtain ⟨W3, hW3⟩ : ∃ W, W = W1.drew := ⟨_, rfl⟩
 have j2 : Below W1.heap.size W1 W3 := by rw [hW3]; exact (Below.refl _ _).drew
 replace HBw := kU HBw j2
 replace HP2 := kB HP2 HBw.out
 replace HP3 := kB HP3 HBw.out
 refine seq_start (S := fun w' => w'.cell? ⟨b1, 0, none⟩ = some (.bool g0) ∧ w'.cell? ⟨b1, 1, none⟩ = some (s0) ∧ w'.cell? ⟨b2, 2, none⟩ = some (.bool p1) ∧ w'.cell? ⟨b2, 3, none⟩ = some (t1)) (by kernel_rfl) (by kernel_rfl) (by rw [← hW3]; exact ⟨kD HP2 0, kD HP2 1, kD HP3 2, kD HP3 3⟩) ?_
 rw [← hW3]
 clear hW3
 iterate 6 refine tk0 (h := ?_)
 refine sop (h := fun K9 hK9 => ?_)
 go_simp
 replace HX0 := kV HBw.out HX0
 replace HX1 := kV HBw.out HX1
 refine mZ (itimes_any _ _ zi yk _ HX0.out HX1.out (by omega) (by omega)) fun w1 g1a A1a k1a c1a HR1 j1c => ?_
 replace HP2 := kB HP2 j1c
 replace HP3 := kB HP3 j1c
 refine ckk hK9 (by exact ⟨kD HP2 0, kD HP2 1, kD HP3 2, kD HP3 3⟩) (h := ?_)
 clear hK9 K9
 refine sop (h := fun K9 hK9 => ?_)
 have jm1 := tt j2 j1c
 replace HB2 := kB HB2 jm1
 have c4 := kC HB2 0 rfl
 have c5 := kF HB2 0
 have c6 := kC HB2 1 rfl
 have c7 := kF HB2 1
 go_simp
 obtain ⟨W8, HW8⟩ : ∃ W, Hid (W = ((w1.setCell ⟨w.heap.size, 0, none⟩ (.bool g1a)).setCell ⟨w.heap.size, 1, none⟩ (.slice A1a k1a c1a))) := ⟨_, rfl⟩
 have SW8 : Hid (W8 = setsW w1 (w.heap.size) 0 [.bool g1a, .slice A1a k1a c1a]) := HW8.out
 have TW8 := kN (SW8.out) HB2 rfl rfl
 replace HB2 := kP (ds := [.bool g1a, .slice A1a k1a c1a]) (SW8.out) HB2 rfl rfl
 rw [← HW8.out]
 replace HP2 := kO (SW8.out) HP2 HNE_P2_B2.out
 replace HP3 := kO (SW8.out) HP3 HNE_P3_B2.out
 refine ckk hK9 (by exact ⟨kD HP2 0, kD HP2 1, kD HP3 2, kD HP3 3⟩) (h := ?_)
 clear hK9 K9 c4 c5 c6 c7
 refine seq_done (by kernel_rfl) ?_
 go_wp2_with fail
 have c9 := kC HB2 0 rfl
 have c10 := kC HB2 1 rfl
 replace HR1 := kW TW8 HR1
 replace HBw := kS (SW8.out) l2b (kU HBw j1c)
 exact bodyPost_ret (v := .agg #[.bool g1a, .slice A1a k1a c1a]) (by simp [results, Tryz.results249, go_sem, c9, c10]) rfl ⟨⟨_, rfl, HR1.out⟩, HBw.out⟩
theorem prod_02 {b1 b2 : Nat} {g0 g1 g2 g3 p0 p1 p2 p3 : Bool} {s0 s1 s2 s3 t0 t1 t2 t3 : Value} (zi yk : Int) (w : World) (h1 : w.heap[b1]? = some (.cells #[.bool g0, s0, .bool g1, s1, .bool g2, s2, .bool g3, s3] 28 (0, 0))) (h2 : w.heap[b2]? = some (.cells #[.bool p0, t0, .bool p1, t1, .bool p2, t2, .bool p3, t3] 28 (0, 0))) (hz : RdZ w (.agg #[.bool g0, s0]) zi) (hy : RdZ w (.agg #[.bool p2, t2]) yk) (hz6 : dl zi.natAbs ≤ 450000) (hy6 : dl yk.natAbs ≤ 450000) :
  Calls Tryz.prog 249 #[.int .i64 0, .int .i64 2, .pointer (some ⟨b1, 0, none⟩), .pointer (some ⟨b2, 0, none⟩)] w fun e w' => (∃ v', e = .returned v' ∧ RdZ w' v' (zi * yk)) ∧ Below w.heap.size w w' := by
 have HX0 := h0d hz
 have HX1 := h0d hy
 have HP2 := h0d h1
 have HP3 := h0d h2
 clear hz hy h1 h2
 go_enter Tryz.func249, Tryz.ntmps249
 obtain ⟨W1, HW1, HB2, s1w, j1⟩ := st_al0 w #[.bool false, .slice none 0 0] 27
 have HNE_P2_B2 : Hid (b1 ≠ w.heap.size) := by show _ ≠ _; have hlt := blk_lt HP2.out; omega
 have HNE_P3_B2 : Hid (b2 ≠ w.heap.size) := by show _ ≠ _; have hlt := blk_lt HP3.out; omega
 have l2b : Hid (w.heap.size ≤ w.heap.size) := by show _ ≤ _; omega
 have HBw := h0d j1
 go_wp2_with fail
 rw [← HW1.out]
 obtain ⟨W3, hW3⟩ : ∃ W, W = W1.drew := ⟨_, rfl⟩
 have j2 : Below W1.heap.size W1 W3 := by rw [hW3]; exact (Below.refl _ _).drew
 replace HBw := kU HBw j2
 replace HP2 := kB HP2 HBw.out
 replace HP3 := kB HP3 HBw.out
 refine seq_start (S := fun w' => w'.cell? ⟨b1, 0, none⟩ = some (.bool g0) ∧ w'.cell? ⟨b1, 1, none⟩ = some (s0) ∧ w'.cell? ⟨b2, 4, none⟩ = some (.bool p2) ∧ w'.cell? ⟨b2, 5, none⟩ = some (t2)) (by kernel_rfl) (by kernel_rfl) (by rw [← hW3]; exact ⟨kD HP2 0, kD HP2 1, kD HP3 4, kD HP3 5⟩) ?_
 rw [← hW3]
 clear hW3
 iterate 6 refine tk0 (h := ?_)
 refine sop (h := fun K9 hK9 => ?_)
 go_simp
 replace HX0 := kV HBw.out HX0
 replace HX1 := kV HBw.out HX1
 refine mZ (itimes_any _ _ zi yk _ HX0.out HX1.out (by omega) (by omega)) fun w1 g1a A1a k1a c1a HR1 j1c => ?_
 replace HP2 := kB HP2 j1c
 replace HP3 := kB HP3 j1c
 refine ckk hK9 (by exact ⟨kD HP2 0, kD HP2 1, kD HP3 4, kD HP3 5⟩) (h := ?_)
 clear hK9 K9
 refine sop (h := fun K9 hK9 => ?_)
 have jm1 := tt j2 j1c
 replace HB2 := kB HB2 jm1
 have c4 := kC HB2 0 rfl
 have c5 := kF HB2 0
 have c6 := kC HB2 1 rfl
 have c7 := kF HB2 1
 go_simp
 obtain ⟨W8, HW8⟩ : ∃ W, Hid (W = ((w1.setCell ⟨w.heap.size, 0, none⟩ (.bool g1a)).setCell ⟨w.heap.size, 1, none⟩ (.slice A1a k1a c1a))) := ⟨_, rfl⟩
 have SW8 : Hid (W8 = setsW w1 (w.heap.size) 0 [.bool g1a, .slice A1a k1a c1a]) := HW8.out
 have TW8 := kN (SW8.out) HB2 rfl rfl
 replace HB2 := kP (ds := [.bool g1a, .slice A1a k1a c1a]) (SW8.out) HB2 rfl rfl
 rw [← HW8.out]
 replace HP2 := kO (SW8.out) HP2 HNE_P2_B2.out
 replace HP3 := kO (SW8.out) HP3 HNE_P3_B2.out
 refine ckk hK9 (by exact ⟨kD HP2 0, kD HP2 1, kD HP3 4, kD HP3 5⟩) (h := ?_)
 clear hK9 K9 c4 c5 c6 c7
 refine seq_done (by kernel_rfl) ?_
 go_wp2_with fail
 have c9 := kC HB2 0 rfl
 have c10 := kC HB2 1 rfl
 replace HR1 := kW TW8 HR1
 replace HBw := kS (SW8.out) l2b (kU HBw j1c)
 exact bodyPost_ret (v := .agg #[.bool g1a, .slice A1a k1a c1a]) (by simp [results, Tryz.results249, go_sem, c9, c10]) rfl ⟨⟨_, rfl, HR1.out⟩, HBw.out⟩
theorem prod_03 {b1 b2 : Nat} {g0 g1 g2 g3 p0 p1 p2 p3 : Bool} {s0 s1 s2 s3 t0 t1 t2 t3 : Value} (zi yk : Int) (w : World) (h1 : w.heap[b1]? = some (.cells #[.bool g0, s0, .bool g1, s1, .bool g2, s2, .bool g3, s3] 28 (0, 0))) (h2 : w.heap[b2]? = some (.cells #[.bool p0, t0, .bool p1, t1, .bool p2, t2, .bool p3, t3] 28 (0, 0))) (hz : RdZ w (.agg #[.bool g0, s0]) zi) (hy : RdZ w (.agg #[.bool p3, t3]) yk) (hz6 : dl zi.natAbs ≤ 450000) (hy6 : dl yk.natAbs ≤ 450000) :
  Calls Tryz.prog 249 #[.int .i64 0, .int .i64 3, .pointer (some ⟨b1, 0, none⟩), .pointer (some ⟨b2, 0, none⟩)] w fun e w' => (∃ v', e = .returned v' ∧ RdZ w' v' (zi * yk)) ∧ Below w.heap.size w w' := by
 have HX0 := h0d hz
 have HX1 := h0d hy
 have HP2 := h0d h1
 have HP3 := h0d h2
 clear hz hy h1 h2
 go_enter Tryz.func249, Tryz.ntmps249
 obtain ⟨W1, HW1, HB2, s1w, j1⟩ := st_al0 w #[.bool false, .slice none 0 0] 27
 have HNE_P2_B2 : Hid (b1 ≠ w.heap.size) := by show _ ≠ _; have hlt := blk_lt HP2.out; omega
 have HNE_P3_B2 : Hid (b2 ≠ w.heap.size) := by show _ ≠ _; have hlt := blk_lt HP3.out; omega
 have l2b : Hid (w.heap.size ≤ w.heap.size) := by show _ ≤ _; omega
 have HBw := h0d j1
 go_wp2_with fail
 rw [← HW1.out]
 obtain ⟨W3, hW3⟩ : ∃ W, W = W1.drew := ⟨_, rfl⟩
 have j2 : Below W1.heap.size W1 W3 := by rw [hW3]; exact (Below.refl _ _).drew
 replace HBw := kU HBw j2
 replace HP2 := kB HP2 HBw.out
 replace HP3 := kB HP3 HBw.out
 refine seq_start (S := fun w' => w'.cell? ⟨b1, 0, none⟩ = some (.bool g0) ∧ w'.cell? ⟨b1, 1, none⟩ = some (s0) ∧ w'.cell? ⟨b2, 6, none⟩ = some (.bool p3) ∧ w'.cell? ⟨b2, 7, none⟩ = some (t3)) (by kernel_rfl) (by kernel_rfl) (by rw [← hW3]; exact ⟨kD HP2 0, kD HP2 1, kD HP3 6, kD HP3 7⟩) ?_
 rw [← hW3]
 clear hW3
 iterate 6 refine tk0 (h := ?_)
 refine sop (h := fun K9 hK9 => ?_)
 go_simp
 replace HX0 := kV HBw.out HX0
 replace HX1 := kV HBw.out HX1
 refine mZ (itimes_any _ _ zi yk _ HX0.out HX1.out (by omega) (by omega)) fun w1 g1a A1a k1a c1a HR1 j1c => ?_
 replace HP2 := kB HP2 j1c
 replace HP3 := kB HP3 j1c
 refine ckk hK9 (by exact ⟨kD HP2 0, kD HP2 1, kD HP3 6, kD HP3 7⟩) (h := ?_)
 clear hK9 K9
 refine sop (h := fun K9 hK9 => ?_)
 have jm1 := tt j2 j1c
 replace HB2 := kB HB2 jm1
 have c4 := kC HB2 0 rfl
 have c5 := kF HB2 0
 have c6 := kC HB2 1 rfl
 have c7 := kF HB2 1
 go_simp
 obtain ⟨W8, HW8⟩ : ∃ W, Hid (W = ((w1.setCell ⟨w.heap.size, 0, none⟩ (.bool g1a)).setCell ⟨w.heap.size, 1, none⟩ (.slice A1a k1a c1a))) := ⟨_, rfl⟩
 have SW8 : Hid (W8 = setsW w1 (w.heap.size) 0 [.bool g1a, .slice A1a k1a c1a]) := HW8.out
 have TW8 := kN (SW8.out) HB2 rfl rfl
 replace HB2 := kP (ds := [.bool g1a, .slice A1a k1a c1a]) (SW8.out) HB2 rfl rfl
 rw [← HW8.out]
 replace HP2 := kO (SW8.out) HP2 HNE_P2_B2.out
 replace HP3 := kO (SW8.out) HP3 HNE_P3_B2.out
 refine ckk hK9 (by exact ⟨kD HP2 0, kD HP2 1, kD HP3 6, kD HP3 7⟩) (h := ?_)
 clear hK9 K9 c4 c5 c6 c7
 refine seq_done (by kernel_rfl) ?_
 go_wp2_with fail
 have c9 := kC HB2 0 rfl
 have c10 := kC HB2 1 rfl
 replace HR1 := kW TW8 HR1
 replace HBw := kS (SW8.out) l2b (kU HBw j1c)
 exact bodyPost_ret (v := .agg #[.bool g1a, .slice A1a k1a c1a]) (by simp [results, Tryz.results249, go_sem, c9, c10]) rfl ⟨⟨_, rfl, HR1.out⟩, HBw.out⟩
theorem prod_10 {b1 b2 : Nat} {g0 g1 g2 g3 p0 p1 p2 p3 : Bool} {s0 s1 s2 s3 t0 t1 t2 t3 : Value} (zi yk : Int) (w : World) (h1 : w.heap[b1]? = some (.cells #[.bool g0, s0, .bool g1, s1, .bool g2, s2, .bool g3, s3] 28 (0, 0))) (h2 : w.heap[b2]? = some (.cells #[.bool p0, t0, .bool p1, t1, .bool p2, t2, .bool p3, t3] 28 (0, 0))) (hz : RdZ w (.agg #[.bool g1, s1]) zi) (hy : RdZ w (.agg #[.bool p0, t0]) yk) (hz6 : dl zi.natAbs ≤ 450000) (hy6 : dl yk.natAbs ≤ 450000) :
  Calls Tryz.prog 249 #[.int .i64 1, .int .i64 0, .pointer (some ⟨b1, 0, none⟩), .pointer (some ⟨b2, 0, none⟩)] w fun e w' => (∃ v', e = .returned v' ∧ RdZ w' v' (zi * yk)) ∧ Below w.heap.size w w' := by
 have HX0 := h0d hz
 have HX1 := h0d hy
 have HP2 := h0d h1
 have HP3 := h0d h2
 clear hz hy h1 h2
 go_enter Tryz.func249, Tryz.ntmps249
 obtain ⟨W1, HW1, HB2, s1w, j1⟩ := st_al0 w #[.bool false, .slice none 0 0] 27
 have HNE_P2_B2 : Hid (b1 ≠ w.heap.size) := by show _ ≠ _; have hlt := blk_lt HP2.out; omega
 have HNE_P3_B2 : Hid (b2 ≠ w.heap.size) := by show _ ≠ _; have hlt := blk_lt HP3.out; omega
 have l2b : Hid (w.heap.size ≤ w.heap.size) := by show _ ≤ _; omega
 have HBw := h0d j1
 go_wp2_with fail
 rw [← HW1.out]
 obtain ⟨W3, hW3⟩ : ∃ W, W = W1.drew := ⟨_, rfl⟩
 have j2 : Below W1.heap.size W1 W3 := by rw [hW3]; exact (Below.refl _ _).drew
 replace HBw := kU HBw j2
 replace HP2 := kB HP2 HBw.out
 replace HP3 := kB HP3 HBw.out
 refine seq_start (S := fun w' => w'.cell? ⟨b1, 2, none⟩ = some (.bool g1) ∧ w'.cell? ⟨b1, 3, none⟩ = some (s1) ∧ w'.cell? ⟨b2, 0, none⟩ = some (.bool p0) ∧ w'.cell? ⟨b2, 1, none⟩ = some (t0)) (by kernel_rfl) (by kernel_rfl) (by rw [← hW3]; exact ⟨kD HP2 2, kD HP2 3, kD HP3 0, kD HP3 1⟩) ?_
 rw [← hW3]
 clear hW3
 iterate 6 refine tk0 (h := ?_)
 refine sop (h := fun K9 hK9 => ?_)
 go_simp
 replace HX0 := kV HBw.out HX0
 replace HX1 := kV HBw.out HX1
 refine mZ (itimes_any _ _ zi yk _ HX0.out HX1.out (by omega) (by omega)) fun w1 g1a A1a k1a c1a HR1 j1c => ?_
 replace HP2 := kB HP2 j1c
 replace HP3 := kB HP3 j1c
 refine ckk hK9 (by exact ⟨kD HP2 2, kD HP2 3, kD HP3 0, kD HP3 1⟩) (h := ?_)
 clear hK9 K9
 refine sop (h := fun K9 hK9 => ?_)
 have jm1 := tt j2 j1c
 replace HB2 := kB HB2 jm1
 have c4 := kC HB2 0 rfl
 have c5 := kF HB2 0
 have c6 := kC HB2 1 rfl
 have c7 := kF HB2 1
 go_simp
 obtain ⟨W8, HW8⟩ : ∃ W, Hid (W = ((w1.setCell ⟨w.heap.size, 0, none⟩ (.bool g1a)).setCell ⟨w.heap.size, 1, none⟩ (.slice A1a k1a c1a))) := ⟨_, rfl⟩
 have SW8 : Hid (W8 = setsW w1 (w.heap.size) 0 [.bool g1a, .slice A1a k1a c1a]) := HW8.out
 have TW8 := kN (SW8.out) HB2 rfl rfl
 replace HB2 := kP (ds := [.bool g1a, .slice A1a k1a c1a]) (SW8.out) HB2 rfl rfl
 rw [← HW8.out]
 replace HP2 := kO (SW8.out) HP2 HNE_P2_B2.out
 replace HP3 := kO (SW8.out) HP3 HNE_P3_B2.out
 refine ckk hK9 (by exact ⟨kD HP2 2, kD HP2 3, kD HP3 0, kD HP3 1⟩) (h := ?_)
 clear hK9 K9 c4 c5 c6 c7
 refine seq_done (by kernel_rfl) ?_
 go_wp2_with fail
 have c9 := kC HB2 0 rfl
 have c10 := kC HB2 1 rfl
 replace HR1 := kW TW8 HR1
 replace HBw := kS (SW8.out) l2b (kU HBw j1c)
 exact bodyPost_ret (v := .agg #[.bool g1a, .slice A1a k1a c1a]) (by simp [results, Tryz.results249, go_sem, c9, c10]) rfl ⟨⟨_, rfl, HR1.out⟩, HBw.out⟩
theorem prod_11 {b1 b2 : Nat} {g0 g1 g2 g3 p0 p1 p2 p3 : Bool} {s0 s1 s2 s3 t0 t1 t2 t3 : Value} (zi yk : Int) (w : World) (h1 : w.heap[b1]? = some (.cells #[.bool g0, s0, .bool g1, s1, .bool g2, s2, .bool g3, s3] 28 (0, 0))) (h2 : w.heap[b2]? = some (.cells #[.bool p0, t0, .bool p1, t1, .bool p2, t2, .bool p3, t3] 28 (0, 0))) (hz : RdZ w (.agg #[.bool g1, s1]) zi) (hy : RdZ w (.agg #[.bool p1, t1]) yk) (hz6 : dl zi.natAbs ≤ 450000) (hy6 : dl yk.natAbs ≤ 450000) :
  Calls Tryz.prog 249 #[.int .i64 1, .int .i64 1, .pointer (some ⟨b1, 0, none⟩), .pointer (some ⟨b2, 0, none⟩)] w fun e w' => (∃ v', e = .returned v' ∧ RdZ w' v' (zi * yk)) ∧ Below w.heap.size w w' := by
 have HX0 := h0d hz
 have HX1 := h0d hy
 have HP2 := h0d h1
 have HP3 := h0d h2
 clear hz hy h1 h2
 go_enter Tryz.func249, Tryz.ntmps249
 obtain ⟨W1, HW1, HB2, s1w, j1⟩ := st_al0 w #[.bool false, .slice none 0 0] 27
 have HNE_P2_B2 : Hid (b1 ≠ w.heap.size) := by show _ ≠ _; have hlt := blk_lt HP2.out; omega
 have HNE_P3_B2 : Hid (b2 ≠ w.heap.size) := by show _ ≠ _; have hlt := blk_lt HP3.out; omega
 have l2b : Hid (w.heap.size ≤ w.heap.size) := by show _ ≤ _; omega
 have HBw := h0d j1
 go_wp2_with fail
 rw [← HW1.out]
 obtain ⟨W3, hW3⟩ : ∃ W, W = W1.drew := ⟨_, rfl⟩
 have j2 : Below W1.heap.size W1 W3 := by rw [hW3]; exact (Below.refl _ _).drew
 replace HBw := kU HBw j2
 replace HP2 := kB HP2 HBw.out
 replace HP3 := kB HP3 HBw.out
 refine seq_start (S := fun w' => w'.cell? ⟨b1, 2, none⟩ = some (.bool g1) ∧ w'.cell? ⟨b1, 3, none⟩ = some (s1) ∧ w'.cell? ⟨b2, 2, none⟩ = some (.bool p1) ∧ w'.cell? ⟨b2, 3, none⟩ = some (t1)) (by kernel_rfl) (by kernel_rfl) (by rw [← hW3]; exact ⟨kD HP2 2, kD HP2 3, kD HP3 2, kD HP3 3⟩) ?_
 rw [← hW3]
 clear hW3
 iterate 6 refine tk0 (h := ?_)
 refine sop (h := fun K9 hK9 => ?_)
 go_simp
 replace HX0 := kV HBw.out HX0
 replace HX1 := kV HBw.out HX1
 refine mZ (itimes_any _ _ zi yk _ HX0.out HX1.out (by omega) (by omega)) fun w1 g1a A1a k1a c1a HR1 j1c => ?_
 replace HP2 := kB HP2 j1c
 replace HP3 := kB HP3 j1c
 refine ckk hK9 (by exact ⟨kD HP2 2, kD HP2 3, kD HP3 2, kD HP3 3⟩) (h := ?_)
 clear hK9 K9
 refine sop (h := fun K9 hK9 => ?_)
 have jm1 := tt j2 j1c
 replace HB2 := kB HB2 jm1
 have c4 := kC HB2 0 rfl
 have c5 := kF HB2 0
 have c6 := kC HB2 1 rfl
 have c7 := kF HB2 1
 go_simp
 obtain ⟨W8, HW8⟩ : ∃ W, Hid (W = ((w1.setCell ⟨w.heap.size, 0, none⟩ (.bool g1a)).setCell ⟨w.heap.size, 1, none⟩ (.slice A1a k1a c1a))) := ⟨_, rfl⟩
 have SW8 : Hid (W8 = setsW w1 (w.heap.size) 0 [.bool g1a, .slice A1a k1a c1a]) := HW8.out
 have TW8 := kN (SW8.out) HB2 rfl rfl
 replace HB2 := kP (ds := [.bool g1a, .slice A1a k1a c1a]) (SW8.out) HB2 rfl rfl
 rw [← HW8.out]
 replace HP2 := kO (SW8.out) HP2 HNE_P2_B2.out
 replace HP3 := kO (SW8.out) HP3 HNE_P3_B2.out
 refine ckk hK9 (by exact ⟨kD HP2 2, kD HP2 3, kD HP3 2, kD HP3 3⟩) (h := ?_)
 clear hK9 K9 c4 c5 c6 c7
 refine seq_done (by kernel_rfl) ?_
 go_wp2_with fail
 have c9 := kC HB2 0 rfl
 have c10 := kC HB2 1 rfl
 replace HR1 := kW TW8 HR1
 replace HBw := kS (SW8.out) l2b (kU HBw j1c)
 exact bodyPost_ret (v := .agg #[.bool g1a, .slice A1a k1a c1a]) (by simp [results, Tryz.results249, go_sem, c9, c10]) rfl ⟨⟨_, rfl, HR1.out⟩, HBw.out⟩
theorem prod_12 {b1 b2 : Nat} {g0 g1 g2 g3 p0 p1 p2 p3 : Bool} {s0 s1 s2 s3 t0 t1 t2 t3 : Value} (zi yk : Int) (w : World) (h1 : w.heap[b1]? = some (.cells #[.bool g0, s0, .bool g1, s1, .bool g2, s2, .bool g3, s3] 28 (0, 0))) (h2 : w.heap[b2]? = some (.cells #[.bool p0, t0, .bool p1, t1, .bool p2, t2, .bool p3, t3] 28 (0, 0))) (hz : RdZ w (.agg #[.bool g1, s1]) zi) (hy : RdZ w (.agg #[.bool p2, t2]) yk) (hz6 : dl zi.natAbs ≤ 450000) (hy6 : dl yk.natAbs ≤ 450000) :
  Calls Tryz.prog 249 #[.int .i64 1, .int .i64 2, .pointer (some ⟨b1, 0, none⟩), .pointer (some ⟨b2, 0, none⟩)] w fun e w' => (∃ v', e = .returned v' ∧ RdZ w' v' (zi * yk)) ∧ Below w.heap.size w w' := by
 have HX0 := h0d hz
 have HX1 := h0d hy
 have HP2 := h0d h1
 have HP3 := h0d h2
 clear hz hy h1 h2
 go_enter Tryz.func249, Tryz.ntmps249
 obtain ⟨W1, HW1, HB2, s1w, j1⟩ := st_al0 w #[.bool false, .slice none 0 0] 27
 have HNE_P2_B2 : Hid (b1 ≠ w.heap.size) := by show _ ≠ _; have hlt := blk_lt HP2.out; omega
 have HNE_P3_B2 : Hid (b2 ≠ w.heap.size) := by show _ ≠ _; have hlt := blk_lt HP3.out; omega
 have l2b : Hid (w.heap.size ≤ w.heap.size) := by show _ ≤ _; omega
 have HBw := h0d j1
 go_wp2_with fail
 rw [← HW1.out]
 obtain ⟨W3, hW3⟩ : ∃ W, W = W1.drew := ⟨_, rfl⟩
 have j2 : Below W1.heap.size W1 W3 := by rw [hW3]; exact (Below.refl _ _).drew
 replace HBw := kU HBw j2
 replace HP2 := kB HP2 HBw.out
 replace HP3 := kB HP3 HBw.out
 refine seq_start (S := fun w' => w'.cell? ⟨b1, 2, none⟩ = some (.bool g1) ∧ w'.cell? ⟨b1, 3, none⟩ = some (s1) ∧ w'.cell? ⟨b2, 4, none⟩ = some (.bool p2) ∧ w'.cell? ⟨b2, 5, none⟩ = some (t2)) (by kernel_rfl) (by kernel_rfl) (by rw [← hW3]; exact ⟨kD HP2 2, kD HP2 3, kD HP3 4, kD HP3 5⟩) ?_
 rw [← hW3]
 clear hW3
 iterate 6 refine tk0 (h := ?_)
 refine sop (h := fun K9 hK9 => ?_)
 go_simp
 replace HX0 := kV HBw.out HX0
 replace HX1 := kV HBw.out HX1
 refine mZ (itimes_any _ _ zi yk _ HX0.out HX1.out (by omega) (by omega)) fun w1 g1a A1a k1a c1a HR1 j1c => ?_
 replace HP2 := kB HP2 j1c
 replace HP3 := kB HP3 j1c
 refine ckk hK9 (by exact ⟨kD HP2 2, kD HP2 3, kD HP3 4, kD HP3 5⟩) (h := ?_)
 clear hK9 K9
 refine sop (h := fun K9 hK9 => ?_)
 have jm1 := tt j2 j1c
 replace HB2 := kB HB2 jm1
 have c4 := kC HB2 0 rfl
 have c5 := kF HB2 0
 have c6 := kC HB2 1 rfl
 have c7 := kF HB2 1
 go_simp
 obtain ⟨W8, HW8⟩ : ∃ W, Hid (W = ((w1.setCell ⟨w.heap.size, 0, none⟩ (.bool g1a)).setCell ⟨w.heap.size, 1, none⟩ (.slice A1a k1a c1a))) := ⟨_, rfl⟩
 have SW8 : Hid (W8 = setsW w1 (w.heap.size) 0 [.bool g1a, .slice A1a k1a c1a]) := HW8.out
 have TW8 := kN (SW8.out) HB2 rfl rfl
 replace HB2 := kP (ds := [.bool g1a, .slice A1a k1a c1a]) (SW8.out) HB2 rfl rfl
 rw [← HW8.out]
 replace HP2 := kO (SW8.out) HP2 HNE_P2_B2.out
 replace HP3 := kO (SW8.out) HP3 HNE_P3_B2.out
 refine ckk hK9 (by exact ⟨kD HP2 2, kD HP2 3, kD HP3 4, kD HP3 5⟩) (h := ?_)
 clear hK9 K9 c4 c5 c6 c7
 refine seq_done (by kernel_rfl) ?_
 go_wp2_with fail
 have c9 := kC HB2 0 rfl
 have c10 := kC HB2 1 rfl
 replace HR1 := kW TW8 HR1
 replace HBw := kS (SW8.out) l2b (kU HBw j1c)
 exact bodyPost_ret (v := .agg #[.bool g1a, .slice A1a k1a c1a]) (by simp [results, Tryz.results249, go_sem, c9, c10]) rfl ⟨⟨_, rfl, HR1.out⟩, HBw.out⟩
theorem prod_13 {b1 b2 : Nat} {g0 g1 g2 g3 p0 p1 p2 p3 : Bool} {s0 s1 s2 s3 t0 t1 t2 t3 : Value} (zi yk : Int) (w : World) (h1 : w.heap[b1]? = some (.cells #[.bool g0, s0, .bool g1, s1, .bool g2, s2, .bool g3, s3] 28 (0, 0))) (h2 : w.heap[b2]? = some (.cells #[.bool p0, t0, .bool p1, t1, .bool p2, t2, .bool p3, t3] 28 (0, 0))) (hz : RdZ w (.agg #[.bool g1, s1]) zi) (hy : RdZ w (.agg #[.bool p3, t3]) yk) (hz6 : dl zi.natAbs ≤ 450000) (hy6 : dl yk.natAbs ≤ 450000) :
  Calls Tryz.prog 249 #[.int .i64 1, .int .i64 3, .pointer (some ⟨b1, 0, none⟩), .pointer (some ⟨b2, 0, none⟩)] w fun e w' => (∃ v', e = .returned v' ∧ RdZ w' v' (zi * yk)) ∧ Below w.heap.size w w' := by
 have HX0 := h0d hz
 have HX1 := h0d hy
 have HP2 := h0d h1
 have HP3 := h0d h2
 clear hz hy h1 h2
 go_enter Tryz.func249, Tryz.ntmps249
 obtain ⟨W1, HW1, HB2, s1w, j1⟩ := st_al0 w #[.bool false, .slice none 0 0] 27
 have HNE_P2_B2 : Hid (b1 ≠ w.heap.size) := by show _ ≠ _; have hlt := blk_lt HP2.out; omega
 have HNE_P3_B2 : Hid (b2 ≠ w.heap.size) := by show _ ≠ _; have hlt := blk_lt HP3.out; omega
 have l2b : Hid (w.heap.size ≤ w.heap.size) := by show _ ≤ _; omega
 have HBw := h0d j1
 go_wp2_with fail
 rw [← HW1.out]
 obtain ⟨W3, hW3⟩ : ∃ W, W = W1.drew := ⟨_, rfl⟩
 have j2 : Below W1.heap.size W1 W3 := by rw [hW3]; exact (Below.refl _ _).drew
 replace HBw := kU HBw j2
 replace HP2 := kB HP2 HBw.out
 replace HP3 := kB HP3 HBw.out
 refine seq_start (S := fun w' => w'.cell? ⟨b1, 2, none⟩ = some (.bool g1) ∧ w'.cell? ⟨b1, 3, none⟩ = some (s1) ∧ w'.cell? ⟨b2, 6, none⟩ = some (.bool p3) ∧ w'.cell? ⟨b2, 7, none⟩ = some (t3)) (by kernel_rfl) (by kernel_rfl) (by rw [← hW3]; exact ⟨kD HP2 2, kD HP2 3, kD HP3 6, kD HP3 7⟩) ?_
 rw [← hW3]
 clear hW3
 iterate 6 refine tk0 (h := ?_)
 refine sop (h := fun K9 hK9 => ?_)
 go_simp
 replace HX0 := kV HBw.out HX0
 replace HX1 := kV HBw.out HX1
 refine mZ (itimes_any _ _ zi yk _ HX0.out HX1.out (by omega) (by omega)) fun w1 g1a A1a k1a c1a HR1 j1c => ?_
 replace HP2 := kB HP2 j1c
 replace HP3 := kB HP3 j1c
 refine ckk hK9 (by exact ⟨kD HP2 2, kD HP2 3, kD HP3 6, kD HP3 7⟩) (h := ?_)
 clear hK9 K9
 refine sop (h := fun K9 hK9 => ?_)
 have jm1 := tt j2 j1c
 replace HB2 := kB HB2 jm1
 have c4 := kC HB2 0 rfl
 have c5 := kF HB2 0
 have c6 := kC HB2 1 rfl
 have c7 := kF HB2 1
 go_simp
 obtain ⟨W8, HW8⟩ : ∃ W, Hid (W = ((w1.setCell ⟨w.heap.size, 0, none⟩ (.bool g1a)).setCell ⟨w.heap.size, 1, none⟩ (.slice A1a k1a c1a))) := ⟨_, rfl⟩
 have SW8 : Hid (W8 = setsW w1 (w.heap.size) 0 [.bool g1a, .slice A1a k1a c1a]) := HW8.out
 have TW8 := kN (SW8.out) HB2 rfl rfl
 replace HB2 := kP (ds := [.bool g1a, .slice A1a k1a c1a]) (SW8.out) HB2 rfl rfl
 rw [← HW8.out]
 replace HP2 := kO (SW8.out) HP2 HNE_P2_B2.out
 replace HP3 := kO (SW8.out) HP3 HNE_P3_B2.out
 refine ckk hK9 (by exact ⟨kD HP2 2, kD HP2 3, kD HP3 6, kD HP3 7⟩) (h := ?_)
 clear hK9 K9 c4 c5 c6 c7
 refine seq_done (by kernel_rfl) ?_
 go_wp2_with fail
 have c9 := kC HB2 0 rfl
 have c10 := kC HB2 1 rfl
 replace HR1 := kW TW8 HR1
 replace HBw := kS (SW8.out) l2b (kU HBw j1c)
 exact bodyPost_ret (v := .agg #[.bool g1a, .slice A1a k1a c1a]) (by simp [results, Tryz.results249, go_sem, c9, c10]) rfl ⟨⟨_, rfl, HR1.out⟩, HBw.out⟩
theorem prod_20 {b1 b2 : Nat} {g0 g1 g2 g3 p0 p1 p2 p3 : Bool} {s0 s1 s2 s3 t0 t1 t2 t3 : Value} (zi yk : Int) (w : World) (h1 : w.heap[b1]? = some (.cells #[.bool g0, s0, .bool g1, s1, .bool g2, s2, .bool g3, s3] 28 (0, 0))) (h2 : w.heap[b2]? = some (.cells #[.bool p0, t0, .bool p1, t1, .bool p2, t2, .bool p3, t3] 28 (0, 0))) (hz : RdZ w (.agg #[.bool g2, s2]) zi) (hy : RdZ w (.agg #[.bool p0, t0]) yk) (hz6 : dl zi.natAbs ≤ 450000) (hy6 : dl yk.natAbs ≤ 450000) :
  Calls Tryz.prog 249 #[.int .i64 2, .int .i64 0, .pointer (some ⟨b1, 0, none⟩), .pointer (some ⟨b2, 0, none⟩)] w fun e w' => (∃ v', e = .returned v' ∧ RdZ w' v' (zi * yk)) ∧ Below w.heap.size w w' := by
 have HX0 := h0d hz
 have HX1 := h0d hy
 have HP2 := h0d h1
 have HP3 := h0d h2
 clear hz hy h1 h2
 go_enter Tryz.func249, Tryz.ntmps249
 obtain ⟨W1, HW1, HB2, s1w, j1⟩ := st_al0 w #[.bool false, .slice none 0 0] 27
 have HNE_P2_B2 : Hid (b1 ≠ w.heap.size) := by show _ ≠ _; have hlt := blk_lt HP2.out; omega
 have HNE_P3_B2 : Hid (b2 ≠ w.heap.size) := by show _ ≠ _; have hlt := blk_lt HP3.out; omega
 have l2b : Hid (w.heap.size ≤ w.heap.size) := by show _ ≤ _; omega
 have HBw := h0d j1
 go_wp2_with fail
 rw [← HW1.out]
 obtain ⟨W3, hW3⟩ : ∃ W, W = W1.drew := ⟨_, rfl⟩
 have j2 : Below W1.heap.size W1 W3 := by rw [hW3]; exact (Below.refl _ _).drew
 replace HBw := kU HBw j2
 replace HP2 := kB HP2 HBw.out
 replace HP3 := kB HP3 HBw.out
 refine seq_start (S := fun w' => w'.cell? ⟨b1, 4, none⟩ = some (.bool g2) ∧ w'.cell? ⟨b1, 5, none⟩ = some (s2) ∧ w'.cell? ⟨b2, 0, none⟩ = some (.bool p0) ∧ w'.cell? ⟨b2, 1, none⟩ = some (t0)) (by kernel_rfl) (by kernel_rfl) (by rw [← hW3]; exact ⟨kD HP2 4, kD HP2 5, kD HP3 0, kD HP3 1⟩) ?_
 rw [← hW3]
 clear hW3
 iterate 6 refine tk0 (h := ?_)
 refine sop (h := fun K9 hK9 => ?_)
 go_simp
 replace HX0 := kV HBw.out HX0
 replace HX1 := kV HBw.out HX1
 refine mZ (itimes_any _ _ zi yk _ HX0.out HX1.out (by omega) (by omega)) fun w1 g1a A1a k1a c1a HR1 j1c => ?_
 replace HP2 := kB HP2 j1c
 replace HP3 := kB HP3 j1c
 refine ckk hK9 (by exact ⟨kD HP2 4, kD HP2 5, kD HP3 0, kD HP3 1⟩) (h := ?_)
 clear hK9 K9
 refine sop (h := fun K9 hK9 => ?_)
 have jm1 := tt j2 j1c
 replace HB2 := kB HB2 jm1
 have c4 := kC HB2 0 rfl
 have c5 := kF HB2 0
 have c6 := kC HB2 1 rfl
 have c7 := kF HB2 1
 go_simp
 obtain ⟨W8, HW8⟩ : ∃ W, Hid (W = ((w1.setCell ⟨w.heap.size, 0, none⟩ (.bool g1a)).setCell ⟨w.heap.size, 1, none⟩ (.slice A1a k1a c1a))) := ⟨_, rfl⟩
 have SW8 : Hid (W8 = setsW w1 (w.heap.size) 0 [.bool g1a, .slice A1a k1a c1a]) := HW8.out
 have TW8 := kN (SW8.out) HB2 rfl rfl
 replace HB2 := kP (ds := [.bool g1a, .slice A1a k1a c1a]) (SW8.out) HB2 rfl rfl
 rw [← HW8.out]
 replace HP2 := kO (SW8.out) HP2 HNE_P2_B2.out
 replace HP3 := kO (SW8.out) HP3 HNE_P3_B2.out
 refine ckk hK9 (by exact ⟨kD HP2 4, kD HP2 5, kD HP3 0, kD HP3 1⟩) (h := ?_)
 clear hK9 K9 c4 c5 c6 c7
 refine seq_done (by kernel_rfl) ?_
 go_wp2_with fail
 have c9 := kC HB2 0 rfl
 have c10 := kC HB2 1 rfl
 replace HR1 := kW TW8 HR1
 replace HBw := kS (SW8.out) l2b (kU HBw j1c)
 exact bodyPost_ret (v := .agg #[.bool g1a, .slice A1a k1a c1a]) (by simp [results, Tryz.results249, go_sem, c9, c10]) rfl ⟨⟨_, rfl, HR1.out⟩, HBw.out⟩
theorem prod_21 {b1 b2 : Nat} {g0 g1 g2 g3 p0 p1 p2 p3 : Bool} {s0 s1 s2 s3 t0 t1 t2 t3 : Value} (zi yk : Int) (w : World) (h1 : w.heap[b1]? = some (.cells #[.bool g0, s0, .bool g1, s1, .bool g2, s2, .bool g3, s3] 28 (0, 0))) (h2 : w.heap[b2]? = some (.cells #[.bool p0, t0, .bool p1, t1, .bool p2, t2, .bool p3, t3] 28 (0, 0))) (hz : RdZ w (.agg #[.bool g2, s2]) zi) (hy : RdZ w (.agg #[.bool p1, t1]) yk) (hz6 : dl zi.natAbs ≤ 450000) (hy6 : dl yk.natAbs ≤ 450000) :
  Calls Tryz.prog 249 #[.int .i64 2, .int .i64 1, .pointer (some ⟨b1, 0, none⟩), .pointer (some ⟨b2, 0, none⟩)] w fun e w' => (∃ v', e = .returned v' ∧ RdZ w' v' (zi * yk)) ∧ Below w.heap.size w w' := by
 have HX0 := h0d hz
 have HX1 := h0d hy
 have HP2 := h0d h1
 have HP3 := h0d h2
 clear hz hy h1 h2
 go_enter Tryz.func249, Tryz.ntmps249
 obtain ⟨W1, HW1, HB2, s1w, j1⟩ := st_al0 w #[.bool false, .slice none 0 0] 27
 have HNE_P2_B2 : Hid (b1 ≠ w.heap.size) := by show _ ≠ _; have hlt := blk_lt HP2.out; omega
 have HNE_P3_B2 : Hid (b2 ≠ w.heap.size) := by show _ ≠ _; have hlt := blk_lt HP3.out; omega
 have l2b : Hid (w.heap.size ≤ w.heap.size) := by show _ ≤ _; omega
 have HBw := h0d j1
 go_wp2_with fail
 rw [← HW1.out]
 obtain ⟨W3, hW3⟩ : ∃ W, W = W1.drew := ⟨_, rfl⟩
 have j2 : Below W1.heap.size W1 W3 := by rw [hW3]; exact (Below.refl _ _).drew
 replace HBw := kU HBw j2
 replace HP2 := kB HP2 HBw.out
 replace HP3 := kB HP3 HBw.out
 refine seq_start (S := fun w' => w'.cell? ⟨b1, 4, none⟩ = some (.bool g2) ∧ w'.cell? ⟨b1, 5, none⟩ = some (s2) ∧ w'.cell? ⟨b2, 2, none⟩ = some (.bool p1) ∧ w'.cell? ⟨b2, 3, none⟩ = some (t1)) (by kernel_rfl) (by kernel_rfl) (by rw [← hW3]; exact ⟨kD HP2 4, kD HP2 5, kD HP3 2, kD HP3 3⟩) ?_
 rw [← hW3]
 clear hW3
 iterate 6 refine tk0 (h := ?_)
 refine sop (h := fun K9 hK9 => ?_)
 go_simp
 replace HX0 := kV HBw.out HX0
 replace HX1 := kV HBw.out HX1
 refine mZ (itimes_any _ _ zi yk _ HX0.out HX1.out (by omega) (by omega)) fun w1 g1a A1a k1a c1a HR1 j1c => ?_
 replace HP2 := kB HP2 j1c
 replace HP3 := kB HP3 j1c
 refine ckk hK9 (by exact ⟨kD HP2 4, kD HP2 5, kD HP3 2, kD HP3 3⟩) (h := ?_)
 clear hK9 K9
 refine sop (h := fun K9 hK9 => ?_)
 have jm1 := tt j2 j1c
 replace HB2 := kB HB2 jm1
 have c4 := kC HB2 0 rfl
 have c5 := kF HB2 0
 have c6 := kC HB2 1 rfl
 have c7 := kF HB2 1
 go_simp
 obtain ⟨W8, HW8⟩ : ∃ W, Hid (W = ((w1.setCell ⟨w.heap.size, 0, none⟩ (.bool g1a)).setCell ⟨w.heap.size, 1, none⟩ (.slice A1a k1a c1a))) := ⟨_, rfl⟩
 have SW8 : Hid (W8 = setsW w1 (w.heap.size) 0 [.bool g1a, .slice A1a k1a c1a]) := HW8.out
 have TW8 := kN (SW8.out) HB2 rfl rfl
 replace HB2 := kP (ds := [.bool g1a, .slice A1a k1a c1a]) (SW8.out) HB2 rfl rfl
 rw [← HW8.out]
 replace HP2 := kO (SW8.out) HP2 HNE_P2_B2.out
 replace HP3 := kO (SW8.out) HP3 HNE_P3_B2.out
 refine ckk hK9 (by exact ⟨kD HP2 4, kD HP2 5, kD HP3 2, kD HP3 3⟩) (h := ?_)
 clear hK9 K9 c4 c5 c6 c7
 refine seq_done (by kernel_rfl) ?_
 go_wp2_with fail
 have c9 := kC HB2 0 rfl
 have c10 := kC HB2 1 rfl
 replace HR1 := kW TW8 HR1
 replace HBw := kS (SW8.out) l2b (kU HBw j1c)
 exact bodyPost_ret (v := .agg #[.bool g1a, .slice A1a k1a c1a]) (by simp [results, Tryz.results249, go_sem, c9, c10]) rfl ⟨⟨_, rfl, HR1.out⟩, HBw.out⟩
theorem prod_22 {b1 b2 : Nat} {g0 g1 g2 g3 p0 p1 p2 p3 : Bool} {s0 s1 s2 s3 t0 t1 t2 t3 : Value} (zi yk : Int) (w : World) (h1 : w.heap[b1]? = some (.cells #[.bool g0, s0, .bool g1, s1, .bool g2, s2, .bool g3, s3] 28 (0, 0))) (h2 : w.heap[b2]? = some (.cells #[.bool p0, t0, .bool p1, t1, .bool p2, t2, .bool p3, t3] 28 (0, 0))) (hz : RdZ w (.agg #[.bool g2, s2]) zi) (hy : RdZ w (.agg #[.bool p2, t2]) yk) (hz6 : dl zi.natAbs ≤ 450000) (hy6 : dl yk.natAbs ≤ 450000) :
  Calls Tryz.prog 249 #[.int .i64 2, .int .i64 2, .pointer (some ⟨b1, 0, none⟩), .pointer (some ⟨b2, 0, none⟩)] w fun e w' => (∃ v', e = .returned v' ∧ RdZ w' v' (zi * yk)) ∧ Below w.heap.size w w' := by
 have HX0 := h0d hz
 have HX1 := h0d hy
 have HP2 := h0d h1
 have HP3 := h0d h2
 clear hz hy h1 h2
 go_enter Tryz.func249, Tryz.ntmps249
 obtain ⟨W1, HW1, HB2, s1w, j1⟩ := st_al0 w #[.bool false, .slice none 0 0] 27
 have HNE_P2_B2 : Hid (b1 ≠ w.heap.size) := by show _ ≠ _; have hlt := blk_lt HP2.out; omega
 have HNE_P3_B2 : Hid (b2 ≠ w.heap.size) := by show _ ≠ _; have hlt := blk_lt HP3.out; omega
 have l2b : Hid (w.heap.size ≤ w.heap.size) := by show _ ≤ _; omega
 have HBw := h0d j1
 go_wp2_with fail
 rw [← HW1.out]
 obtain ⟨W3, hW3⟩ : ∃ W, W = W1.drew := ⟨_, rfl⟩
 have j2 : Below W1.heap.size W1 W3 := by rw [hW3]; exact (Below.refl _ _).drew
 replace HBw := kU HBw j2
 replace HP2 := kB HP2 HBw.out
 replace HP3 := kB HP3 HBw.out
 refine seq_start (S := fun w' => w'.cell? ⟨b1, 4, none⟩ = some (.bool g2) ∧ w'.cell? ⟨b1, 5, none⟩ = some (s2) ∧ w'.cell? ⟨b2, 4, none⟩ = some (.bool p2) ∧ w'.cell? ⟨b2, 5, none⟩ = some (t2)) (by kernel_rfl) (by kernel_rfl) (by rw [← hW3]; exact ⟨kD HP2 4, kD HP2 5, kD HP3 4, kD HP3 5⟩) ?_
 rw [← hW3]
 clear hW3
 iterate 6 refine tk0 (h := ?_)
 refine sop (h := fun K9 hK9 => ?_)
 go_simp
 replace HX0 := kV HBw.out HX0
 replace HX1 := kV HBw.out HX1
 refine mZ (itimes_any _ _ zi yk _ HX0.out HX1.out (by omega) (by omega)) fun w1 g1a A1a k1a c1a HR1 j1c => ?_
 replace HP2 := kB HP2 j1c
 replace HP3 := kB HP3 j1c
 refine ckk hK9 (by exact ⟨kD HP2 4, kD HP2 5, kD HP3 4, kD HP3 5⟩) (h := ?_)
 clear hK9 K9
 refine sop (h := fun K9 hK9 => ?_)
 have jm1 := tt j2 j1c
 replace HB2 := kB HB2 jm1
 have c4 := kC HB2 0 rfl
 have c5 := kF HB2 0
 have c6 := kC HB2 1 rfl
 have c7 := kF HB2 1
 go_simp
 obtain ⟨W8, HW8⟩ : ∃ W, Hid (W = ((w1.setCell ⟨w.heap.size, 0, none⟩ (.bool g1a)).setCell ⟨w.heap.size, 1, none⟩ (.slice A1a k1a c1a))) := ⟨_, rfl⟩
 have SW8 : Hid (W8 = setsW w1 (w.heap.size) 0 [.bool g1a, .slice A1a k1a c1a]) := HW8.out
 have TW8 := kN (SW8.out) HB2 rfl rfl
 replace HB2 := kP (ds := [.bool g1a, .slice A1a k1a c1a]) (SW8.out) HB2 rfl rfl
 rw [← HW8.out]
 replace HP2 := kO (SW8.out) HP2 HNE_P2_B2.out
 replace HP3 := kO (SW8.out) HP3 HNE_P3_B2.out
 refine ckk hK9 (by exact ⟨kD HP2 4, kD HP2 5, kD HP3 4, kD HP3 5⟩) (h := ?_)
 clear hK9 K9 c4 c5 c6 c7
 refine seq_done (by kernel_rfl) ?_
 go_wp2_with fail
 have c9 := kC HB2 0 rfl
 have c10 := kC HB2 1 rfl
 replace HR1 := kW TW8 HR1
 replace HBw := kS (SW8.out) l2b (kU HBw j1c)
 exact bodyPost_ret (v := .agg #[.bool g1a, .slice A1a k1a c1a]) (by simp [results, Tryz.results249, go_sem, c9, c10]) rfl ⟨⟨_, rfl, HR1.out⟩, HBw.out⟩
theorem prod_23 {b1 b2 : Nat} {g0 g1 g2 g3 p0 p1 p2 p3 : Bool} {s0 s1 s2 s3 t0 t1 t2 t3 : Value} (zi yk : Int) (w : World) (h1 : w.heap[b1]? = some (.cells #[.bool g0, s0, .bool g1, s1, .bool g2, s2, .bool g3, s3] 28 (0, 0))) (h2 : w.heap[b2]? = some (.cells #[.bool p0, t0, .bool p1, t1, .bool p2, t2, .bool p3, t3] 28 (0, 0))) (hz : RdZ w (.agg #[.bool g2, s2]) zi) (hy : RdZ w (.agg #[.bool p3, t3]) yk) (hz6 : dl zi.natAbs ≤ 450000) (hy6 : dl yk.natAbs ≤ 450000) :
  Calls Tryz.prog 249 #[.int .i64 2, .int .i64 3, .pointer (some ⟨b1, 0, none⟩), .pointer (some ⟨b2, 0, none⟩)] w fun e w' => (∃ v', e = .returned v' ∧ RdZ w' v' (zi * yk)) ∧ Below w.heap.size w w' := by
 have HX0 := h0d hz
 have HX1 := h0d hy
 have HP2 := h0d h1
 have HP3 := h0d h2
 clear hz hy h1 h2
 go_enter Tryz.func249, Tryz.ntmps249
 obtain ⟨W1, HW1, HB2, s1w, j1⟩ := st_al0 w #[.bool false, .slice none 0 0] 27
 have HNE_P2_B2 : Hid (b1 ≠ w.heap.size) := by show _ ≠ _; have hlt := blk_lt HP2.out; omega
 have HNE_P3_B2 : Hid (b2 ≠ w.heap.size) := by show _ ≠ _; have hlt := blk_lt HP3.out; omega
 have l2b : Hid (w.heap.size ≤ w.heap.size) := by show _ ≤ _; omega
 have HBw := h0d j1
 go_wp2_with fail
 rw [← HW1.out]
 obtain ⟨W3, hW3⟩ : ∃ W, W = W1.drew := ⟨_, rfl⟩
 have j2 : Below W1.heap.size W1 W3 := by rw [hW3]; exact (Below.refl _ _).drew
 replace HBw := kU HBw j2
 replace HP2 := kB HP2 HBw.out
 replace HP3 := kB HP3 HBw.out
 refine seq_start (S := fun w' => w'.cell? ⟨b1, 4, none⟩ = some (.bool g2) ∧ w'.cell? ⟨b1, 5, none⟩ = some (s2) ∧ w'.cell? ⟨b2, 6, none⟩ = some (.bool p3) ∧ w'.cell? ⟨b2, 7, none⟩ = some (t3)) (by kernel_rfl) (by kernel_rfl) (by rw [← hW3]; exact ⟨kD HP2 4, kD HP2 5, kD HP3 6, kD HP3 7⟩) ?_
 rw [← hW3]
 clear hW3
 iterate 6 refine tk0 (h := ?_)
 refine sop (h := fun K9 hK9 => ?_)
 go_simp
 replace HX0 := kV HBw.out HX0
 replace HX1 := kV HBw.out HX1
 refine mZ (itimes_any _ _ zi yk _ HX0.out HX1.out (by omega) (by omega)) fun w1 g1a A1a k1a c1a HR1 j1c => ?_
 replace HP2 := kB HP2 j1c
 replace HP3 := kB HP3 j1c
 refine ckk hK9 (by exact ⟨kD HP2 4, kD HP2 5, kD HP3 6, kD HP3 7⟩) (h := ?_)
 clear hK9 K9
 refine sop (h := fun K9 hK9 => ?_)
 have jm1 := tt j2 j1c
 replace HB2 := kB HB2 jm1
 have c4 := kC HB2 0 rfl
 have c5 := kF HB2 0
 have c6 := kC HB2 1 rfl
 have c7 := kF HB2 1
 go_simp
 obtain ⟨W8, HW8⟩ : ∃ W, Hid (W = ((w1.setCell ⟨w.heap.size, 0, none⟩ (.bool g1a)).setCell ⟨w.heap.size, 1, none⟩ (.slice A1a k1a c1a))) := ⟨_, rfl⟩
 have SW8 : Hid (W8 = setsW w1 (w.heap.size) 0 [.bool g1a, .slice A1a k1a c1a]) := HW8.out
 have TW8 := kN (SW8.out) HB2 rfl rfl
 replace HB2 := kP (ds := [.bool g1a, .slice A1a k1a c1a]) (SW8.out) HB2 rfl rfl
 rw [← HW8.out]
 replace HP2 := kO (SW8.out) HP2 HNE_P2_B2.out
 replace HP3 := kO (SW8.out) HP3 HNE_P3_B2.out
 refine ckk hK9 (by exact ⟨kD HP2 4, kD HP2 5, kD HP3 6, kD HP3 7⟩) (h := ?_)
 clear hK9 K9 c4 c5 c6 c7
 refine seq_done (by kernel_rfl) ?_
 go_wp2_with fail
 have c9 := kC HB2 0 rfl
 have c10 := kC HB2 1 rfl
 replace HR1 := kW TW8 HR1
 replace HBw := kS (SW8.out) l2b (kU HBw j1c)
 exact bodyPost_ret (v := .agg #[.bool g1a, .slice A1a k1a c1a]) (by simp [results, Tryz.results249, go_sem, c9, c10]) rfl ⟨⟨_, rfl, HR1.out⟩, HBw.out⟩
theorem prod_30 {b1 b2 : Nat} {g0 g1 g2 g3 p0 p1 p2 p3 : Bool} {s0 s1 s2 s3 t0 t1 t2 t3 : Value} (zi yk : Int) (w : World) (h1 : w.heap[b1]? = some (.cells #[.bool g0, s0, .bool g1, s1, .bool g2, s2, .bool g3, s3] 28 (0, 0))) (h2 : w.heap[b2]? = some (.cells #[.bool p0, t0, .bool p1, t1, .bool p2, t2, .bool p3, t3] 28 (0, 0))) (hz : RdZ w (.agg #[.bool g3, s3]) zi) (hy : RdZ w (.agg #[.bool p0, t0]) yk) (hz6 : dl zi.natAbs ≤ 450000) (hy6 : dl yk.natAbs ≤ 450000) :
  Calls Tryz.prog 249 #[.int .i64 3, .int .i64 0, .pointer (some ⟨b1, 0, none⟩), .pointer (some ⟨b2, 0, none⟩)] w fun e w' => (∃ v', e = .returned v' ∧ RdZ w' v' (zi * yk)) ∧ Below w.heap.size w w' := by
 have HX0 := h0d hz
 have HX1 := h0d hy
 have HP2 := h0d h1
 have HP3 := h0d h2
 clear hz hy h1 h2
 go_enter Tryz.func249, Tryz.ntmps249
 obtain ⟨W1, HW1, HB2, s1w, j1⟩ := st_al0 w #[.bool false, .slice none 0 0] 27
 have HNE_P2_B2 : Hid (b1 ≠ w.heap.size) := by show _ ≠ _; have hlt := blk_lt HP2.out; omega
 have HNE_P3_B2 : Hid (b2 ≠ w.heap.size) := by show _ ≠ _; have hlt := blk_lt HP3.out; omega
 have l2b : Hid (w.heap.size ≤ w.heap.size) := by show _ ≤ _; omega
 have HBw := h0d j1
 go_wp2_with fail
 rw [← HW1.out]
 obtain ⟨W3, hW3⟩ : ∃ W, W = W1.drew := ⟨_, rfl⟩
 have j2 : Below W1.heap.size W1 W3 := by rw [hW3]; exact (Below.refl _ _).drew
 replace HBw := kU HBw j2
 replace HP2 := kB HP2 HBw.out
 replace HP3 := kB HP3 HBw.out
 refine seq_start (S := fun w' => w'.cell? ⟨b1, 6, none⟩ = some (.bool g3) ∧ w'.cell? ⟨b1, 7, none⟩ = some (s3) ∧ w'.cell? ⟨b2, 0, none⟩ = some (.bool p0) ∧ w'.cell? ⟨b2, 1, none⟩ = some (t0)) (by kernel_rfl) (by kernel_rfl) (by rw [← hW3]; exact ⟨kD HP2 6, kD HP2 7, kD HP3 0, kD HP3 1⟩) ?_
 rw [← hW3]
 clear hW3
 iterate 6 refine tk0 (h := ?_)
 refine sop (h := fun K9 hK9 => ?_)
 go_simp
 replace HX0 := kV HBw.out HX0
 replace HX1 := kV HBw.out HX1
 refine mZ (itimes_any _ _ zi yk _ HX0.out HX1.out (by omega) (by omega)) fun w1 g1a A1a k1a c1a HR1 j1c => ?_
 replace HP2 := kB HP2 j1c
 replace HP3 := kB HP3 j1c
 refine ckk hK9 (by exact ⟨kD HP2 6, kD HP2 7, kD HP3 0, kD HP3 1⟩) (h := ?_)
 clear hK9 K9
 refine sop (h := fun K9 hK9 => ?_)
 have jm1 := tt j2 j1c
 replace HB2 := kB HB2 jm1
 have c4 := kC HB2 0 rfl
 have c5 := kF HB2 0
 have c6 := kC HB2 1 rfl
 have c7 := kF HB2 1
 go_simp
 obtain ⟨W8, HW8⟩ : ∃ W, Hid (W = ((w1.setCell ⟨w.heap.size, 0, none⟩ (.bool g1a)).setCell ⟨w.heap.size, 1, none⟩ (.slice A1a k1a c1a))) := ⟨_, rfl⟩
 have SW8 : Hid (W8 = setsW w1 (w.heap.size) 0 [.bool g1a, .slice A1a k1a c1a]) := HW8.out
 have TW8 := kN (SW8.out) HB2 rfl rfl
 replace HB2 := kP (ds := [.bool g1a, .slice A1a k1a c1a]) (SW8.out) HB2 rfl rfl
 rw [← HW8.out]
 replace HP2 := kO (SW8.out) HP2 HNE_P2_B2.out
 replace HP3 := kO (SW8.out) HP3 HNE_P3_B2.out
 refine ckk hK9 (by exact ⟨kD HP2 6, kD HP2 7, kD HP3 0, kD HP3 1⟩) (h := ?_)
 clear hK9 K9 c4 c5 c6 c7
 refine seq_done (by kernel_rfl) ?_
 go_wp2_with fail
 have c9 := kC HB2 0 rfl
 have c10 := kC HB2 1 rfl
 replace HR1 := kW TW8 HR1
 replace HBw := kS (SW8.out) l2b (kU HBw j1c)
 exact bodyPost_ret (v := .agg #[.bool g1a, .slice A1a k1a c1a]) (by simp [results, Tryz.results249, go_sem, c9, c10]) rfl ⟨⟨_, rfl, HR1.out⟩, HBw.out⟩
theorem prod_31 {b1 b2 : Nat} {g0 g1 g2 g3 p0 p1 p2 p3 : Bool} {s0 s1 s2 s3 t0 t1 t2 t3 : Value} (zi yk : Int) (w : World) (h1 : w.heap[b1]? = some (.cells #[.bool g0, s0, .bool g1, s1, .bool g2, s2, .bool g3, s3] 28 (0, 0))) (h2 : w.heap[b2]? = some (.cells #[.bool p0, t0, .bool p1, t1, .bool p2, t2, .bool p3, t3] 28 (0, 0))) (hz : RdZ w (.agg #[.bool g3, s3]) zi) (hy : RdZ w (.agg #[.bool p1, t1]) yk) (hz6 : dl zi.natAbs ≤ 450000) (hy6 : dl yk.natAbs ≤ 450000) :
  Calls Tryz.prog 249 #[.int .i64 3, .int .i64 1, .pointer (some ⟨b1, 0, none⟩), .pointer (some ⟨b2, 0, none⟩)] w fun e w' => (∃ v', e = .returned v' ∧ RdZ w' v' (zi * yk)) ∧ Below w.heap.size w w' := by
 have HX0 := h0d hz
 have HX1 := h0d hy
 have HP2 := h0d h1
 have HP3 := h0d h2
 clear hz hy h1 h2
 go_enter Tryz.func249, Tryz.ntmps249
 obtain ⟨W1, HW1, HB2, s1w, j1⟩ := st_al0 w #[.bool false, .slice none 0 0] 27
 have HNE_P2_B2 : Hid (b1 ≠ w.heap.size) := by show _ ≠ _; have hlt := blk_lt HP2.out; omega
 have HNE_P3_B2 : Hid (b2 ≠ w.heap.size) := by show _ ≠ _; have hlt := blk_lt HP3.out; omega
 have l2b : Hid (w.heap.size ≤ w.heap.size) := by show _ ≤ _; omega
 have HBw := h0d j1
 go_wp2_with fail
 rw [← HW1.out]
 obtain ⟨W3, hW3⟩ : ∃ W, W = W1.drew := ⟨_, rfl⟩
 have j2 : Below W1.heap.size W1 W3 := by rw [hW3]; exact (Below.refl _ _).drew
 replace HBw := kU HBw j2
 replace HP2 := kB HP2 HBw.out
 replace HP3 := kB HP3 HBw.out
 refine seq_start (S := fun w' => w'.cell? ⟨b1, 6, none⟩ = some (.bool g3) ∧ w'.cell? ⟨b1, 7, none⟩ = some (s3) ∧ w'.cell? ⟨b2, 2, none⟩ = some (.bool p1) ∧ w'.cell? ⟨b2, 3, none⟩ = some (t1)) (by kernel_rfl) (by kernel_rfl) (by rw [← hW3]; exact ⟨kD HP2 6, kD HP2 7, kD HP3 2, kD HP3 3⟩) ?_
 rw [← hW3]
 clear hW3
 iterate 6 refine tk0 (h := ?_)
 refine sop (h := fun K9 hK9 => ?_)
 go_simp
 replace HX0 := kV HBw.out HX0
 replace HX1 := kV HBw.out HX1
 refine mZ (itimes_any _ _ zi yk _ HX0.out HX1.out (by omega) (by omega)) fun w1 g1a A1a k1a c1a HR1 j1c => ?_
 replace HP2 := kB HP2 j1c
 replace HP3 := kB HP3 j1c
 refine ckk hK9 (by exact ⟨kD HP2 6, kD HP2 7, kD HP3 2, kD HP3 3⟩) (h := ?_)
 clear hK9 K9
 refine sop (h := fun K9 hK9 => ?_)
 have jm1 := tt j2 j1c
 replace HB2 := kB HB2 jm1
 have c4 := kC HB2 0 rfl
 have c5 := kF HB2 0
 have c6 := kC HB2 1 rfl
 have c7 := kF HB2 1
 go_simp
 obtain ⟨W8, HW8⟩ : ∃ W, Hid (W = ((w1.setCell ⟨w.heap.size, 0, none⟩ (.bool g1a)).setCell ⟨w.heap.size, 1, none⟩ (.slice A1a k1a c1a))) := ⟨_, rfl⟩
 have SW8 : Hid (W8 = setsW w1 (w.heap.size) 0 [.bool g1a, .slice A1a k1a c1a]) := HW8.out
 have TW8 := kN (SW8.out) HB2 rfl rfl
 replace HB2 := kP (ds := [.bool g1a, .slice A1a k1a c1a]) (SW8.out) HB2 rfl rfl
 rw [← HW8.out]
 replace HP2 := kO (SW8.out) HP2 HNE_P2_B2.out
 replace HP3 := kO (SW8.out) HP3 HNE_P3_B2.out
 refine ckk hK9 (by exact ⟨kD HP2 6, kD HP2 7, kD HP3 2, kD HP3 3⟩) (h := ?_)
 clear hK9 K9 c4 c5 c6 c7
 refine seq_done (by kernel_rfl) ?_
 go_wp2_with fail
 have c9 := kC HB2 0 rfl
 have c10 := kC HB2 1 rfl
 replace HR1 := kW TW8 HR1
 replace HBw := kS (SW8.out) l2b (kU HBw j1c)
 exact bodyPost_ret (v := .agg #[.bool g1a, .slice A1a k1a c1a]) (by simp [results, Tryz.results249, go_sem, c9, c10]) rfl ⟨⟨_, rfl, HR1.out⟩, HBw.out⟩
theorem prod_32 {b1 b2 : Nat} {g0 g1 g2 g3 p0 p1 p2 p3 : Bool} {s0 s1 s2 s3 t0 t1 t2 t3 : Value} (zi yk : Int) (w : World) (h1 : w.heap[b1]? = some (.cells #[.bool g0, s0, .bool g1, s1, .bool g2, s2, .bool g3, s3] 28 (0, 0))) (h2 : w.heap[b2]? = some (.cells #[.bool p0, t0, .bool p1, t1, .bool p2, t2, .bool p3, t3] 28 (0, 0))) (hz : RdZ w (.agg #[.bool g3, s3]) zi) (hy : RdZ w (.agg #[.bool p2, t2]) yk) (hz6 : dl zi.natAbs ≤ 450000) (hy6 : dl yk.natAbs ≤ 450000) :
  Calls Tryz.prog 249 #[.int .i64 3, .int .i64 2, .pointer (some ⟨b1, 0, none⟩), .pointer (some ⟨b2, 0, none⟩)] w fun e w' => (∃ v', e = .returned v' ∧ RdZ w' v' (zi * yk)) ∧ Below w.heap.size w w' := by
 have HX0 := h0d hz
 have HX1 := h0d hy
 have HP2 := h0d h1
 have HP3 := h0d h2
 clear hz hy h1 h2
 go_enter Tryz.func249, Tryz.ntmps249
 obtain ⟨W1, HW1, HB2, s1w, j1⟩ := st_al0 w #[.bool false, .slice none 0 0] 27
 have HNE_P2_B2 : Hid (b1 ≠ w.heap.size) := by show _ ≠ _; have hlt := blk_lt HP2.out; omega
 have HNE_P3_B2 : Hid (b2 ≠ w.heap.size) := by show _ ≠ _; have hlt := blk_lt HP3.out; omega
 have l2b : Hid (w.heap.size ≤ w.heap.size) := by show _ ≤ _; omega
 have HBw := h0d j1
 go_wp2_with fail
 rw [← HW1.out]
 obtain ⟨W3, hW3⟩ : ∃ W, W = W1.drew := ⟨_, rfl⟩
 have j2 : Below W1.heap.size W1 W3 := by rw [hW3]; exact (Below.refl _ _).drew
 replace HBw := kU HBw j2
 replace HP2 := kB HP2 HBw.out
 replace HP3 := kB HP3 HBw.out
 refine seq_start (S := fun w' => w'.cell? ⟨b1, 6, none⟩ = some (.bool g3) ∧ w'.cell? ⟨b1, 7, none⟩ = some (s3) ∧ w'.cell? ⟨b2, 4, none⟩ = some (.bool p2) ∧ w'.cell? ⟨b2, 5, none⟩ = some (t2)) (by kernel_rfl) (by kernel_rfl) (by rw [← hW3]; exact ⟨kD HP2 6, kD HP2 7, kD HP3 4, kD HP3 5⟩) ?_
 rw [← hW3]
 clear hW3
 iterate 6 refine tk0 (h := ?_)
 refine sop (h := fun K9 hK9 => ?_)
 go_simp
 replace HX0 := kV HBw.out HX0
 replace HX1 := kV HBw.out HX1
 refine mZ (itimes_any _ _ zi yk _ HX0.out HX1.out (by omega) (by omega)) fun w1 g1a A1a k1a c1a HR1 j1c => ?_
 replace HP2 := kB HP2 j1c
 replace HP3 := kB HP3 j1c
 refine ckk hK9 (by exact ⟨kD HP2 6, kD HP2 7, kD HP3 4, kD HP3 5⟩) (h := ?_)
 clear hK9 K9
 refine sop (h := fun K9 hK9 => ?_)
 have jm1 := tt j2 j1c
 replace HB2 := kB HB2 jm1
 have c4 := kC HB2 0 rfl
 have c5 := kF HB2 0
 have c6 := kC HB2 1 rfl
 have c7 := kF HB2 1
 go_simp
 obtain ⟨W8, HW8⟩ : ∃ W, Hid (W = ((w1.setCell ⟨w.heap.size, 0, none⟩ (.bool g1a)).setCell ⟨w.heap.size, 1, none⟩ (.slice A1a k1a c1a))) := ⟨_, rfl⟩
 have SW8 : Hid (W8 = setsW w1 (w.heap.size) 0 [.bool g1a, .slice A1a k1a c1a]) := HW8.out
 have TW8 := kN (SW8.out) HB2 rfl rfl
 replace HB2 := kP (ds := [.bool g1a, .slice A1a k1a c1a]) (SW8.out) HB2 rfl rfl
 rw [← HW8.out]
 replace HP2 := kO (SW8.out) HP2 HNE_P2_B2.out
 replace HP3 := kO (SW8.out) HP3 HNE_P3_B2.out
 refine ckk hK9 (by exact ⟨kD HP2 6, kD HP2 7, kD HP3 4, kD HP3 5⟩) (h := ?_)
 clear hK9 K9 c4 c5 c6 c7
 refine seq_done (by kernel_rfl) ?_
 go_wp2_with fail
 have c9 := kC HB2 0 rfl
 have c10 := kC HB2 1 rfl
 replace HR1 := kW TW8 HR1
 replace HBw := kS (SW8.out) l2b (kU HBw j1c)
 exact bodyPost_ret (v := .agg #[.bool g1a, .slice A1a k1a c1a]) (by simp [results, Tryz.results249, go_sem, c9, c10]) rfl ⟨⟨_, rfl, HR1.out⟩, HBw.out⟩
theorem prod_33 {b1 b2 : Nat} {g0 g1 g2 g3 p0 p1 p2 p3 : Bool} {s0 s1 s2 s3 t0 t1 t2 t3 : Value} (zi yk : Int) (w : World) (h1 : w.heap[b1]? = some (.cells #[.bool g0, s0, .bool g1, s1, .bool g2, s2, .bool g3, s3] 28 (0, 0))) (h2 : w.heap[b2]? = some (.cells #[.bool p0, t0, .bool p1, t1, .bool p2, t2, .bool p3, t3] 28 (0, 0))) (hz : RdZ w (.agg #[.bool g3, s3]) zi) (hy : RdZ w (.agg #[.bool p3, t3]) yk) (hz6 : dl zi.natAbs ≤ 450000) (hy6 : dl yk.natAbs ≤ 450000) :
  Calls Tryz.prog 249 #[.int .i64 3, .int .i64 3, .pointer (some ⟨b1, 0, none⟩), .pointer (some ⟨b2, 0, none⟩)] w fun e w' => (∃ v', e = .returned v' ∧ RdZ w' v' (zi * yk)) ∧ Below w.heap.size w w' := by
 have HX0 := h0d hz
 have HX1 := h0d hy
 have HP2 := h0d h1
 have HP3 := h0d h2
 clear hz hy h1 h2
 go_enter Tryz.func249, Tryz.ntmps249
 obtain ⟨W1, HW1, HB2, s1w, j1⟩ := st_al0 w #[.bool false, .slice none 0 0] 27
 have HNE_P2_B2 : Hid (b1 ≠ w.heap.size) := by show _ ≠ _; have hlt := blk_lt HP2.out; omega
 have HNE_P3_B2 : Hid (b2 ≠ w.heap.size) := by show _ ≠ _; have hlt := blk_lt HP3.out; omega
 have l2b : Hid (w.heap.size ≤ w.heap.size) := by show _ ≤ _; omega
 have HBw := h0d j1
 go_wp2_with fail
 rw [← HW1.out]
 obtain ⟨W3, hW3⟩ : ∃ W, W = W1.drew := ⟨_, rfl⟩
 have j2 : Below W1.heap.size W1 W3 := by rw [hW3]; exact (Below.refl _ _).drew
 replace HBw := kU HBw j2
 replace HP2 := kB HP2 HBw.out
 replace HP3 := kB HP3 HBw.out
 refine seq_start (S := fun w' => w'.cell? ⟨b1, 6, none⟩ = some (.bool g3) ∧ w'.cell? ⟨b1, 7, none⟩ = some (s3) ∧ w'.cell? ⟨b2, 6, none⟩ = some (.bool p3) ∧ w'.cell? ⟨b2, 7, none⟩ = some (t3)) (by kernel_rfl) (by kernel_rfl) (by rw [← hW3]; exact ⟨kD HP2 6, kD HP2 7, kD HP3 6, kD HP3 7⟩) ?_
 rw [← hW3]
 clear hW3
 iterate 6 refine tk0 (h := ?_)
 refine sop (h := fun K9 hK9 => ?_)
 go_simp
 replace HX0 := kV HBw.out HX0
 replace HX1 := kV HBw.out HX1
 refine mZ (itimes_any _ _ zi yk _ HX0.out HX1.out (by omega) (by omega)) fun w1 g1a A1a k1a c1a HR1 j1c => ?_
 replace HP2 := kB HP2 j1c
 replace HP3 := kB HP3 j1c
 refine ckk hK9 (by exact ⟨kD HP2 6, kD HP2 7, kD HP3 6, kD HP3 7⟩) (h := ?_)
 clear hK9 K9
 refine sop (h := fun K9 hK9 => ?_)
 have jm1 := tt j2 j1c
 replace HB2 := kB HB2 jm1
 have c4 := kC HB2 0 rfl
 have c5 := kF HB2 0
 have c6 := kC HB2 1 rfl
 have c7 := kF HB2 1
 go_simp
 obtain ⟨W8, HW8⟩ : ∃ W, Hid (W = ((w1.setCell ⟨w.heap.size, 0, none⟩ (.bool g1a)).setCell ⟨w.heap.size, 1, none⟩ (.slice A1a k1a c1a))) := ⟨_, rfl⟩
 have SW8 : Hid (W8 = setsW w1 (w.heap.size) 0 [.bool g1a, .slice A1a k1a c1a]) := HW8.out
 have TW8 := kN (SW8.out) HB2 rfl rfl
 replace HB2 := kP (ds := [.bool g1a, .slice A1a k1a c1a]) (SW8.out) HB2 rfl rfl
 rw [← HW8.out]
 replace HP2 := kO (SW8.out) HP2 HNE_P2_B2.out
 replace HP3 := kO (SW8.out) HP3 HNE_P3_B2.out
 refine ckk hK9 (by exact ⟨kD HP2 6, kD HP2 7, kD HP3 6, kD HP3 7⟩) (h := ?_)
 clear hK9 K9 c4 c5 c6 c7
 refine seq_done (by kernel_rfl) ?_
 go_wp2_with fail
 have c9 := kC HB2 0 rfl
 have c10 := kC HB2 1 rfl
 replace HR1 := kW TW8 HR1
 replace HBw := kS (SW8.out) l2b (kU HBw j1c)
 exact bodyPost_ret (v := .agg #[.bool g1a, .slice A1a k1a c1a]) (by simp [results, Tryz.results249, go_sem, c9, c10]) rfl ⟨⟨_, rfl, HR1.out⟩, HBw.out⟩
theorem product_any (v u : Value) (n0 n1 n2 n3 m0 m1 m2 m3 : Int) (Ks Ls : Nat) (w : World) (hv : RdA w v n0 n1 n2 n3) (hu : RdA w u m0 m1 m2 m3) (hn : (dl n0.natAbs ≤ Ks ∧ dl n1.natAbs ≤ Ks ∧ dl n2.natAbs ≤ Ks ∧ dl n3.natAbs ≤ Ks)) (hm : (dl m0.natAbs ≤ Ls ∧ dl m1.natAbs ≤ Ls ∧ dl m2.natAbs ≤ Ls ∧ dl m3.natAbs ≤ Ls)) (hK : Ks ≤ 100000) (hL : Ls ≤ 100000) :
  Calls Tryz.prog 206 #[v, u] w fun e w' => ((∃ v', e = .returned v' ∧ RdA w' v' (n0 * m0 + n1 * m1 * 2 + n2 * m2 * 3 + n3 * m3 * 6) (n0 * m1 + n1 * m0 + (n2 * m3 + n3 * m2) * 3) (n0 * m2 + n2 * m0 + (n1 * m3 + n3 * m1) * 2) (n0 * m3 + n3 * m0 + n1 * m2 + n2 * m1)) ∧ Below w.heap.size w w') := by
 have HSn := h0d hn
 have HSm := h0d hm
 clear hn hm
 obtain ⟨gp0a, Ap0a, kp0a, cp0a, gp0b, Ap0b, kp0b, cp0b, gp0c, Ap0c, kp0c, cp0c, gp0d, Ap0d, kp0d, cp0d, rfl, hv⟩ := hv.open
 have HX0 := h0d hv
 clear hv
 obtain ⟨gp1a, Ap1a, kp1a, cp1a, gp1b, Ap1b, kp1b, cp1b, gp1c, Ap1c, kp1c, cp1c, gp1d, Ap1d, kp1d, cp1d, rfl, hu⟩ := hu.open
 have HX1 := h0d hu
 clear hu
 go_enter Tryz.func206, Tryz.ntmps206
 obtain ⟨W1, HW1, HB2, s1w, j1⟩ := st_al0 w #[.bool gp0a, .slice Ap0a kp0a cp0a, .bool gp0b, .slice Ap0b kp0b cp0b, .bool gp0c, .slice Ap0c kp0c cp0c, .bool gp0d, .slice Ap0d kp0d cp0d] 28
 have HBw := h0d j1
 obtain ⟨W3, HW3, HB4, s3w, j2⟩ := st_alk 1 2 #[.bool gp1a, .slice Ap1a kp1a cp1a, .bool gp1b, .slice Ap1b kp1b cp1b, .bool gp1c, .slice Ap1c kp1c cp1c, .bool gp1d, .slice Ap1d kp1d cp1d] 28 s1w rfl
 obtain ⟨W5, HW5, HB6, s5w, j3⟩ := st_alk 2 3 #[.bool false, .slice none 0 0, .bool false, .slice none 0 0, .bool false, .slice none 0 0, .bool false, .slice none 0 0] 28 s3w rfl
 have l6b : Hid (w.heap.size ≤ w.heap.size + 2) := by show _ ≤ _; omega
 go_wp2_with fail
 rw [← HW1.out, ← HW3.out, ← HW5.out]
 have jm1 := tt j2 j3
 replace HB2 := kB HB2 jm1
 replace HB4 := kB HB4 j3
 replace HBw := kU HBw jm1
 replace HX0 := kV HBw.out HX0
 replace HX1 := kV HBw.out HX1
 refine mZ (prod_00 n0 m0 _ HB2.out HB4.out HX0.out.z0 HX1.out.z0 (by have := HSn.out.1; omega) (by have := HSm.out.1; omega)) fun w1 g1a A1a k1a c1a HR1 j1c => ?_
 go_wp2_with fail
 replace HB2 := kB HB2 j1c
 replace HB4 := kB HB4 j1c
 replace HX0 := kV j1c HX0
 replace HX1 := kV j1c HX1
 refine mZ (prod_11 n1 m1 _ HB2.out HB4.out HX0.out.z1 HX1.out.z1 (by have := HSn.out.2.1; omega) (by have := HSm.out.2.1; omega)) fun w2 g2a A2a k2a c2a HR2 j2c => ?_
 go_wp2_with fail
 refine mZ (ifold2 _ (n1 * m1) _ HR2.out (by have := (dl_mul2 HSn.out.2.1 HSm.out.2.1); omega)) fun w3 g3a A3a k3a c3a HR3 j3c => ?_
 go_wp2_with fail
 have jm2 := tt j2c j3c
 replace HR1 := kV jm2 HR1
 refine mZ (iplus_any _ _ (n0 * m0) (n1 * m1 * 2) _ HR1.out HR3.out (by have := (dl_mul2 HSn.out.1 HSm.out.1); omega) (by have := (dl_f2 (dl_mul2 HSn.out.2.1 HSm.out.2.1)); omega)) fun w4 g4a A4a k4a c4a HR4 j4c => ?_
 go_wp2_with fail
 have jm3 := tt jm2 j4c
 replace HB2 := kB HB2 jm3
 replace HB4 := kB HB4 jm3
 replace HX0 := kV jm3 HX0
 replace HX1 := kV jm3 HX1
 refine mZ (prod_22 n2 m2 _ HB2.out HB4.out HX0.out.z2 HX1.out.z2 (by have := HSn.out.2.2.1; omega) (by have := HSm.out.2.2.1; omega)) fun w5 g5a A5a k5a c5a HR5 j5c => ?_
 go_wp2_with fail
 refine mZ (ifold3 _ (n2 * m2) _ HR5.out (by have := (dl_mul2 HSn.out.2.2.1 HSm.out.2.2.1); omega)) fun w6 g6a A6a k6a c6a HR6 j6c => ?_
 go_wp2_with fail
 have jm4 := tt j5c j6c
 replace HR4 := kV jm4 HR4
 refine mZ (iplus_any _ _ (n0 * m0 + n1 * m1 * 2) (n2 * m2 * 3) _ HR4.out HR6.out (by have := (dl_add2 (K := Ks + Ls + 1) (Nat.le_trans (dl_mul2 HSn.out.1 HSm.out.1) (by omega)) (Nat.le_trans (dl_f2 (dl_mul2 HSn.out.2.1 HSm.out.2.1)) (by omega))); omega) (by have := (dl_f3 (dl_mul2 HSn.out.2.2.1 HSm.out.2.2.1)); omega)) fun w7 g7a A7a k7a c7a HR7 j7c => ?_
 go_wp2_with fail
 have jm5 := tt jm4 j7c
 replace HB2 := kB HB2 jm5
 replace HB4 := kB HB4 jm5
 replace HX0 := kV jm5 HX0
 replace HX1 := kV jm5 HX1
 refine mZ (prod_33 n3 m3 _ HB2.out HB4.out HX0.out.z3 HX1.out.z3 (by have := HSn.out.2.2.2; omega) (by have := HSm.out.2.2.2; omega)) fun w8 g8a A8a k8a c8a HR8 j8c => ?_
 go_wp2_with fail
 refine mZ (ifold6 _ (n3 * m3) _ HR8.out (by have := (dl_mul2 HSn.out.2.2.2 HSm.out.2.2.2); omega)) fun w9 g9a A9a k9a c9a HR9 j9c => ?_
 go_wp2_with fail
 have jm6 := tt j8c j9c
 replace HR7 := kV jm6 HR7
 refine mZ (iplus_any _ _ (n0 * m0 + n1 * m1 * 2 + n2 * m2 * 3) (n3 * m3 * 6) _ HR7.out HR9.out (by have := (dl_add2 (K := Ks + Ls + 2) (Nat.le_trans (dl_add2 (K := Ks + Ls + 1) (Nat.le_trans (dl_mul2 HSn.out.1 HSm.out.1) (by omega)) (Nat.le_trans (dl_f2 (dl_mul2 HSn.out.2.1 HSm.out.2.1)) (by omega))) (by omega)) (Nat.le_trans (dl_f3 (dl_mul2 HSn.out.2.2.1 HSm.out.2.2.1)) (by omega))); omega) (by have := (dl_f6 (dl_mul2 HSn.out.2.2.2 HSm.out.2.2.2)); omega)) fun w10 g10a A10a k10a c10a HR10 j10c => ?_
 go_wp2_with fail
 have jm7 := tt jm6 j10c
 replace HB2 := kB HB2 jm7
 replace HB4 := kB HB4 jm7
 replace HX0 := kV jm7 HX0
 replace HX1 := kV jm7 HX1
 refine mZ (prod_01 n0 m1 _ HB2.out HB4.out HX0.out.z0 HX1.out.z1 (by have := HSn.out.1; omega) (by have := HSm.out.2.1; omega)) fun w11 g11a A11a k11a c11a HR11 j11c => ?_
 go_wp2_with fail
 replace HB2 := kB HB2 j11c
 replace HB4 := kB HB4 j11c
 replace HX0 := kV j11c HX0
 replace HX1 := kV j11c HX1
 refine mZ (prod_10 n1 m0 _ HB2.out HB4.out HX0.out.z1 HX1.out.z0 (by have := HSn.out.2.1; omega) (by have := HSm.out.1; omega)) fun w12 g12a A12a k12a c12a HR12 j12c => ?_
 go_wp2_with fail
 replace HR11 := kV j12c HR11
 refine mZ (iplus_any _ _ (n0 * m1) (n1 * m0) _ HR11.out HR12.out (by have := (dl_mul2 HSn.out.1 HSm.out.2.1); omega) (by have := (dl_mul2 HSn.out.2.1 HSm.out.1); omega)) fun w13 g13a A13a k13a c13a HR13 j13c => ?_
 go_wp2_with fail
 have jm8 := tt j12c j13c
 replace HB2 := kB HB2 jm8
 replace HB4 := kB HB4 jm8
 replace HX0 := kV jm8 HX0
 replace HX1 := kV jm8 HX1
 refine mZ (prod_23 n2 m3 _ HB2.out HB4.out HX0.out.z2 HX1.out.z3 (by have := HSn.out.2.2.1; omega) (by have := HSm.out.2.2.2; omega)) fun w14 g14a A14a k14a c14a HR14 j14c => ?_
 go_wp2_with fail
 replace HB2 := kB HB2 j14c
 replace HB4 := kB HB4 j14c
 replace HX0 := kV j14c HX0
 replace HX1 := kV j14c HX1
 refine mZ (prod_32 n3 m2 _ HB2.out HB4.out HX0.out.z3 HX1.out.z2 (by have := HSn.out.2.2.2; omega) (by have := HSm.out.2.2.1; omega)) fun w15 g15a A15a k15a c15a HR15 j15c => ?_
 go_wp2_with fail
 replace HR14 := kV j15c HR14
 refine mZ (iplus_any _ _ (n2 * m3) (n3 * m2) _ HR14.out HR15.out (by have := (dl_mul2 HSn.out.2.2.1 HSm.out.2.2.2); omega) (by have := (dl_mul2 HSn.out.2.2.2 HSm.out.2.2.1); omega)) fun w16 g16a A16a k16a c16a HR16 j16c => ?_
 go_wp2_with fail
 refine mZ (ifold3 _ (n2 * m3 + n3 * m2) _ HR16.out (by have := (dl_add2 (K := Ks + Ls + 0) (Nat.le_trans (dl_mul2 HSn.out.2.2.1 HSm.out.2.2.2) (by omega)) (Nat.le_trans (dl_mul2 HSn.out.2.2.2 HSm.out.2.2.1) (by omega))); omega)) fun w17 g17a A17a k17a c17a HR17 j17c => ?_
 go_wp2_with fail
 have jm9 := tt (tt (tt j14c j15c) j16c) j17c
 replace HR13 := kV jm9 HR13
 refine mZ (iplus_any _ _ (n0 * m1 + n1 * m0) ((n2 * m3 + n3 * m2) * 3) _ HR13.out HR17.out (by have := (dl_add2 (K := Ks + Ls + 0) (Nat.le_trans (dl_mul2 HSn.out.1 HSm.out.2.1) (by omega)) (Nat.le_trans (dl_mul2 HSn.out.2.1 HSm.out.1) (by omega))); omega) (by have := (dl_f3 (dl_add2 (K := Ks + Ls + 0) (Nat.le_trans (dl_mul2 HSn.out.2.2.1 HSm.out.2.2.2) (by omega)) (Nat.le_trans (dl_mul2 HSn.out.2.2.2 HSm.out.2.2.1) (by omega)))); omega)) fun w18 g18a A18a k18a c18a HR18 j18c => ?_
 go_wp2_with fail
 have jm10 := tt (tt (tt j15c j16c) j17c) j18c
 replace HB2 := kB HB2 jm10
 replace HB4 := kB HB4 jm10
 replace HX0 := kV jm10 HX0
 replace HX1 := kV jm10 HX1
 refine mZ (prod_02 n0 m2 _ HB2.out HB4.out HX0.out.z0 HX1.out.z2 (by have := HSn.out.1; omega) (by have := HSm.out.2.2.1; omega)) fun w19 g19a A19a k19a c19a HR19 j19c => ?_
 go_wp2_with fail
 replace HB2 := kB HB2 j19c
 replace HB4 := kB HB4 j19c
 replace HX0 := kV j19c HX0
 replace HX1 := kV j19c HX1
 refine mZ (prod_20 n2 m0 _ HB2.out HB4.out HX0.out.z2 HX1.out.z0 (by have := HSn.out.2.2.1; omega) (by have := HSm.out.1; omega)) fun w20 g20a A20a k20a c20a HR20 j20c => ?_
 go_wp2_with fail
 replace HR19 := kV j20c HR19
 refine mZ (iplus_any _ _ (n0 * m2) (n2 * m0) _ HR19.out HR20.out (by have := (dl_mul2 HSn.out.1 HSm.out.2.2.1); omega) (by have := (dl_mul2 HSn.out.2.2.1 HSm.out.1); omega)) fun w21 g21a A21a k21a c21a HR21 j21c => ?_
 go_wp2_with fail
 have jm11 := tt j20c j21c
 replace HB2 := kB HB2 jm11
 replace HB4 := kB HB4 jm11
 replace HX0 := kV jm11 HX0
 replace HX1 := kV jm11 HX1
 refine mZ (prod_13 n1 m3 _ HB2.out HB4.out HX0.out.z1 HX1.out.z3 (by have := HSn.out.2.1; omega) (by have := HSm.out.2.2.2; omega)) fun w22 g22a A22a k22a c22a HR22 j22c => ?_
 go_wp2_with fail
 replace HB2 := kB HB2 j22c
 replace HB4 := kB HB4 j22c
 replace HX0 := kV j22c HX0
 replace HX1 := kV j22c HX1
 refine mZ (prod_31 n3 m1 _ HB2.out HB4.out HX0.out.z3 HX1.out.z1 (by have := HSn.out.2.2.2; omega) (by have := HSm.out.2.1; omega)) fun w23 g23a A23a k23a c23a HR23 j23c => ?_
 go_wp2_with fail
 replace HR22 := kV j23c HR22
 refine mZ (iplus_any _ _ (n1 * m3) (n3 * m1) _ HR22.out HR23.out (by have := (dl_mul2 HSn.out.2.1 HSm.out.2.2.2); omega) (by have := (dl_mul2 HSn.out.2.2.2 HSm.out.2.1); omega)) fun w24 g24a A24a k24a c24a HR24 j24c => ?_
 go_wp2_with fail
 refine mZ (ifold2 _ (n1 * m3 + n3 * m1) _ HR24.out (by have := (dl_add2 (K := Ks + Ls + 0) (Nat.le_trans (dl_mul2 HSn.out.2.1 HSm.out.2.2.2) (by omega)) (Nat.le_trans (dl_mul2 HSn.out.2.2.2 HSm.out.2.1) (by omega))); omega)) fun w25 g25a A25a k25a c25a HR25 j25c => ?_
 go_wp2_with fail
 have jm12 := tt (tt (tt j22c j23c) j24c) j25c
 replace HR21 := kV jm12 HR21
 refine mZ (iplus_any _ _ (n0 * m2 + n2 * m0) ((n1 * m3 + n3 * m1) * 2) _ HR21.out HR25.out (by have := (dl_add2 (K := Ks + Ls + 0) (Nat.le_trans (dl_mul2 HSn.out.1 HSm.out.2.2.1) (by omega)) (Nat.le_trans (dl_mul2 HSn.out.2.2.1 HSm.out.1) (by omega))); omega) (by have := (dl_f2 (dl_add2 (K := Ks + Ls + 0) (Nat.le_trans (dl_mul2 HSn.out.2.1 HSm.out.2.2.2) (by omega)) (Nat.le_trans (dl_mul2 HSn.out.2.2.2 HSm.out.2.1) (by omega)))); omega)) fun w26 g26a A26a k26a c26a HR26 j26c => ?_
 go_wp2_with fail
 have jm13 := tt (tt (tt j23c j24c) j25c) j26c
 replace HB2 := kB HB2 jm13
 replace HB4 := kB HB4 jm13
 replace HX0 := kV jm13 HX0
 replace HX1 := kV jm13 HX1
 refine mZ (prod_03 n0 m3 _ HB2.out HB4.out HX0.out.z0 HX1.out.z3 (by have := HSn.out.1; omega) (by have := HSm.out.2.2.2; omega)) fun w27 g27a A27a k27a c27a HR27 j27c => ?_
 go_wp2_with fail
 replace HB2 := kB HB2 j27c
 replace HB4 := kB HB4 j27c
 replace HX0 := kV j27c HX0
 replace HX1 := kV j27c HX1
 refine mZ (prod_30 n3 m0 _ HB2.out HB4.out HX0.out.z3 HX1.out.z0 (by have := HSn.out.2.2.2; omega) (by have := HSm.out.1; omega)) fun w28 g28a A28a k28a c28a HR28 j28c => ?_
 go_wp2_with fail
 replace HR27 := kV j28c HR27
 refine mZ (iplus_any _ _ (n0 * m3) (n3 * m0) _ HR27.out HR28.out (by have := (dl_mul2 HSn.out.1 HSm.out.2.2.2); omega) (by have := (dl_mul2 HSn.out.2.2.2 HSm.out.1); omega)) fun w29 g29a A29a k29a c29a HR29 j29c => ?_
 go_wp2_with fail
 have jm14 := tt j28c j29c
 replace HB2 := kB HB2 jm14
 replace HB4 := kB HB4 jm14
 replace HX0 := kV jm14 HX0
 replace HX1 := kV jm14 HX1
 refine mZ (prod_12 n1 m2 _ HB2.out HB4.out HX0.out.z1 HX1.out.z2 (by have := HSn.out.2.1; omega) (by have := HSm.out.2.2.1; omega)) fun w30 g30a A30a k30a c30a HR30 j30c => ?_
 go_wp2_with fail
 replace HR29 := kV j30c HR29
 refine mZ (iplus_any _ _ (n0 * m3 + n3 * m0) (n1 * m2) _ HR29.out HR30.out (by have := (dl_add2 (K := Ks + Ls + 0) (Nat.le_trans (dl_mul2 HSn.out.1 HSm.out.2.2.2) (by omega)) (Nat.le_trans (dl_mul2 HSn.out.2.2.2 HSm.out.1) (by omega))); omega) (by have := (dl_mul2 HSn.out.2.1 HSm.out.2.2.1); omega)) fun w31 g31a A31a k31a c31a HR31 j31c => ?_
 go_wp2_with fail
 have jm15 := tt j30c j31c
 replace HB2 := kB HB2 jm15
 replace HB4 := kB HB4 jm15
 replace HX0 := kV jm15 HX0
 replace HX1 := kV jm15 HX1
 refine mZ (prod_21 n2 m1 _ HB2.out HB4.out HX0.out.z2 HX1.out.z1 (by have := HSn.out.2.2.1; omega) (by have := HSm.out.2.1; omega)) fun w32 g32a A32a k32a c32a HR32 j32c => ?_
 go_wp2_with fail
 replace HR31 := kV j32c HR31
 refine mZ (iplus_any _ _ (n0 * m3 + n3 * m0 + n1 * m2) (n2 * m1) _ HR31.out HR32.out (by have := (dl_add2 (K := Ks + Ls + 1) (Nat.le_trans (dl_add2 (K := Ks + Ls + 0) (Nat.le_trans (dl_mul2 HSn.out.1 HSm.out.2.2.2) (by omega)) (Nat.le_trans (dl_mul2 HSn.out.2.2.2 HSm.out.1) (by omega))) (by omega)) (Nat.le_trans (dl_mul2 HSn.out.2.1 HSm.out.2.2.1) (by omega))); omega) (by have := (dl_mul2 HSn.out.2.2.1 HSm.out.2.1); omega)) fun w33 g33a A33a k33a c33a HR33 j33c => ?_
 have jm16 := tt (tt (tt (tt (tt (tt (tt (tt (tt (tt (tt (tt (tt (tt (tt (tt (tt (tt (tt (tt (tt (tt (tt (tt (tt (tt (tt (tt (tt (tt (tt (tt j1c j2c) j3c) j4c) j5c) j6c) j7c) j8c) j9c) j10c) j11c) j12c) j13c) j14c) j15c) j16c) j17c) j18c) j19c) j20c) j21c) j22c) j23c) j24c) j25c) j26c) j27c) j28c) j29c) j30c) j31c) j32c) j33c
 replace HB6 := kB HB6 jm16
 have c7 := kC HB6 0 rfl
 have c8 := kF HB6 0
 have c9 := kC HB6 1 rfl
 have c10 := kF HB6 1
 have c11 := kC HB6 2 rfl
 have c12 := kF HB6 2
 have c13 := kC HB6 3 rfl
 have c14 := kF HB6 3
 have c15 := kC HB6 4 rfl
 have c16 := kF HB6 4
 have c17 := kC HB6 5 rfl
 have c18 := kF HB6 5
 have c19 := kC HB6 6 rfl
 have c20 := kF HB6 6
 have c21 := kC HB6 7 rfl
 have c22 := kF HB6 7
 obtain ⟨W23, HW23⟩ : ∃ W, Hid (W = ((((((((w33.setCell ⟨w.heap.size + 2, 0, none⟩ (.bool g10a)).setCell ⟨w.heap.size + 2, 1, none⟩ (.slice A10a k10a c10a)).setCell ⟨w.heap.size + 2, 2, none⟩ (.bool g18a)).setCell ⟨w.heap.size + 2, 3, none⟩ (.slice A18a k18a c18a)).setCell ⟨w.heap.size + 2, 4, none⟩ (.bool g26a)).setCell ⟨w.heap.size + 2, 5, none⟩ (.slice A26a k26a c26a)).setCell ⟨w.heap.size + 2, 6, none⟩ (.bool g33a)).setCell ⟨w.heap.size + 2, 7, none⟩ (.slice A33a k33a c33a))) := ⟨_, rfl⟩
 have SW23 : Hid (W23 = setsW w33 (w.heap.size + 2) 0 [.bool g10a, .slice A10a k10a c10a, .bool g18a, .slice A18a k18a c18a, .bool g26a, .slice A26a k26a c26a, .bool g33a, .slice A33a k33a c33a]) := HW23.out
 have TW23 := kN (SW23.out) HB6 rfl rfl
 replace HB6 := kP (ds := [.bool g10a, .slice A10a k10a c10a, .bool g18a, .slice A18a k18a c18a, .bool g26a, .slice A26a k26a c26a, .bool g33a, .slice A33a k33a c33a]) (SW23.out) HB6 rfl rfl
 go_wp2_with fail
 rw [← HW23.out]
 clear c7 c8 c9 c10 c11 c12 c13 c14 c15 c16 c17 c18 c19 c20 c21 c22
 have c24 := kC HB6 0 rfl
 have c25 := kC HB6 1 rfl
 have c26 := kC HB6 2 rfl
 have c27 := kC HB6 3 rfl
 have c28 := kC HB6 4 rfl
 have c29 := kC HB6 5 rfl
 have c30 := kC HB6 6 rfl
 have c31 := kC HB6 7 rfl
 have jm17 := tt (tt (tt (tt (tt (tt (tt (tt (tt (tt (tt (tt (tt (tt (tt (tt (tt (tt (tt (tt (tt (tt j11c j12c) j13c) j14c) j15c) j16c) j17c) j18c) j19c) j20c) j21c) j22c) j23c) j24c) j25c) j26c) j27c) j28c) j29c) j30c) j31c) j32c) j33c
 replace HR10 := kW TW23 (kV jm17 HR10)
 have jm18 := tt (tt (tt (tt (tt (tt (tt (tt (tt (tt (tt (tt (tt (tt j19c j20c) j21c) j22c) j23c) j24c) j25c) j26c) j27c) j28c) j29c) j30c) j31c) j32c) j33c
 replace HR18 := kW TW23 (kV jm18 HR18)
 have jm19 := tt (tt (tt (tt (tt (tt j27c j28c) j29c) j30c) j31c) j32c) j33c
 replace HR26 := kW TW23 (kV jm19 HR26)
 replace HR33 := kW TW23 HR33
 replace HBw := kS (SW23.out) l6b (kU HBw jm16)
 exact bodyPost_ret (v := .agg #[.bool g10a, .slice A10a k10a c10a, .bool g18a, .slice A18a k18a c18a, .bool g26a, .slice A26a k26a c26a, .bool g33a, .slice A33a k33a c33a]) (by simp [results, Tryz.results206, go_sem, c24, c25, c26, c27, c28, c29, c30, c31]) rfl ⟨⟨_, rfl, (RdA.mk HR10.out HR18.out HR26.out HR33.out)⟩, HBw.out⟩
theorem prod_sizes (n0 n1 n2 n3 m0 m1 m2 m3 : Int) (Ks Ls : Nat) (hn : (dl n0.natAbs ≤ Ks ∧ dl n1.natAbs ≤ Ks ∧ dl n2.natAbs ≤ Ks ∧ dl n3.natAbs ≤ Ks)) (hm : (dl m0.natAbs ≤ Ls ∧ dl m1.natAbs ≤ Ls ∧ dl m2.natAbs ≤ Ls ∧ dl m3.natAbs ≤ Ls)) : dl (n0 * m0 + n1 * m1 * 2 + n2 * m2 * 3 + n3 * m3 * 6).natAbs ≤ Ks + Ls + 4 ∧ dl (n0 * m1 + n1 * m0 + (n2 * m3 + n3 * m2) * 3).natAbs ≤ Ks + Ls + 4 ∧ dl (n0 * m2 + n2 * m0 + (n1 * m3 + n3 * m1) * 2).natAbs ≤ Ks + Ls + 4 ∧ dl (n0 * m3 + n3 * m0 + n1 * m2 + n2 * m1).natAbs ≤ Ks + Ls + 4 :=
 ⟨by have := (dl_add2 (K := Ks + Ls + 3) (Nat.le_trans (dl_add2 (K := Ks + Ls + 2) (Nat.le_trans (dl_add2 (K := Ks + Ls + 1) (Nat.le_trans (dl_mul2 hn.1 hm.1) (by omega)) (Nat.le_trans (dl_f2 (dl_mul2 hn.2.1 hm.2.1)) (by omega))) (by omega)) (Nat.le_trans (dl_f3 (dl_mul2 hn.2.2.1 hm.2.2.1)) (by omega))) (by omega)) (Nat.le_trans (dl_f6 (dl_mul2 hn.2.2.2 hm.2.2.2)) (by omega))); omega, by have := (dl_add2 (K := Ks + Ls + 2) (Nat.le_trans (dl_add2 (K := Ks + Ls + 0) (Nat.le_trans (dl_mul2 hn.1 hm.2.1) (by omega)) (Nat.le_trans (dl_mul2 hn.2.1 hm.1) (by omega))) (by omega)) (Nat.le_trans (dl_f3 (dl_add2 (K := Ks + Ls + 0) (Nat.le_trans (dl_mul2 hn.2.2.1 hm.2.2.2) (by omega)) (Nat.le_trans (dl_mul2 hn.2.2.2 hm.2.2.1) (by omega)))) (by omega))); omega, by have := (dl_add2 (K := Ks + Ls + 2) (Nat.le_trans (dl_add2 (K := Ks + Ls + 0) (Nat.le_trans (dl_mul2 hn.1 hm.2.2.1) (by omega)) (Nat.le_trans (dl_mul2 hn.2.2.1 hm.1) (by omega))) (by omega)) (Nat.le_trans (dl_f2 (dl_add2 (K := Ks + Ls + 0) (Nat.le_trans (dl_mul2 hn.2.1 hm.2.2.2) (by omega)) (Nat.le_trans (dl_mul2 hn.2.2.2 hm.2.1) (by omega)))) (by omega))); omega, by have := (dl_add2 (K := Ks + Ls + 2) (Nat.le_trans (dl_add2 (K := Ks + Ls + 1) (Nat.le_trans (dl_add2 (K := Ks + Ls + 0) (Nat.le_trans (dl_mul2 hn.1 hm.2.2.2) (by omega)) (Nat.le_trans (dl_mul2 hn.2.2.2 hm.1) (by omega))) (by omega)) (Nat.le_trans (dl_mul2 hn.2.1 hm.2.2.1) (by omega))) (by omega)) (Nat.le_trans (dl_mul2 hn.2.2.1 hm.2.1) (by omega))); omega⟩
theorem smulS_any (v u : Value) (x y : S4) (Ks Ls : Nat) (w : World) (hv : RdS w v x Ks) (hu : RdS w u y Ls) (hK : Ks ≤ 100000) (hL : Ls ≤ 100000) :
  Calls Tryz.prog 131 #[v, u] w fun e w' => (∃ v', e = .returned v' ∧ RdS w' v' (x.mul y) (Ks + Ls + 4)) ∧ Below w.heap.size w w' := by
 obtain ⟨n0, n1, n2, n3, d, hv, hxx⟩ := hv
 have HSx := h0d hxx
 clear hxx
 obtain ⟨m0, m1, m2, m3, e, hu, hxy⟩ := hu
 have HSy := h0d hxy
 clear hxy
 have HMU := h0d (let hs := prod_sizes n0 n1 n2 n3 m0 m1 m2 m3 Ks Ls HSx.out.2.2.1 HSy.out.2.2.1; HSx.out.mul HSy.out hs.1 hs.2.1 hs.2.2.1 hs.2.2.2)
 obtain ⟨gp0a, Ap0a, kp0a, cp0a, gp0b, Ap0b, kp0b, cp0b, gp0c, Ap0c, kp0c, cp0c, gp0d, Ap0d, kp0d, cp0d, Ap0e, kp0e, cp0e, rfl, hv⟩ := hv.open
 have HX0 := h0d hv
 clear hv
 obtain ⟨gp1a, Ap1a, kp1a, cp1a, gp1b, Ap1b, kp1b, cp1b, gp1c, Ap1c, kp1c, cp1c, gp1d, Ap1d, kp1d, cp1d, Ap1e, kp1e, cp1e, rfl, hu⟩ := hu.open
 have HX1 := h0d hu
 clear hu
 go_enter Tryz.func131, Tryz.ntmps131
 obtain ⟨W1, HW1, HB2, s1w, j1⟩ := st_al0 w #[.bool gp0a, .slice Ap0a kp0a cp0a, .bool gp0b, .slice Ap0b kp0b cp0b, .bool gp0c, .slice Ap0c kp0c cp0c, .bool gp0d, .slice Ap0d kp0d cp0d, .slice Ap0e kp0e cp0e] 30
 have HBw := h0d j1
 obtain ⟨W3, HW3, HB4, s3w, j2⟩ := st_alk 1 2 #[.bool gp1a, .slice Ap1a kp1a cp1a, .bool gp1b, .slice Ap1b kp1b cp1b, .bool gp1c, .slice Ap1c kp1c cp1c, .bool gp1d, .slice Ap1d kp1d cp1d, .slice Ap1e kp1e cp1e] 30 s1w rfl
 obtain ⟨W5, HW5, HB6, s5w, j3⟩ := st_alk 2 3 #[.bool false, .slice none 0 0, .bool false, .slice none 0 0, .bool false, .slice none 0 0, .bool false, .slice none 0 0, .slice none 0 0] 30 s3w rfl
 have n2b6 : Hid (w.heap.size ≠ w.heap.size + 2) := by show _ ≠ _; omega
 have n4b6 : Hid (w.heap.size + 1 ≠ w.heap.size + 2) := by show _ ≠ _; omega
 have l6b : Hid (w.heap.size ≤ w.heap.size + 2) := by show _ ≤ _; omega
 go_wp2_with fail
 rw [← HW1.out, ← HW3.out, ← HW5.out]
 obtain ⟨W7, hW7⟩ : ∃ W, W = W5.drew := ⟨_, rfl⟩
 have j4 : Below W5.heap.size W5 W7 := by rw [hW7]; exact (Below.refl _ _).drew
 have jm1 := tt (tt j2 j3) j4
 replace HB2 := kB HB2 jm1
 have jm2 := tt j3 j4
 replace HB4 := kB HB4 jm2
 refine seq_start (S := fun w' => w'.cell? ⟨w.heap.size, 0, none⟩ = some (.bool gp0a) ∧ w'.cell? ⟨w.heap.size, 1, none⟩ = some (.slice Ap0a kp0a cp0a) ∧ w'.cell? ⟨w.heap.size, 2, none⟩ = some (.bool gp0b) ∧ w'.cell? ⟨w.heap.size, 3, none⟩ = some (.slice Ap0b kp0b cp0b) ∧ w'.cell? ⟨w.heap.size, 4, none⟩ = some (.bool gp0c) ∧ w'.cell? ⟨w.heap.size, 5, none⟩ = some (.slice Ap0c kp0c cp0c) ∧ w'.cell? ⟨w.heap.size, 6, none⟩ = some (.bool gp0d) ∧ w'.cell? ⟨w.heap.size, 7, none⟩ = some (.slice Ap0d kp0d cp0d) ∧ w'.cell? ⟨w.heap.size + 1, 0, none⟩ = some (.bool gp1a) ∧ w'.cell? ⟨w.heap.size + 1, 1, none⟩ = some (.slice Ap1a kp1a cp1a) ∧ w'.cell? ⟨w.heap.size + 1, 2, none⟩ = some (.bool gp1b) ∧ w'.cell? ⟨w.heap.size + 1, 3, none⟩ = some (.slice Ap1b kp1b cp1b) ∧ w'.cell? ⟨w.heap.size + 1, 4, none⟩ = some (.bool gp1c) ∧ w'.cell? ⟨w.heap.size + 1, 5, none⟩ = some (.slice Ap1c kp1c cp1c) ∧ w'.cell? ⟨w.heap.size + 1, 6, none⟩ = some (.bool gp1d) ∧ w'.cell? ⟨w.heap.size + 1, 7, none⟩ = some (.slice Ap1d kp1d cp1d) ∧ w'.cell? ⟨w.heap.size, 8, none⟩ = some (.slice Ap0e kp0e cp0e) ∧ w'.cell? ⟨w.heap.size + 1, 8, none⟩ = some (.slice Ap1e kp1e cp1e)) (by kernel_rfl) (by kernel_rfl) (by rw [← hW7]; exact ⟨kD HB2 0, kD HB2 1, kD HB2 2, kD HB2 3, kD HB2 4, kD HB2 5, kD HB2 6, kD HB2 7, kD HB4 0, kD HB4 1, kD HB4 2, kD HB4 3, kD HB4 4, kD HB4 5, kD HB4 6, kD HB4 7, kD HB2 8, kD HB4 8⟩) ?_
 rw [← hW7]
 clear hW7
 iterate 4 refine tk0 (h := ?_)
 iterate 2 (refine plq 1 (h := ?_); refine tk0 (h := ?_))
 iterate 2 (refine plq 2 (h := ?_); refine tk0 (h := ?_))
 refine sop (h := fun K9 hK9 => ?_)
 go_simp
 replace HBw := kU HBw jm1
 replace HX0 := kV HBw.out HX0
 replace HX1 := kV HBw.out HX1
 refine (product_any _ _ n0 n1 n2 n3 m0 m1 m2 m3 Ks Ls _ HX0.out.arr HX1.out.arr HSx.out.2.2.1 HSy.out.2.2.1 hK hL).mono ?_
 rintro e w1 ⟨⟨vx, rfl, hr⟩, j1c⟩
 obtain ⟨g1a, A1a, k1a, c1a, g1b, A1b, k1b, c1b, g1c, A1c, k1c, c1c, g1d, A1d, k1d, c1d, rfl, hr⟩ := hr.open
 have HR1 := h0d hr
 clear hr
 replace HB2 := kB HB2 j1c
 replace HB4 := kB HB4 j1c
 refine ckk hK9 (by exact ⟨kD HB2 0, kD HB2 1, kD HB2 2, kD HB2 3, kD HB2 4, kD HB2 5, kD HB2 6, kD HB2 7, kD HB4 0, kD HB4 1, kD HB4 2, kD HB4 3, kD HB4 4, kD HB4 5, kD HB4 6, kD HB4 7, kD HB2 8, kD HB4 8⟩) (h := ?_)
 clear hK9 K9
 refine sop (h := fun K9 hK9 => ?_)
 go_simp
 replace HX0 := kV j1c HX0
 refine mN (under_any _ d _ HSx.out.1 HX0.out.den) fun w2 A2 k2 c2 HR2 j2c => ?_
 replace HB2 := kB HB2 j2c
 replace HB4 := kB HB4 j2c
 refine ckk hK9 (by exact ⟨kD HB2 0, kD HB2 1, kD HB2 2, kD HB2 3, kD HB2 4, kD HB2 5, kD HB2 6, kD HB2 7, kD HB4 0, kD HB4 1, kD HB4 2, kD HB4 3, kD HB4 4, kD HB4 5, kD HB4 6, kD HB4 7, kD HB2 8, kD HB4 8⟩) (h := ?_)
 clear hK9 K9
 refine sop (h := fun K9 hK9 => ?_)
 go_simp
 have jm3 := tt j1c j2c
 replace HX1 := kV jm3 HX1
 refine mN (under_any _ e _ HSy.out.1 HX1.out.den) fun w3 A3 k3 c3 HR3 j3c => ?_
 replace HB2 := kB HB2 j3c
 replace HB4 := kB HB4 j3c
 refine ckk hK9 (by exact ⟨kD HB2 0, kD HB2 1, kD HB2 2, kD HB2 3, kD HB2 4, kD HB2 5, kD HB2 6, kD HB2 7, kD HB4 0, kD HB4 1, kD HB4 2, kD HB4 3, kD HB4 4, kD HB4 5, kD HB4 6, kD HB4 7, kD HB2 8, kD HB4 8⟩) (h := ?_)
 clear hK9 K9
 refine sop (h := fun K9 hK9 => ?_)
 go_simp
 replace HR2 := kV j3c HR2
 refine mN (times_any _ _ d e _ HR2.out HR3.out (by have := HSx.out.2.2.2; omega) (by have := HSy.out.2.2.2; omega)) fun w4 A4 k4 c4 HR4 j4c => ?_
 replace HB2 := kB HB2 j4c
 replace HB4 := kB HB4 j4c
 refine ckk hK9 (by exact ⟨kD HB2 0, kD HB2 1, kD HB2 2, kD HB2 3, kD HB2 4, kD HB2 5, kD HB2 6, kD HB2 7, kD HB4 0, kD HB4 1, kD HB4 2, kD HB4 3, kD HB4 4, kD HB4 5, kD HB4 6, kD HB4 7, kD HB2 8, kD HB4 8⟩) (h := ?_)
 clear hK9 K9
 refine sop (h := fun K9 hK9 => ?_)
 go_simp
 have jm4 := tt (tt j2c j3c) j4c
 replace HR1 := kV jm4 HR1
 refine mS (surd_any _ _ (x.mul y) _ _ _ _ _ (Ks + Ls + 4) _ HR1.out HR4.out HMU.out (by omega)) fun w5 g5a A5a k5a c5a g5b A5b k5b c5b g5c A5c k5c c5c g5d A5d k5d c5d A5e k5e c5e HR5 j5c => ?_
 replace HB2 := kB HB2 j5c
 replace HB4 := kB HB4 j5c
 refine ckk hK9 (by exact ⟨kD HB2 0, kD HB2 1, kD HB2 2, kD HB2 3, kD HB2 4, kD HB2 5, kD HB2 6, kD HB2 7, kD HB4 0, kD HB4 1, kD HB4 2, kD HB4 3, kD HB4 4, kD HB4 5, kD HB4 6, kD HB4 7, kD HB2 8, kD HB4 8⟩) (h := ?_)
 clear hK9 K9
 refine sop (h := fun K9 hK9 => ?_)
 have jm5 := tt (tt (tt (tt (tt j4 j1c) j2c) j3c) j4c) j5c
 replace HB6 := kB HB6 jm5
 have c8 := kC HB6 0 rfl
 have c9 := kF HB6 0
 have c10 := kC HB6 1 rfl
 have c11 := kF HB6 1
 have c12 := kC HB6 2 rfl
 have c13 := kF HB6 2
 have c14 := kC HB6 3 rfl
 have c15 := kF HB6 3
 have c16 := kC HB6 4 rfl
 have c17 := kF HB6 4
 have c18 := kC HB6 5 rfl
 have c19 := kF HB6 5
 have c20 := kC HB6 6 rfl
 have c21 := kF HB6 6
 have c22 := kC HB6 7 rfl
 have c23 := kF HB6 7
 have c24 := kC HB6 8 rfl
 have c25 := kF HB6 8
 go_simp
 obtain ⟨W26, HW26⟩ : ∃ W, Hid (W = (((((((((w5.setCell ⟨w.heap.size + 2, 0, none⟩ (.bool g5a)).setCell ⟨w.heap.size + 2, 1, none⟩ (.slice A5a k5a c5a)).setCell ⟨w.heap.size + 2, 2, none⟩ (.bool g5b)).setCell ⟨w.heap.size + 2, 3, none⟩ (.slice A5b k5b c5b)).setCell ⟨w.heap.size + 2, 4, none⟩ (.bool g5c)).setCell ⟨w.heap.size + 2, 5, none⟩ (.slice A5c k5c c5c)).setCell ⟨w.heap.size + 2, 6, none⟩ (.bool g5d)).setCell ⟨w.heap.size + 2, 7, none⟩ (.slice A5d k5d c5d)).setCell ⟨w.heap.size + 2, 8, none⟩ (.slice A5e k5e c5e))) := ⟨_, rfl⟩
 have SW26 : Hid (W26 = setsW w5 (w.heap.size + 2) 0 [.bool g5a, .slice A5a k5a c5a, .bool g5b, .slice A5b k5b c5b, .bool g5c, .slice A5c k5c c5c, .bool g5d, .slice A5d k5d c5d, .slice A5e k5e c5e]) := HW26.out
 have TW26 := kN (SW26.out) HB6 rfl rfl
 replace HB6 := kP (ds := [.bool g5a, .slice A5a k5a c5a, .bool g5b, .slice A5b k5b c5b, .bool g5c, .slice A5c k5c c5c, .bool g5d, .slice A5d k5d c5d, .slice A5e k5e c5e]) (SW26.out) HB6 rfl rfl
 rw [← HW26.out]
 replace HB2 := kO (SW26.out) HB2 n2b6.out
 replace HB4 := kO (SW26.out) HB4 n4b6.out
 refine ckk hK9 (by exact ⟨kD HB2 0, kD HB2 1, kD HB2 2, kD HB2 3, kD HB2 4, kD HB2 5, kD HB2 6, kD HB2 7, kD HB4 0, kD HB4 1, kD HB4 2, kD HB4 3, kD HB4 4, kD HB4 5, kD HB4 6, kD HB4 7, kD HB2 8, kD HB4 8⟩) (h := ?_)
 clear hK9 K9 c8 c9 c10 c11 c12 c13 c14 c15 c16 c17 c18 c19 c20 c21 c22 c23 c24 c25
 refine seq_done (by kernel_rfl) ?_
 go_wp2_with fail
 have c27 := kC HB6 0 rfl
 have c28 := kC HB6 1 rfl
 have c29 := kC HB6 2 rfl
 have c30 := kC HB6 3 rfl
 have c31 := kC HB6 4 rfl
 have c32 := kC HB6 5 rfl
 have c33 := kC HB6 6 rfl
 have c34 := kC HB6 7 rfl
 have c35 := kC HB6 8 rfl
 replace HR5 := kW TW26 HR5
 have jm6 := tt (tt (tt jm3 j3c) j4c) j5c
 replace HBw := kS (SW26.out) l6b (kU HBw jm6)
 exact bodyPost_ret (v := .agg #[.bool g5a, .slice A5a k5a c5a, .bool g5b, .slice A5b k5b c5b, .bool g5c, .slice A5c k5c c5c, .bool g5d, .slice A5d k5d c5d, .slice A5e k5e c5e]) (by simp [results, Tryz.results131, go_sem, c27, c28, c29, c30, c31, c32, c33, c34, c35]) rfl ⟨⟨_, rfl, HR5.out⟩, HBw.out⟩
end Go.Proofs.YtodckaioeomccaaGreat
