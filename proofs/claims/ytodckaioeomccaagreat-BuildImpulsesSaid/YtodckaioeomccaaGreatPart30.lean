/- Walks of numbers with roots: product, Mul. -/
import Derived.Test.YtodckaioeomccaaGreatPart28
namespace Go.Proofs.YtodckaioeomccaaGreat
open Go.RowKit Go.Proofs.S4P
set_option linter.unusedVariables false
set_option linter.unusedSimpArgs false
set_option maxRecDepth 100000
set_option maxHeartbeats 4000000
theorem ifold2 (v : Value) (z : Int) (w : World) (hv : RdZ w v z) (hz6 : dl z.natAbs ≤ 450000) :
    Calls Tryz.prog 219 #[v, .int .u64 2] w fun e w' => (∃ v', e = .returned v' ∧ RdZ w' v' (z * 2)) ∧ Below w.heap.size w w' := ifold_any v z 2 w hv hz6 (by unfold B64; omega)
theorem dl_f2 {z : Int} {K : Nat} (h : dl z.natAbs ≤ K) : dl (z * 2).natAbs ≤ K + 1 := by have := dl_muln (b := 2) h (dl_small (by unfold B64; omega)); exact this
theorem ifold3 (v : Value) (z : Int) (w : World) (hv : RdZ w v z) (hz6 : dl z.natAbs ≤ 450000) :
    Calls Tryz.prog 219 #[v, .int .u64 3] w fun e w' => (∃ v', e = .returned v' ∧ RdZ w' v' (z * 3)) ∧ Below w.heap.size w w' := ifold_any v z 3 w hv hz6 (by unfold B64; omega)
theorem dl_f3 {z : Int} {K : Nat} (h : dl z.natAbs ≤ K) : dl (z * 3).natAbs ≤ K + 1 := by have := dl_muln (b := 3) h (dl_small (by unfold B64; omega)); exact this
theorem ifold6 (v : Value) (z : Int) (w : World) (hv : RdZ w v z) (hz6 : dl z.natAbs ≤ 450000) :
    Calls Tryz.prog 219 #[v, .int .u64 6] w fun e w' => (∃ v', e = .returned v' ∧ RdZ w' v' (z * 6)) ∧ Below w.heap.size w w' := ifold_any v z 6 w hv hz6 (by unfold B64; omega)
theorem dl_f6 {z : Int} {K : Nat} (h : dl z.natAbs ≤ K) : dl (z * 6).natAbs ≤ K + 1 := by have := dl_muln (b := 6) h (dl_small (by unfold B64; omega)); exact this
theorem prod_00 {b1 b2 : Nat} {g0 g1 g2 g3 p0 p1 p2 p3 : Bool} {s0 s1 s2 s3 t0 t1 t2 t3 : Value} (zi yk : Int) (w : World) (h1 : w.heap[b1]? = some (.cells #[.bool g0, s0, .bool g1, s1, .bool g2, s2, .bool g3, s3] 28 (0, 0))) (h2 : w.heap[b2]? = some (.cells #[.bool p0, t0, .bool p1, t1, .bool p2, t2, .bool p3, t3] 28 (0, 0))) (hz : RdZ w (.agg #[.bool g0, s0]) zi) (hy : RdZ w (.agg #[.bool p0, t0]) yk) (hz6 : dl zi.natAbs ≤ 450000) (hy6 : dl yk.natAbs ≤ 450000) :
    Calls Tryz.prog 249 #[.int .i64 0, .int .i64 0, .pointer (some ⟨b1, 0, none⟩), .pointer (some ⟨b2, 0, none⟩)] w fun e w' => (∃ v', e = .returned v' ∧ RdZ w' v' (zi * yk)) ∧ Below w.heap.size w w' := by
  have HX0 := Lib.hid hz
  have HX1 := Lib.hid hy
  have HP2 := Lib.hid h1
  have HP3 := Lib.hid h2
  clear hz hy h1 h2
  go_enter Tryz.func249, Tryz.ntmps249
  obtain ⟨W1, HW1, HB2, HSZ_W1, j1⟩ := st_al0 w #[.bool false, .slice none 0 0] 27
  have HNE_P2_B2 : Hid (b1 ≠ w.heap.size) := by show _ ≠ _; have hlt := blk_lt HP2.out; omega
  have HNE_P3_B2 : Hid (b2 ≠ w.heap.size) := by show _ ≠ _; have hlt := blk_lt HP3.out; omega
  have HLE_B2 : Hid (w.heap.size ≤ w.heap.size) := by show _ ≤ _; omega
  have HBw := Lib.hid j1
  go_wp2_with fail
  rw [← HW1.out]
  obtain ⟨W3, hW3⟩ : ∃ W, W = W1.drew := ⟨_, rfl⟩
  have j2 : Below W1.heap.size W1 W3 := by rw [hW3]; exact (Below.refl _ _).drew
  replace HP2 := kB (kB HP2 j1) j2
  replace HP3 := kB (kB HP3 j1) j2
  refine seq_start (S := fun w' => w'.cell? ⟨b1, 0, none⟩ = some (.bool g0) ∧ w'.cell? ⟨b1, 1, none⟩ = some (s0) ∧ w'.cell? ⟨b2, 0, none⟩ = some (.bool p0) ∧ w'.cell? ⟨b2, 1, none⟩ = some (t0)) (by kernel_rfl) (by kernel_rfl) (by rw [← hW3]; exact ⟨kD HP2 0, kD HP2 1, kD HP3 0, kD HP3 1⟩) ?_
  rw [← hW3]
  clear hW3
  iterate 6 refine tk0 (h := ?_)
  refine sop (h := fun K9 hK9 => ?_)
  go_simp
  replace HX0 := kV j2 (kV j1 HX0)
  replace HX1 := kV j2 (kV j1 HX1)
  refine (itimes_any _ _ zi yk _ HX0.out HX1.out (by omega) (by omega)).mono ?_
  rintro e w1 ⟨⟨vx, rfl, hr⟩, j1c⟩
  obtain ⟨g1a, A1a, k1a, c1a, rfl, hr⟩ := hr.open
  have HR1 := Lib.hid hr
  clear hr
  replace HP2 := kB HP2 j1c
  replace HP3 := kB HP3 j1c
  refine ckk hK9 (by exact ⟨kD HP2 0, kD HP2 1, kD HP3 0, kD HP3 1⟩) (h := ?_)
  clear hK9 K9
  refine sop (h := fun K9 hK9 => ?_)
  replace HB2 := kB (kB HB2 j2) j1c
  have c4 := kC HB2 0 rfl
  have c5 := kF HB2 0
  have c6 := kC HB2 1 rfl
  have c7 := kF HB2 1
  go_simp
  obtain ⟨W8, HW8⟩ : ∃ W, Hid (W = ((w1.setCell ⟨w.heap.size, 0, none⟩ (.bool g1a)).setCell ⟨w.heap.size, 1, none⟩ (.slice A1a k1a c1a))) := ⟨_, rfl⟩
  have SW8 : Hid (W8 = setsW w1 (w.heap.size) 0 [.bool g1a, .slice A1a k1a c1a]) := HW8.out
  have TW8 := kN (SW8.out) HB2 rfl rfl
  replace HB2 := kP (ds := [.bool g1a, .slice A1a k1a c1a]) (SW8.out) HB2 rfl rfl
  rw [← HW8.out]
  replace HP2 := kO (SW8.out) HP2 HNE_P2_B2.out
  replace HP3 := kO (SW8.out) HP3 HNE_P3_B2.out
  refine ckk hK9 (by exact ⟨kD HP2 0, kD HP2 1, kD HP3 0, kD HP3 1⟩) (h := ?_)
  clear hK9 K9 c4 c5 c6 c7
  refine seq_done (by kernel_rfl) ?_
  go_wp2_with fail
  have c9 := kC HB2 0 rfl
  have c10 := kC HB2 1 rfl
  replace HR1 := kW TW8 HR1
  replace HBw := kS (SW8.out) HLE_B2 (kU (kU HBw j2) j1c)
  exact bodyPost_ret (v := .agg #[.bool g1a, .slice A1a k1a c1a]) (by simp [results, Tryz.results249, go_sem, c9, c10]) rfl ⟨⟨_, rfl, HR1.out⟩, HBw.out⟩
theorem prod_01 {b1 b2 : Nat} {g0 g1 g2 g3 p0 p1 p2 p3 : Bool} {s0 s1 s2 s3 t0 t1 t2 t3 : Value} (zi yk : Int) (w : World) (h1 : w.heap[b1]? = some (.cells #[.bool g0, s0, .bool g1, s1, .bool g2, s2, .bool g3, s3] 28 (0, 0))) (h2 : w.heap[b2]? = some (.cells #[.bool p0, t0, .bool p1, t1, .bool p2, t2, .bool p3, t3] 28 (0, 0))) (hz : RdZ w (.agg #[.bool g0, s0]) zi) (hy : RdZ w (.agg #[.bool p1, t1]) yk) (hz6 : dl zi.natAbs ≤ 450000) (hy6 : dl yk.natAbs ≤ 450000) :
    Calls Tryz.prog 249 #[.int .i64 0, .int .i64 1, .pointer (some ⟨b1, 0, none⟩), .pointer (some ⟨b2, 0, none⟩)] w fun e w' => (∃ v', e = .returned v' ∧ RdZ w' v' (zi * yk)) ∧ Below w.heap.size w w' := by
  have HX0 := Lib.hid hz
  have HX1 := Lib.hid hy
  have HP2 := Lib.hid h1
  have HP3 := Lib.hid h2
  clear hz hy h1 h2
  go_enter Tryz.func249, Tryz.ntmps249
  obtain ⟨W1, HW1, HB2, HSZ_W1, j1⟩ := st_al0 w #[.bool false, .slice none 0 0] 27
  have HNE_P2_B2 : Hid (b1 ≠ w.heap.size) := by show _ ≠ _; have hlt := blk_lt HP2.out; omega
  have HNE_P3_B2 : Hid (b2 ≠ w.heap.size) := by show _ ≠ _; have hlt := blk_lt HP3.out; omega
  have HLE_B2 : Hid (w.heap.size ≤ w.heap.size) := by show _ ≤ _; omega
  have HBw := Lib.hid j1
  go_wp2_with fail
  rw [← HW1.out]
  obtain ⟨W3, hW3⟩ : ∃ W, W = W1.drew := ⟨_, rfl⟩
  have j2 : Below W1.heap.size W1 W3 := by rw [hW3]; exact (Below.refl _ _).drew
  replace HP2 := kB (kB HP2 j1) j2
  replace HP3 := kB (kB HP3 j1) j2
  refine seq_start (S := fun w' => w'.cell? ⟨b1, 0, none⟩ = some (.bool g0) ∧ w'.cell? ⟨b1, 1, none⟩ = some (s0) ∧ w'.cell? ⟨b2, 2, none⟩ = some (.bool p1) ∧ w'.cell? ⟨b2, 3, none⟩ = some (t1)) (by kernel_rfl) (by kernel_rfl) (by rw [← hW3]; exact ⟨kD HP2 0, kD HP2 1, kD HP3 2, kD HP3 3⟩) ?_
  rw [← hW3]
  clear hW3
  iterate 6 refine tk0 (h := ?_)
  refine sop (h := fun K9 hK9 => ?_)
  go_simp
  replace HX0 := kV j2 (kV j1 HX0)
  replace HX1 := kV j2 (kV j1 HX1)
  refine (itimes_any _ _ zi yk _ HX0.out HX1.out (by omega) (by omega)).mono ?_
  rintro e w1 ⟨⟨vx, rfl, hr⟩, j1c⟩
  obtain ⟨g1a, A1a, k1a, c1a, rfl, hr⟩ := hr.open
  have HR1 := Lib.hid hr
  clear hr
  replace HP2 := kB HP2 j1c
  replace HP3 := kB HP3 j1c
  refine ckk hK9 (by exact ⟨kD HP2 0, kD HP2 1, kD HP3 2, kD HP3 3⟩) (h := ?_)
  clear hK9 K9
  refine sop (h := fun K9 hK9 => ?_)
  replace HB2 := kB (kB HB2 j2) j1c
  have c4 := kC HB2 0 rfl
  have c5 := kF HB2 0
  have c6 := kC HB2 1 rfl
  have c7 := kF HB2 1
  go_simp
  obtain ⟨W8, HW8⟩ : ∃ W, Hid (W = ((w1.setCell ⟨w.heap.size, 0, none⟩ (.bool g1a)).setCell ⟨w.heap.size, 1, none⟩ (.slice A1a k1a c1a))) := ⟨_, rfl⟩
  have SW8 : Hid (W8 = setsW w1 (w.heap.size) 0 [.bool g1a, .slice A1a k1a c1a]) := HW8.out
  have TW8 := kN (SW8.out) HB2 rfl rfl
  replace HB2 := kP (ds := [.bool g1a, .slice A1a k1a c1a]) (SW8.out) HB2 rfl rfl
  rw [← HW8.out]
  replace HP2 := kO (SW8.out) HP2 HNE_P2_B2.out
  replace HP3 := kO (SW8.out) HP3 HNE_P3_B2.out
  refine ckk hK9 (by exact ⟨kD HP2 0, kD HP2 1, kD HP3 2, kD HP3 3⟩) (h := ?_)
  clear hK9 K9 c4 c5 c6 c7
  refine seq_done (by kernel_rfl) ?_
  go_wp2_with fail
  have c9 := kC HB2 0 rfl
  have c10 := kC HB2 1 rfl
  replace HR1 := kW TW8 HR1
  replace HBw := kS (SW8.out) HLE_B2 (kU (kU HBw j2) j1c)
  exact bodyPost_ret (v := .agg #[.bool g1a, .slice A1a k1a c1a]) (by simp [results, Tryz.results249, go_sem, c9, c10]) rfl ⟨⟨_, rfl, HR1.out⟩, HBw.out⟩
theorem prod_02 {b1 b2 : Nat} {g0 g1 g2 g3 p0 p1 p2 p3 : Bool} {s0 s1 s2 s3 t0 t1 t2 t3 : Value} (zi yk : Int) (w : World) (h1 : w.heap[b1]? = some (.cells #[.bool g0, s0, .bool g1, s1, .bool g2, s2, .bool g3, s3] 28 (0, 0))) (h2 : w.heap[b2]? = some (.cells #[.bool p0, t0, .bool p1, t1, .bool p2, t2, .bool p3, t3] 28 (0, 0))) (hz : RdZ w (.agg #[.bool g0, s0]) zi) (hy : RdZ w (.agg #[.bool p2, t2]) yk) (hz6 : dl zi.natAbs ≤ 450000) (hy6 : dl yk.natAbs ≤ 450000) :
    Calls Tryz.prog 249 #[.int .i64 0, .int .i64 2, .pointer (some ⟨b1, 0, none⟩), .pointer (some ⟨b2, 0, none⟩)] w fun e w' => (∃ v', e = .returned v' ∧ RdZ w' v' (zi * yk)) ∧ Below w.heap.size w w' := by
  have HX0 := Lib.hid hz
  have HX1 := Lib.hid hy
  have HP2 := Lib.hid h1
  have HP3 := Lib.hid h2
  clear hz hy h1 h2
  go_enter Tryz.func249, Tryz.ntmps249
  obtain ⟨W1, HW1, HB2, HSZ_W1, j1⟩ := st_al0 w #[.bool false, .slice none 0 0] 27
  have HNE_P2_B2 : Hid (b1 ≠ w.heap.size) := by show _ ≠ _; have hlt := blk_lt HP2.out; omega
  have HNE_P3_B2 : Hid (b2 ≠ w.heap.size) := by show _ ≠ _; have hlt := blk_lt HP3.out; omega
  have HLE_B2 : Hid (w.heap.size ≤ w.heap.size) := by show _ ≤ _; omega
  have HBw := Lib.hid j1
  go_wp2_with fail
  rw [← HW1.out]
  obtain ⟨W3, hW3⟩ : ∃ W, W = W1.drew := ⟨_, rfl⟩
  have j2 : Below W1.heap.size W1 W3 := by rw [hW3]; exact (Below.refl _ _).drew
  replace HP2 := kB (kB HP2 j1) j2
  replace HP3 := kB (kB HP3 j1) j2
  refine seq_start (S := fun w' => w'.cell? ⟨b1, 0, none⟩ = some (.bool g0) ∧ w'.cell? ⟨b1, 1, none⟩ = some (s0) ∧ w'.cell? ⟨b2, 4, none⟩ = some (.bool p2) ∧ w'.cell? ⟨b2, 5, none⟩ = some (t2)) (by kernel_rfl) (by kernel_rfl) (by rw [← hW3]; exact ⟨kD HP2 0, kD HP2 1, kD HP3 4, kD HP3 5⟩) ?_
  rw [← hW3]
  clear hW3
  iterate 6 refine tk0 (h := ?_)
  refine sop (h := fun K9 hK9 => ?_)
  go_simp
  replace HX0 := kV j2 (kV j1 HX0)
  replace HX1 := kV j2 (kV j1 HX1)
  refine (itimes_any _ _ zi yk _ HX0.out HX1.out (by omega) (by omega)).mono ?_
  rintro e w1 ⟨⟨vx, rfl, hr⟩, j1c⟩
  obtain ⟨g1a, A1a, k1a, c1a, rfl, hr⟩ := hr.open
  have HR1 := Lib.hid hr
  clear hr
  replace HP2 := kB HP2 j1c
  replace HP3 := kB HP3 j1c
  refine ckk hK9 (by exact ⟨kD HP2 0, kD HP2 1, kD HP3 4, kD HP3 5⟩) (h := ?_)
  clear hK9 K9
  refine sop (h := fun K9 hK9 => ?_)
  replace HB2 := kB (kB HB2 j2) j1c
  have c4 := kC HB2 0 rfl
  have c5 := kF HB2 0
  have c6 := kC HB2 1 rfl
  have c7 := kF HB2 1
  go_simp
  obtain ⟨W8, HW8⟩ : ∃ W, Hid (W = ((w1.setCell ⟨w.heap.size, 0, none⟩ (.bool g1a)).setCell ⟨w.heap.size, 1, none⟩ (.slice A1a k1a c1a))) := ⟨_, rfl⟩
  have SW8 : Hid (W8 = setsW w1 (w.heap.size) 0 [.bool g1a, .slice A1a k1a c1a]) := HW8.out
  have TW8 := kN (SW8.out) HB2 rfl rfl
  replace HB2 := kP (ds := [.bool g1a, .slice A1a k1a c1a]) (SW8.out) HB2 rfl rfl
  rw [← HW8.out]
  replace HP2 := kO (SW8.out) HP2 HNE_P2_B2.out
  replace HP3 := kO (SW8.out) HP3 HNE_P3_B2.out
  refine ckk hK9 (by exact ⟨kD HP2 0, kD HP2 1, kD HP3 4, kD HP3 5⟩) (h := ?_)
  clear hK9 K9 c4 c5 c6 c7
  refine seq_done (by kernel_rfl) ?_
  go_wp2_with fail
  have c9 := kC HB2 0 rfl
  have c10 := kC HB2 1 rfl
  replace HR1 := kW TW8 HR1
  replace HBw := kS (SW8.out) HLE_B2 (kU (kU HBw j2) j1c)
  exact bodyPost_ret (v := .agg #[.bool g1a, .slice A1a k1a c1a]) (by simp [results, Tryz.results249, go_sem, c9, c10]) rfl ⟨⟨_, rfl, HR1.out⟩, HBw.out⟩
theorem prod_03 {b1 b2 : Nat} {g0 g1 g2 g3 p0 p1 p2 p3 : Bool} {s0 s1 s2 s3 t0 t1 t2 t3 : Value} (zi yk : Int) (w : World) (h1 : w.heap[b1]? = some (.cells #[.bool g0, s0, .bool g1, s1, .bool g2, s2, .bool g3, s3] 28 (0, 0))) (h2 : w.heap[b2]? = some (.cells #[.bool p0, t0, .bool p1, t1, .bool p2, t2, .bool p3, t3] 28 (0, 0))) (hz : RdZ w (.agg #[.bool g0, s0]) zi) (hy : RdZ w (.agg #[.bool p3, t3]) yk) (hz6 : dl zi.natAbs ≤ 450000) (hy6 : dl yk.natAbs ≤ 450000) :
    Calls Tryz.prog 249 #[.int .i64 0, .int .i64 3, .pointer (some ⟨b1, 0, none⟩), .pointer (some ⟨b2, 0, none⟩)] w fun e w' => (∃ v', e = .returned v' ∧ RdZ w' v' (zi * yk)) ∧ Below w.heap.size w w' := by
  have HX0 := Lib.hid hz
  have HX1 := Lib.hid hy
  have HP2 := Lib.hid h1
  have HP3 := Lib.hid h2
  clear hz hy h1 h2
  go_enter Tryz.func249, Tryz.ntmps249
  obtain ⟨W1, HW1, HB2, HSZ_W1, j1⟩ := st_al0 w #[.bool false, .slice none 0 0] 27
  have HNE_P2_B2 : Hid (b1 ≠ w.heap.size) := by show _ ≠ _; have hlt := blk_lt HP2.out; omega
  have HNE_P3_B2 : Hid (b2 ≠ w.heap.size) := by show _ ≠ _; have hlt := blk_lt HP3.out; omega
  have HLE_B2 : Hid (w.heap.size ≤ w.heap.size) := by show _ ≤ _; omega
  have HBw := Lib.hid j1
  go_wp2_with fail
  rw [← HW1.out]
  obtain ⟨W3, hW3⟩ : ∃ W, W = W1.drew := ⟨_, rfl⟩
  have j2 : Below W1.heap.size W1 W3 := by rw [hW3]; exact (Below.refl _ _).drew
  replace HP2 := kB (kB HP2 j1) j2
  replace HP3 := kB (kB HP3 j1) j2
  refine seq_start (S := fun w' => w'.cell? ⟨b1, 0, none⟩ = some (.bool g0) ∧ w'.cell? ⟨b1, 1, none⟩ = some (s0) ∧ w'.cell? ⟨b2, 6, none⟩ = some (.bool p3) ∧ w'.cell? ⟨b2, 7, none⟩ = some (t3)) (by kernel_rfl) (by kernel_rfl) (by rw [← hW3]; exact ⟨kD HP2 0, kD HP2 1, kD HP3 6, kD HP3 7⟩) ?_
  rw [← hW3]
  clear hW3
  iterate 6 refine tk0 (h := ?_)
  refine sop (h := fun K9 hK9 => ?_)
  go_simp
  replace HX0 := kV j2 (kV j1 HX0)
  replace HX1 := kV j2 (kV j1 HX1)
  refine (itimes_any _ _ zi yk _ HX0.out HX1.out (by omega) (by omega)).mono ?_
  rintro e w1 ⟨⟨vx, rfl, hr⟩, j1c⟩
  obtain ⟨g1a, A1a, k1a, c1a, rfl, hr⟩ := hr.open
  have HR1 := Lib.hid hr
  clear hr
  replace HP2 := kB HP2 j1c
  replace HP3 := kB HP3 j1c
  refine ckk hK9 (by exact ⟨kD HP2 0, kD HP2 1, kD HP3 6, kD HP3 7⟩) (h := ?_)
  clear hK9 K9
  refine sop (h := fun K9 hK9 => ?_)
  replace HB2 := kB (kB HB2 j2) j1c
  have c4 := kC HB2 0 rfl
  have c5 := kF HB2 0
  have c6 := kC HB2 1 rfl
  have c7 := kF HB2 1
  go_simp
  obtain ⟨W8, HW8⟩ : ∃ W, Hid (W = ((w1.setCell ⟨w.heap.size, 0, none⟩ (.bool g1a)).setCell ⟨w.heap.size, 1, none⟩ (.slice A1a k1a c1a))) := ⟨_, rfl⟩
  have SW8 : Hid (W8 = setsW w1 (w.heap.size) 0 [.bool g1a, .slice A1a k1a c1a]) := HW8.out
  have TW8 := kN (SW8.out) HB2 rfl rfl
  replace HB2 := kP (ds := [.bool g1a, .slice A1a k1a c1a]) (SW8.out) HB2 rfl rfl
  rw [← HW8.out]
  replace HP2 := kO (SW8.out) HP2 HNE_P2_B2.out
  replace HP3 := kO (SW8.out) HP3 HNE_P3_B2.out
  refine ckk hK9 (by exact ⟨kD HP2 0, kD HP2 1, kD HP3 6, kD HP3 7⟩) (h := ?_)
  clear hK9 K9 c4 c5 c6 c7
  refine seq_done (by kernel_rfl) ?_
  go_wp2_with fail
  have c9 := kC HB2 0 rfl
  have c10 := kC HB2 1 rfl
  replace HR1 := kW TW8 HR1
  replace HBw := kS (SW8.out) HLE_B2 (kU (kU HBw j2) j1c)
  exact bodyPost_ret (v := .agg #[.bool g1a, .slice A1a k1a c1a]) (by simp [results, Tryz.results249, go_sem, c9, c10]) rfl ⟨⟨_, rfl, HR1.out⟩, HBw.out⟩
theorem prod_10 {b1 b2 : Nat} {g0 g1 g2 g3 p0 p1 p2 p3 : Bool} {s0 s1 s2 s3 t0 t1 t2 t3 : Value} (zi yk : Int) (w : World) (h1 : w.heap[b1]? = some (.cells #[.bool g0, s0, .bool g1, s1, .bool g2, s2, .bool g3, s3] 28 (0, 0))) (h2 : w.heap[b2]? = some (.cells #[.bool p0, t0, .bool p1, t1, .bool p2, t2, .bool p3, t3] 28 (0, 0))) (hz : RdZ w (.agg #[.bool g1, s1]) zi) (hy : RdZ w (.agg #[.bool p0, t0]) yk) (hz6 : dl zi.natAbs ≤ 450000) (hy6 : dl yk.natAbs ≤ 450000) :
    Calls Tryz.prog 249 #[.int .i64 1, .int .i64 0, .pointer (some ⟨b1, 0, none⟩), .pointer (some ⟨b2, 0, none⟩)] w fun e w' => (∃ v', e = .returned v' ∧ RdZ w' v' (zi * yk)) ∧ Below w.heap.size w w' := by
  have HX0 := Lib.hid hz
  have HX1 := Lib.hid hy
  have HP2 := Lib.hid h1
  have HP3 := Lib.hid h2
  clear hz hy h1 h2
  go_enter Tryz.func249, Tryz.ntmps249
  obtain ⟨W1, HW1, HB2, HSZ_W1, j1⟩ := st_al0 w #[.bool false, .slice none 0 0] 27
  have HNE_P2_B2 : Hid (b1 ≠ w.heap.size) := by show _ ≠ _; have hlt := blk_lt HP2.out; omega
  have HNE_P3_B2 : Hid (b2 ≠ w.heap.size) := by show _ ≠ _; have hlt := blk_lt HP3.out; omega
  have HLE_B2 : Hid (w.heap.size ≤ w.heap.size) := by show _ ≤ _; omega
  have HBw := Lib.hid j1
  go_wp2_with fail
  rw [← HW1.out]
  obtain ⟨W3, hW3⟩ : ∃ W, W = W1.drew := ⟨_, rfl⟩
  have j2 : Below W1.heap.size W1 W3 := by rw [hW3]; exact (Below.refl _ _).drew
  replace HP2 := kB (kB HP2 j1) j2
  replace HP3 := kB (kB HP3 j1) j2
  refine seq_start (S := fun w' => w'.cell? ⟨b1, 2, none⟩ = some (.bool g1) ∧ w'.cell? ⟨b1, 3, none⟩ = some (s1) ∧ w'.cell? ⟨b2, 0, none⟩ = some (.bool p0) ∧ w'.cell? ⟨b2, 1, none⟩ = some (t0)) (by kernel_rfl) (by kernel_rfl) (by rw [← hW3]; exact ⟨kD HP2 2, kD HP2 3, kD HP3 0, kD HP3 1⟩) ?_
  rw [← hW3]
  clear hW3
  iterate 6 refine tk0 (h := ?_)
  refine sop (h := fun K9 hK9 => ?_)
  go_simp
  replace HX0 := kV j2 (kV j1 HX0)
  replace HX1 := kV j2 (kV j1 HX1)
  refine (itimes_any _ _ zi yk _ HX0.out HX1.out (by omega) (by omega)).mono ?_
  rintro e w1 ⟨⟨vx, rfl, hr⟩, j1c⟩
  obtain ⟨g1a, A1a, k1a, c1a, rfl, hr⟩ := hr.open
  have HR1 := Lib.hid hr
  clear hr
  replace HP2 := kB HP2 j1c
  replace HP3 := kB HP3 j1c
  refine ckk hK9 (by exact ⟨kD HP2 2, kD HP2 3, kD HP3 0, kD HP3 1⟩) (h := ?_)
  clear hK9 K9
  refine sop (h := fun K9 hK9 => ?_)
  replace HB2 := kB (kB HB2 j2) j1c
  have c4 := kC HB2 0 rfl
  have c5 := kF HB2 0
  have c6 := kC HB2 1 rfl
  have c7 := kF HB2 1
  go_simp
  obtain ⟨W8, HW8⟩ : ∃ W, Hid (W = ((w1.setCell ⟨w.heap.size, 0, none⟩ (.bool g1a)).setCell ⟨w.heap.size, 1, none⟩ (.slice A1a k1a c1a))) := ⟨_, rfl⟩
  have SW8 : Hid (W8 = setsW w1 (w.heap.size) 0 [.bool g1a, .slice A1a k1a c1a]) := HW8.out
  have TW8 := kN (SW8.out) HB2 rfl rfl
  replace HB2 := kP (ds := [.bool g1a, .slice A1a k1a c1a]) (SW8.out) HB2 rfl rfl
  rw [← HW8.out]
  replace HP2 := kO (SW8.out) HP2 HNE_P2_B2.out
  replace HP3 := kO (SW8.out) HP3 HNE_P3_B2.out
  refine ckk hK9 (by exact ⟨kD HP2 2, kD HP2 3, kD HP3 0, kD HP3 1⟩) (h := ?_)
  clear hK9 K9 c4 c5 c6 c7
  refine seq_done (by kernel_rfl) ?_
  go_wp2_with fail
  have c9 := kC HB2 0 rfl
  have c10 := kC HB2 1 rfl
  replace HR1 := kW TW8 HR1
  replace HBw := kS (SW8.out) HLE_B2 (kU (kU HBw j2) j1c)
  exact bodyPost_ret (v := .agg #[.bool g1a, .slice A1a k1a c1a]) (by simp [results, Tryz.results249, go_sem, c9, c10]) rfl ⟨⟨_, rfl, HR1.out⟩, HBw.out⟩
theorem prod_11 {b1 b2 : Nat} {g0 g1 g2 g3 p0 p1 p2 p3 : Bool} {s0 s1 s2 s3 t0 t1 t2 t3 : Value} (zi yk : Int) (w : World) (h1 : w.heap[b1]? = some (.cells #[.bool g0, s0, .bool g1, s1, .bool g2, s2, .bool g3, s3] 28 (0, 0))) (h2 : w.heap[b2]? = some (.cells #[.bool p0, t0, .bool p1, t1, .bool p2, t2, .bool p3, t3] 28 (0, 0))) (hz : RdZ w (.agg #[.bool g1, s1]) zi) (hy : RdZ w (.agg #[.bool p1, t1]) yk) (hz6 : dl zi.natAbs ≤ 450000) (hy6 : dl yk.natAbs ≤ 450000) :
    Calls Tryz.prog 249 #[.int .i64 1, .int .i64 1, .pointer (some ⟨b1, 0, none⟩), .pointer (some ⟨b2, 0, none⟩)] w fun e w' => (∃ v', e = .returned v' ∧ RdZ w' v' (zi * yk)) ∧ Below w.heap.size w w' := by
  have HX0 := Lib.hid hz
  have HX1 := Lib.hid hy
  have HP2 := Lib.hid h1
  have HP3 := Lib.hid h2
  clear hz hy h1 h2
  go_enter Tryz.func249, Tryz.ntmps249
  obtain ⟨W1, HW1, HB2, HSZ_W1, j1⟩ := st_al0 w #[.bool false, .slice none 0 0] 27
  have HNE_P2_B2 : Hid (b1 ≠ w.heap.size) := by show _ ≠ _; have hlt := blk_lt HP2.out; omega
  have HNE_P3_B2 : Hid (b2 ≠ w.heap.size) := by show _ ≠ _; have hlt := blk_lt HP3.out; omega
  have HLE_B2 : Hid (w.heap.size ≤ w.heap.size) := by show _ ≤ _; omega
  have HBw := Lib.hid j1
  go_wp2_with fail
  rw [← HW1.out]
  obtain ⟨W3, hW3⟩ : ∃ W, W = W1.drew := ⟨_, rfl⟩
  have j2 : Below W1.heap.size W1 W3 := by rw [hW3]; exact (Below.refl _ _).drew
  replace HP2 := kB (kB HP2 j1) j2
  replace HP3 := kB (kB HP3 j1) j2
  refine seq_start (S := fun w' => w'.cell? ⟨b1, 2, none⟩ = some (.bool g1) ∧ w'.cell? ⟨b1, 3, none⟩ = some (s1) ∧ w'.cell? ⟨b2, 2, none⟩ = some (.bool p1) ∧ w'.cell? ⟨b2, 3, none⟩ = some (t1)) (by kernel_rfl) (by kernel_rfl) (by rw [← hW3]; exact ⟨kD HP2 2, kD HP2 3, kD HP3 2, kD HP3 3⟩) ?_
  rw [← hW3]
  clear hW3
  iterate 6 refine tk0 (h := ?_)
  refine sop (h := fun K9 hK9 => ?_)
  go_simp
  replace HX0 := kV j2 (kV j1 HX0)
  replace HX1 := kV j2 (kV j1 HX1)
  refine (itimes_any _ _ zi yk _ HX0.out HX1.out (by omega) (by omega)).mono ?_
  rintro e w1 ⟨⟨vx, rfl, hr⟩, j1c⟩
  obtain ⟨g1a, A1a, k1a, c1a, rfl, hr⟩ := hr.open
  have HR1 := Lib.hid hr
  clear hr
  replace HP2 := kB HP2 j1c
  replace HP3 := kB HP3 j1c
  refine ckk hK9 (by exact ⟨kD HP2 2, kD HP2 3, kD HP3 2, kD HP3 3⟩) (h := ?_)
  clear hK9 K9
  refine sop (h := fun K9 hK9 => ?_)
  replace HB2 := kB (kB HB2 j2) j1c
  have c4 := kC HB2 0 rfl
  have c5 := kF HB2 0
  have c6 := kC HB2 1 rfl
  have c7 := kF HB2 1
  go_simp
  obtain ⟨W8, HW8⟩ : ∃ W, Hid (W = ((w1.setCell ⟨w.heap.size, 0, none⟩ (.bool g1a)).setCell ⟨w.heap.size, 1, none⟩ (.slice A1a k1a c1a))) := ⟨_, rfl⟩
  have SW8 : Hid (W8 = setsW w1 (w.heap.size) 0 [.bool g1a, .slice A1a k1a c1a]) := HW8.out
  have TW8 := kN (SW8.out) HB2 rfl rfl
  replace HB2 := kP (ds := [.bool g1a, .slice A1a k1a c1a]) (SW8.out) HB2 rfl rfl
  rw [← HW8.out]
  replace HP2 := kO (SW8.out) HP2 HNE_P2_B2.out
  replace HP3 := kO (SW8.out) HP3 HNE_P3_B2.out
  refine ckk hK9 (by exact ⟨kD HP2 2, kD HP2 3, kD HP3 2, kD HP3 3⟩) (h := ?_)
  clear hK9 K9 c4 c5 c6 c7
  refine seq_done (by kernel_rfl) ?_
  go_wp2_with fail
  have c9 := kC HB2 0 rfl
  have c10 := kC HB2 1 rfl
  replace HR1 := kW TW8 HR1
  replace HBw := kS (SW8.out) HLE_B2 (kU (kU HBw j2) j1c)
  exact bodyPost_ret (v := .agg #[.bool g1a, .slice A1a k1a c1a]) (by simp [results, Tryz.results249, go_sem, c9, c10]) rfl ⟨⟨_, rfl, HR1.out⟩, HBw.out⟩
theorem prod_12 {b1 b2 : Nat} {g0 g1 g2 g3 p0 p1 p2 p3 : Bool} {s0 s1 s2 s3 t0 t1 t2 t3 : Value} (zi yk : Int) (w : World) (h1 : w.heap[b1]? = some (.cells #[.bool g0, s0, .bool g1, s1, .bool g2, s2, .bool g3, s3] 28 (0, 0))) (h2 : w.heap[b2]? = some (.cells #[.bool p0, t0, .bool p1, t1, .bool p2, t2, .bool p3, t3] 28 (0, 0))) (hz : RdZ w (.agg #[.bool g1, s1]) zi) (hy : RdZ w (.agg #[.bool p2, t2]) yk) (hz6 : dl zi.natAbs ≤ 450000) (hy6 : dl yk.natAbs ≤ 450000) :
    Calls Tryz.prog 249 #[.int .i64 1, .int .i64 2, .pointer (some ⟨b1, 0, none⟩), .pointer (some ⟨b2, 0, none⟩)] w fun e w' => (∃ v', e = .returned v' ∧ RdZ w' v' (zi * yk)) ∧ Below w.heap.size w w' := by
  have HX0 := Lib.hid hz
  have HX1 := Lib.hid hy
  have HP2 := Lib.hid h1
  have HP3 := Lib.hid h2
  clear hz hy h1 h2
  go_enter Tryz.func249, Tryz.ntmps249
  obtain ⟨W1, HW1, HB2, HSZ_W1, j1⟩ := st_al0 w #[.bool false, .slice none 0 0] 27
  have HNE_P2_B2 : Hid (b1 ≠ w.heap.size) := by show _ ≠ _; have hlt := blk_lt HP2.out; omega
  have HNE_P3_B2 : Hid (b2 ≠ w.heap.size) := by show _ ≠ _; have hlt := blk_lt HP3.out; omega
  have HLE_B2 : Hid (w.heap.size ≤ w.heap.size) := by show _ ≤ _; omega
  have HBw := Lib.hid j1
  go_wp2_with fail
  rw [← HW1.out]
  obtain ⟨W3, hW3⟩ : ∃ W, W = W1.drew := ⟨_, rfl⟩
  have j2 : Below W1.heap.size W1 W3 := by rw [hW3]; exact (Below.refl _ _).drew
  replace HP2 := kB (kB HP2 j1) j2
  replace HP3 := kB (kB HP3 j1) j2
  refine seq_start (S := fun w' => w'.cell? ⟨b1, 2, none⟩ = some (.bool g1) ∧ w'.cell? ⟨b1, 3, none⟩ = some (s1) ∧ w'.cell? ⟨b2, 4, none⟩ = some (.bool p2) ∧ w'.cell? ⟨b2, 5, none⟩ = some (t2)) (by kernel_rfl) (by kernel_rfl) (by rw [← hW3]; exact ⟨kD HP2 2, kD HP2 3, kD HP3 4, kD HP3 5⟩) ?_
  rw [← hW3]
  clear hW3
  iterate 6 refine tk0 (h := ?_)
  refine sop (h := fun K9 hK9 => ?_)
  go_simp
  replace HX0 := kV j2 (kV j1 HX0)
  replace HX1 := kV j2 (kV j1 HX1)
  refine (itimes_any _ _ zi yk _ HX0.out HX1.out (by omega) (by omega)).mono ?_
  rintro e w1 ⟨⟨vx, rfl, hr⟩, j1c⟩
  obtain ⟨g1a, A1a, k1a, c1a, rfl, hr⟩ := hr.open
  have HR1 := Lib.hid hr
  clear hr
  replace HP2 := kB HP2 j1c
  replace HP3 := kB HP3 j1c
  refine ckk hK9 (by exact ⟨kD HP2 2, kD HP2 3, kD HP3 4, kD HP3 5⟩) (h := ?_)
  clear hK9 K9
  refine sop (h := fun K9 hK9 => ?_)
  replace HB2 := kB (kB HB2 j2) j1c
  have c4 := kC HB2 0 rfl
  have c5 := kF HB2 0
  have c6 := kC HB2 1 rfl
  have c7 := kF HB2 1
  go_simp
  obtain ⟨W8, HW8⟩ : ∃ W, Hid (W = ((w1.setCell ⟨w.heap.size, 0, none⟩ (.bool g1a)).setCell ⟨w.heap.size, 1, none⟩ (.slice A1a k1a c1a))) := ⟨_, rfl⟩
  have SW8 : Hid (W8 = setsW w1 (w.heap.size) 0 [.bool g1a, .slice A1a k1a c1a]) := HW8.out
  have TW8 := kN (SW8.out) HB2 rfl rfl
  replace HB2 := kP (ds := [.bool g1a, .slice A1a k1a c1a]) (SW8.out) HB2 rfl rfl
  rw [← HW8.out]
  replace HP2 := kO (SW8.out) HP2 HNE_P2_B2.out
  replace HP3 := kO (SW8.out) HP3 HNE_P3_B2.out
  refine ckk hK9 (by exact ⟨kD HP2 2, kD HP2 3, kD HP3 4, kD HP3 5⟩) (h := ?_)
  clear hK9 K9 c4 c5 c6 c7
  refine seq_done (by kernel_rfl) ?_
  go_wp2_with fail
  have c9 := kC HB2 0 rfl
  have c10 := kC HB2 1 rfl
  replace HR1 := kW TW8 HR1
  replace HBw := kS (SW8.out) HLE_B2 (kU (kU HBw j2) j1c)
  exact bodyPost_ret (v := .agg #[.bool g1a, .slice A1a k1a c1a]) (by simp [results, Tryz.results249, go_sem, c9, c10]) rfl ⟨⟨_, rfl, HR1.out⟩, HBw.out⟩
theorem prod_13 {b1 b2 : Nat} {g0 g1 g2 g3 p0 p1 p2 p3 : Bool} {s0 s1 s2 s3 t0 t1 t2 t3 : Value} (zi yk : Int) (w : World) (h1 : w.heap[b1]? = some (.cells #[.bool g0, s0, .bool g1, s1, .bool g2, s2, .bool g3, s3] 28 (0, 0))) (h2 : w.heap[b2]? = some (.cells #[.bool p0, t0, .bool p1, t1, .bool p2, t2, .bool p3, t3] 28 (0, 0))) (hz : RdZ w (.agg #[.bool g1, s1]) zi) (hy : RdZ w (.agg #[.bool p3, t3]) yk) (hz6 : dl zi.natAbs ≤ 450000) (hy6 : dl yk.natAbs ≤ 450000) :
    Calls Tryz.prog 249 #[.int .i64 1, .int .i64 3, .pointer (some ⟨b1, 0, none⟩), .pointer (some ⟨b2, 0, none⟩)] w fun e w' => (∃ v', e = .returned v' ∧ RdZ w' v' (zi * yk)) ∧ Below w.heap.size w w' := by
  have HX0 := Lib.hid hz
  have HX1 := Lib.hid hy
  have HP2 := Lib.hid h1
  have HP3 := Lib.hid h2
  clear hz hy h1 h2
  go_enter Tryz.func249, Tryz.ntmps249
  obtain ⟨W1, HW1, HB2, HSZ_W1, j1⟩ := st_al0 w #[.bool false, .slice none 0 0] 27
  have HNE_P2_B2 : Hid (b1 ≠ w.heap.size) := by show _ ≠ _; have hlt := blk_lt HP2.out; omega
  have HNE_P3_B2 : Hid (b2 ≠ w.heap.size) := by show _ ≠ _; have hlt := blk_lt HP3.out; omega
  have HLE_B2 : Hid (w.heap.size ≤ w.heap.size) := by show _ ≤ _; omega
  have HBw := Lib.hid j1
  go_wp2_with fail
  rw [← HW1.out]
  obtain ⟨W3, hW3⟩ : ∃ W, W = W1.drew := ⟨_, rfl⟩
  have j2 : Below W1.heap.size W1 W3 := by rw [hW3]; exact (Below.refl _ _).drew
  replace HP2 := kB (kB HP2 j1) j2
  replace HP3 := kB (kB HP3 j1) j2
  refine seq_start (S := fun w' => w'.cell? ⟨b1, 2, none⟩ = some (.bool g1) ∧ w'.cell? ⟨b1, 3, none⟩ = some (s1) ∧ w'.cell? ⟨b2, 6, none⟩ = some (.bool p3) ∧ w'.cell? ⟨b2, 7, none⟩ = some (t3)) (by kernel_rfl) (by kernel_rfl) (by rw [← hW3]; exact ⟨kD HP2 2, kD HP2 3, kD HP3 6, kD HP3 7⟩) ?_
  rw [← hW3]
  clear hW3
  iterate 6 refine tk0 (h := ?_)
  refine sop (h := fun K9 hK9 => ?_)
  go_simp
  replace HX0 := kV j2 (kV j1 HX0)
  replace HX1 := kV j2 (kV j1 HX1)
  refine (itimes_any _ _ zi yk _ HX0.out HX1.out (by omega) (by omega)).mono ?_
  rintro e w1 ⟨⟨vx, rfl, hr⟩, j1c⟩
  obtain ⟨g1a, A1a, k1a, c1a, rfl, hr⟩ := hr.open
  have HR1 := Lib.hid hr
  clear hr
  replace HP2 := kB HP2 j1c
  replace HP3 := kB HP3 j1c
  refine ckk hK9 (by exact ⟨kD HP2 2, kD HP2 3, kD HP3 6, kD HP3 7⟩) (h := ?_)
  clear hK9 K9
  refine sop (h := fun K9 hK9 => ?_)
  replace HB2 := kB (kB HB2 j2) j1c
  have c4 := kC HB2 0 rfl
  have c5 := kF HB2 0
  have c6 := kC HB2 1 rfl
  have c7 := kF HB2 1
  go_simp
  obtain ⟨W8, HW8⟩ : ∃ W, Hid (W = ((w1.setCell ⟨w.heap.size, 0, none⟩ (.bool g1a)).setCell ⟨w.heap.size, 1, none⟩ (.slice A1a k1a c1a))) := ⟨_, rfl⟩
  have SW8 : Hid (W8 = setsW w1 (w.heap.size) 0 [.bool g1a, .slice A1a k1a c1a]) := HW8.out
  have TW8 := kN (SW8.out) HB2 rfl rfl
  replace HB2 := kP (ds := [.bool g1a, .slice A1a k1a c1a]) (SW8.out) HB2 rfl rfl
  rw [← HW8.out]
  replace HP2 := kO (SW8.out) HP2 HNE_P2_B2.out
  replace HP3 := kO (SW8.out) HP3 HNE_P3_B2.out
  refine ckk hK9 (by exact ⟨kD HP2 2, kD HP2 3, kD HP3 6, kD HP3 7⟩) (h := ?_)
  clear hK9 K9 c4 c5 c6 c7
  refine seq_done (by kernel_rfl) ?_
  go_wp2_with fail
  have c9 := kC HB2 0 rfl
  have c10 := kC HB2 1 rfl
  replace HR1 := kW TW8 HR1
  replace HBw := kS (SW8.out) HLE_B2 (kU (kU HBw j2) j1c)
  exact bodyPost_ret (v := .agg #[.bool g1a, .slice A1a k1a c1a]) (by simp [results, Tryz.results249, go_sem, c9, c10]) rfl ⟨⟨_, rfl, HR1.out⟩, HBw.out⟩
theorem prod_20 {b1 b2 : Nat} {g0 g1 g2 g3 p0 p1 p2 p3 : Bool} {s0 s1 s2 s3 t0 t1 t2 t3 : Value} (zi yk : Int) (w : World) (h1 : w.heap[b1]? = some (.cells #[.bool g0, s0, .bool g1, s1, .bool g2, s2, .bool g3, s3] 28 (0, 0))) (h2 : w.heap[b2]? = some (.cells #[.bool p0, t0, .bool p1, t1, .bool p2, t2, .bool p3, t3] 28 (0, 0))) (hz : RdZ w (.agg #[.bool g2, s2]) zi) (hy : RdZ w (.agg #[.bool p0, t0]) yk) (hz6 : dl zi.natAbs ≤ 450000) (hy6 : dl yk.natAbs ≤ 450000) :
    Calls Tryz.prog 249 #[.int .i64 2, .int .i64 0, .pointer (some ⟨b1, 0, none⟩), .pointer (some ⟨b2, 0, none⟩)] w fun e w' => (∃ v', e = .returned v' ∧ RdZ w' v' (zi * yk)) ∧ Below w.heap.size w w' := by
  have HX0 := Lib.hid hz
  have HX1 := Lib.hid hy
  have HP2 := Lib.hid h1
  have HP3 := Lib.hid h2
  clear hz hy h1 h2
  go_enter Tryz.func249, Tryz.ntmps249
  obtain ⟨W1, HW1, HB2, HSZ_W1, j1⟩ := st_al0 w #[.bool false, .slice none 0 0] 27
  have HNE_P2_B2 : Hid (b1 ≠ w.heap.size) := by show _ ≠ _; have hlt := blk_lt HP2.out; omega
  have HNE_P3_B2 : Hid (b2 ≠ w.heap.size) := by show _ ≠ _; have hlt := blk_lt HP3.out; omega
  have HLE_B2 : Hid (w.heap.size ≤ w.heap.size) := by show _ ≤ _; omega
  have HBw := Lib.hid j1
  go_wp2_with fail
  rw [← HW1.out]
  obtain ⟨W3, hW3⟩ : ∃ W, W = W1.drew := ⟨_, rfl⟩
  have j2 : Below W1.heap.size W1 W3 := by rw [hW3]; exact (Below.refl _ _).drew
  replace HP2 := kB (kB HP2 j1) j2
  replace HP3 := kB (kB HP3 j1) j2
  refine seq_start (S := fun w' => w'.cell? ⟨b1, 4, none⟩ = some (.bool g2) ∧ w'.cell? ⟨b1, 5, none⟩ = some (s2) ∧ w'.cell? ⟨b2, 0, none⟩ = some (.bool p0) ∧ w'.cell? ⟨b2, 1, none⟩ = some (t0)) (by kernel_rfl) (by kernel_rfl) (by rw [← hW3]; exact ⟨kD HP2 4, kD HP2 5, kD HP3 0, kD HP3 1⟩) ?_
  rw [← hW3]
  clear hW3
  iterate 6 refine tk0 (h := ?_)
  refine sop (h := fun K9 hK9 => ?_)
  go_simp
  replace HX0 := kV j2 (kV j1 HX0)
  replace HX1 := kV j2 (kV j1 HX1)
  refine (itimes_any _ _ zi yk _ HX0.out HX1.out (by omega) (by omega)).mono ?_
  rintro e w1 ⟨⟨vx, rfl, hr⟩, j1c⟩
  obtain ⟨g1a, A1a, k1a, c1a, rfl, hr⟩ := hr.open
  have HR1 := Lib.hid hr
  clear hr
  replace HP2 := kB HP2 j1c
  replace HP3 := kB HP3 j1c
  refine ckk hK9 (by exact ⟨kD HP2 4, kD HP2 5, kD HP3 0, kD HP3 1⟩) (h := ?_)
  clear hK9 K9
  refine sop (h := fun K9 hK9 => ?_)
  replace HB2 := kB (kB HB2 j2) j1c
  have c4 := kC HB2 0 rfl
  have c5 := kF HB2 0
  have c6 := kC HB2 1 rfl
  have c7 := kF HB2 1
  go_simp
  obtain ⟨W8, HW8⟩ : ∃ W, Hid (W = ((w1.setCell ⟨w.heap.size, 0, none⟩ (.bool g1a)).setCell ⟨w.heap.size, 1, none⟩ (.slice A1a k1a c1a))) := ⟨_, rfl⟩
  have SW8 : Hid (W8 = setsW w1 (w.heap.size) 0 [.bool g1a, .slice A1a k1a c1a]) := HW8.out
  have TW8 := kN (SW8.out) HB2 rfl rfl
  replace HB2 := kP (ds := [.bool g1a, .slice A1a k1a c1a]) (SW8.out) HB2 rfl rfl
  rw [← HW8.out]
  replace HP2 := kO (SW8.out) HP2 HNE_P2_B2.out
  replace HP3 := kO (SW8.out) HP3 HNE_P3_B2.out
  refine ckk hK9 (by exact ⟨kD HP2 4, kD HP2 5, kD HP3 0, kD HP3 1⟩) (h := ?_)
  clear hK9 K9 c4 c5 c6 c7
  refine seq_done (by kernel_rfl) ?_
  go_wp2_with fail
  have c9 := kC HB2 0 rfl
  have c10 := kC HB2 1 rfl
  replace HR1 := kW TW8 HR1
  replace HBw := kS (SW8.out) HLE_B2 (kU (kU HBw j2) j1c)
  exact bodyPost_ret (v := .agg #[.bool g1a, .slice A1a k1a c1a]) (by simp [results, Tryz.results249, go_sem, c9, c10]) rfl ⟨⟨_, rfl, HR1.out⟩, HBw.out⟩
theorem prod_21 {b1 b2 : Nat} {g0 g1 g2 g3 p0 p1 p2 p3 : Bool} {s0 s1 s2 s3 t0 t1 t2 t3 : Value} (zi yk : Int) (w : World) (h1 : w.heap[b1]? = some (.cells #[.bool g0, s0, .bool g1, s1, .bool g2, s2, .bool g3, s3] 28 (0, 0))) (h2 : w.heap[b2]? = some (.cells #[.bool p0, t0, .bool p1, t1, .bool p2, t2, .bool p3, t3] 28 (0, 0))) (hz : RdZ w (.agg #[.bool g2, s2]) zi) (hy : RdZ w (.agg #[.bool p1, t1]) yk) (hz6 : dl zi.natAbs ≤ 450000) (hy6 : dl yk.natAbs ≤ 450000) :
    Calls Tryz.prog 249 #[.int .i64 2, .int .i64 1, .pointer (some ⟨b1, 0, none⟩), .pointer (some ⟨b2, 0, none⟩)] w fun e w' => (∃ v', e = .returned v' ∧ RdZ w' v' (zi * yk)) ∧ Below w.heap.size w w' := by
  have HX0 := Lib.hid hz
  have HX1 := Lib.hid hy
  have HP2 := Lib.hid h1
  have HP3 := Lib.hid h2
  clear hz hy h1 h2
  go_enter Tryz.func249, Tryz.ntmps249
  obtain ⟨W1, HW1, HB2, HSZ_W1, j1⟩ := st_al0 w #[.bool false, .slice none 0 0] 27
  have HNE_P2_B2 : Hid (b1 ≠ w.heap.size) := by show _ ≠ _; have hlt := blk_lt HP2.out; omega
  have HNE_P3_B2 : Hid (b2 ≠ w.heap.size) := by show _ ≠ _; have hlt := blk_lt HP3.out; omega
  have HLE_B2 : Hid (w.heap.size ≤ w.heap.size) := by show _ ≤ _; omega
  have HBw := Lib.hid j1
  go_wp2_with fail
  rw [← HW1.out]
  obtain ⟨W3, hW3⟩ : ∃ W, W = W1.drew := ⟨_, rfl⟩
  have j2 : Below W1.heap.size W1 W3 := by rw [hW3]; exact (Below.refl _ _).drew
  replace HP2 := kB (kB HP2 j1) j2
  replace HP3 := kB (kB HP3 j1) j2
  refine seq_start (S := fun w' => w'.cell? ⟨b1, 4, none⟩ = some (.bool g2) ∧ w'.cell? ⟨b1, 5, none⟩ = some (s2) ∧ w'.cell? ⟨b2, 2, none⟩ = some (.bool p1) ∧ w'.cell? ⟨b2, 3, none⟩ = some (t1)) (by kernel_rfl) (by kernel_rfl) (by rw [← hW3]; exact ⟨kD HP2 4, kD HP2 5, kD HP3 2, kD HP3 3⟩) ?_
  rw [← hW3]
  clear hW3
  iterate 6 refine tk0 (h := ?_)
  refine sop (h := fun K9 hK9 => ?_)
  go_simp
  replace HX0 := kV j2 (kV j1 HX0)
  replace HX1 := kV j2 (kV j1 HX1)
  refine (itimes_any _ _ zi yk _ HX0.out HX1.out (by omega) (by omega)).mono ?_
  rintro e w1 ⟨⟨vx, rfl, hr⟩, j1c⟩
  obtain ⟨g1a, A1a, k1a, c1a, rfl, hr⟩ := hr.open
  have HR1 := Lib.hid hr
  clear hr
  replace HP2 := kB HP2 j1c
  replace HP3 := kB HP3 j1c
  refine ckk hK9 (by exact ⟨kD HP2 4, kD HP2 5, kD HP3 2, kD HP3 3⟩) (h := ?_)
  clear hK9 K9
  refine sop (h := fun K9 hK9 => ?_)
  replace HB2 := kB (kB HB2 j2) j1c
  have c4 := kC HB2 0 rfl
  have c5 := kF HB2 0
  have c6 := kC HB2 1 rfl
  have c7 := kF HB2 1
  go_simp
  obtain ⟨W8, HW8⟩ : ∃ W, Hid (W = ((w1.setCell ⟨w.heap.size, 0, none⟩ (.bool g1a)).setCell ⟨w.heap.size, 1, none⟩ (.slice A1a k1a c1a))) := ⟨_, rfl⟩
  have SW8 : Hid (W8 = setsW w1 (w.heap.size) 0 [.bool g1a, .slice A1a k1a c1a]) := HW8.out
  have TW8 := kN (SW8.out) HB2 rfl rfl
  replace HB2 := kP (ds := [.bool g1a, .slice A1a k1a c1a]) (SW8.out) HB2 rfl rfl
  rw [← HW8.out]
  replace HP2 := kO (SW8.out) HP2 HNE_P2_B2.out
  replace HP3 := kO (SW8.out) HP3 HNE_P3_B2.out
  refine ckk hK9 (by exact ⟨kD HP2 4, kD HP2 5, kD HP3 2, kD HP3 3⟩) (h := ?_)
  clear hK9 K9 c4 c5 c6 c7
  refine seq_done (by kernel_rfl) ?_
  go_wp2_with fail
  have c9 := kC HB2 0 rfl
  have c10 := kC HB2 1 rfl
  replace HR1 := kW TW8 HR1
  replace HBw := kS (SW8.out) HLE_B2 (kU (kU HBw j2) j1c)
  exact bodyPost_ret (v := .agg #[.bool g1a, .slice A1a k1a c1a]) (by simp [results, Tryz.results249, go_sem, c9, c10]) rfl ⟨⟨_, rfl, HR1.out⟩, HBw.out⟩
theorem prod_22 {b1 b2 : Nat} {g0 g1 g2 g3 p0 p1 p2 p3 : Bool} {s0 s1 s2 s3 t0 t1 t2 t3 : Value} (zi yk : Int) (w : World) (h1 : w.heap[b1]? = some (.cells #[.bool g0, s0, .bool g1, s1, .bool g2, s2, .bool g3, s3] 28 (0, 0))) (h2 : w.heap[b2]? = some (.cells #[.bool p0, t0, .bool p1, t1, .bool p2, t2, .bool p3, t3] 28 (0, 0))) (hz : RdZ w (.agg #[.bool g2, s2]) zi) (hy : RdZ w (.agg #[.bool p2, t2]) yk) (hz6 : dl zi.natAbs ≤ 450000) (hy6 : dl yk.natAbs ≤ 450000) :
    Calls Tryz.prog 249 #[.int .i64 2, .int .i64 2, .pointer (some ⟨b1, 0, none⟩), .pointer (some ⟨b2, 0, none⟩)] w fun e w' => (∃ v', e = .returned v' ∧ RdZ w' v' (zi * yk)) ∧ Below w.heap.size w w' := by
  have HX0 := Lib.hid hz
  have HX1 := Lib.hid hy
  have HP2 := Lib.hid h1
  have HP3 := Lib.hid h2
  clear hz hy h1 h2
  go_enter Tryz.func249, Tryz.ntmps249
  obtain ⟨W1, HW1, HB2, HSZ_W1, j1⟩ := st_al0 w #[.bool false, .slice none 0 0] 27
  have HNE_P2_B2 : Hid (b1 ≠ w.heap.size) := by show _ ≠ _; have hlt := blk_lt HP2.out; omega
  have HNE_P3_B2 : Hid (b2 ≠ w.heap.size) := by show _ ≠ _; have hlt := blk_lt HP3.out; omega
  have HLE_B2 : Hid (w.heap.size ≤ w.heap.size) := by show _ ≤ _; omega
  have HBw := Lib.hid j1
  go_wp2_with fail
  rw [← HW1.out]
  obtain ⟨W3, hW3⟩ : ∃ W, W = W1.drew := ⟨_, rfl⟩
  have j2 : Below W1.heap.size W1 W3 := by rw [hW3]; exact (Below.refl _ _).drew
  replace HP2 := kB (kB HP2 j1) j2
  replace HP3 := kB (kB HP3 j1) j2
  refine seq_start (S := fun w' => w'.cell? ⟨b1, 4, none⟩ = some (.bool g2) ∧ w'.cell? ⟨b1, 5, none⟩ = some (s2) ∧ w'.cell? ⟨b2, 4, none⟩ = some (.bool p2) ∧ w'.cell? ⟨b2, 5, none⟩ = some (t2)) (by kernel_rfl) (by kernel_rfl) (by rw [← hW3]; exact ⟨kD HP2 4, kD HP2 5, kD HP3 4, kD HP3 5⟩) ?_
  rw [← hW3]
  clear hW3
  iterate 6 refine tk0 (h := ?_)
  refine sop (h := fun K9 hK9 => ?_)
  go_simp
  replace HX0 := kV j2 (kV j1 HX0)
  replace HX1 := kV j2 (kV j1 HX1)
  refine (itimes_any _ _ zi yk _ HX0.out HX1.out (by omega) (by omega)).mono ?_
  rintro e w1 ⟨⟨vx, rfl, hr⟩, j1c⟩
  obtain ⟨g1a, A1a, k1a, c1a, rfl, hr⟩ := hr.open
  have HR1 := Lib.hid hr
  clear hr
  replace HP2 := kB HP2 j1c
  replace HP3 := kB HP3 j1c
  refine ckk hK9 (by exact ⟨kD HP2 4, kD HP2 5, kD HP3 4, kD HP3 5⟩) (h := ?_)
  clear hK9 K9
  refine sop (h := fun K9 hK9 => ?_)
  replace HB2 := kB (kB HB2 j2) j1c
  have c4 := kC HB2 0 rfl
  have c5 := kF HB2 0
  have c6 := kC HB2 1 rfl
  have c7 := kF HB2 1
  go_simp
  obtain ⟨W8, HW8⟩ : ∃ W, Hid (W = ((w1.setCell ⟨w.heap.size, 0, none⟩ (.bool g1a)).setCell ⟨w.heap.size, 1, none⟩ (.slice A1a k1a c1a))) := ⟨_, rfl⟩
  have SW8 : Hid (W8 = setsW w1 (w.heap.size) 0 [.bool g1a, .slice A1a k1a c1a]) := HW8.out
  have TW8 := kN (SW8.out) HB2 rfl rfl
  replace HB2 := kP (ds := [.bool g1a, .slice A1a k1a c1a]) (SW8.out) HB2 rfl rfl
  rw [← HW8.out]
  replace HP2 := kO (SW8.out) HP2 HNE_P2_B2.out
  replace HP3 := kO (SW8.out) HP3 HNE_P3_B2.out
  refine ckk hK9 (by exact ⟨kD HP2 4, kD HP2 5, kD HP3 4, kD HP3 5⟩) (h := ?_)
  clear hK9 K9 c4 c5 c6 c7
  refine seq_done (by kernel_rfl) ?_
  go_wp2_with fail
  have c9 := kC HB2 0 rfl
  have c10 := kC HB2 1 rfl
  replace HR1 := kW TW8 HR1
  replace HBw := kS (SW8.out) HLE_B2 (kU (kU HBw j2) j1c)
  exact bodyPost_ret (v := .agg #[.bool g1a, .slice A1a k1a c1a]) (by simp [results, Tryz.results249, go_sem, c9, c10]) rfl ⟨⟨_, rfl, HR1.out⟩, HBw.out⟩
theorem prod_23 {b1 b2 : Nat} {g0 g1 g2 g3 p0 p1 p2 p3 : Bool} {s0 s1 s2 s3 t0 t1 t2 t3 : Value} (zi yk : Int) (w : World) (h1 : w.heap[b1]? = some (.cells #[.bool g0, s0, .bool g1, s1, .bool g2, s2, .bool g3, s3] 28 (0, 0))) (h2 : w.heap[b2]? = some (.cells #[.bool p0, t0, .bool p1, t1, .bool p2, t2, .bool p3, t3] 28 (0, 0))) (hz : RdZ w (.agg #[.bool g2, s2]) zi) (hy : RdZ w (.agg #[.bool p3, t3]) yk) (hz6 : dl zi.natAbs ≤ 450000) (hy6 : dl yk.natAbs ≤ 450000) :
    Calls Tryz.prog 249 #[.int .i64 2, .int .i64 3, .pointer (some ⟨b1, 0, none⟩), .pointer (some ⟨b2, 0, none⟩)] w fun e w' => (∃ v', e = .returned v' ∧ RdZ w' v' (zi * yk)) ∧ Below w.heap.size w w' := by
  have HX0 := Lib.hid hz
  have HX1 := Lib.hid hy
  have HP2 := Lib.hid h1
  have HP3 := Lib.hid h2
  clear hz hy h1 h2
  go_enter Tryz.func249, Tryz.ntmps249
  obtain ⟨W1, HW1, HB2, HSZ_W1, j1⟩ := st_al0 w #[.bool false, .slice none 0 0] 27
  have HNE_P2_B2 : Hid (b1 ≠ w.heap.size) := by show _ ≠ _; have hlt := blk_lt HP2.out; omega
  have HNE_P3_B2 : Hid (b2 ≠ w.heap.size) := by show _ ≠ _; have hlt := blk_lt HP3.out; omega
  have HLE_B2 : Hid (w.heap.size ≤ w.heap.size) := by show _ ≤ _; omega
  have HBw := Lib.hid j1
  go_wp2_with fail
  rw [← HW1.out]
  obtain ⟨W3, hW3⟩ : ∃ W, W = W1.drew := ⟨_, rfl⟩
  have j2 : Below W1.heap.size W1 W3 := by rw [hW3]; exact (Below.refl _ _).drew
  replace HP2 := kB (kB HP2 j1) j2
  replace HP3 := kB (kB HP3 j1) j2
  refine seq_start (S := fun w' => w'.cell? ⟨b1, 4, none⟩ = some (.bool g2) ∧ w'.cell? ⟨b1, 5, none⟩ = some (s2) ∧ w'.cell? ⟨b2, 6, none⟩ = some (.bool p3) ∧ w'.cell? ⟨b2, 7, none⟩ = some (t3)) (by kernel_rfl) (by kernel_rfl) (by rw [← hW3]; exact ⟨kD HP2 4, kD HP2 5, kD HP3 6, kD HP3 7⟩) ?_
  rw [← hW3]
  clear hW3
  iterate 6 refine tk0 (h := ?_)
  refine sop (h := fun K9 hK9 => ?_)
  go_simp
  replace HX0 := kV j2 (kV j1 HX0)
  replace HX1 := kV j2 (kV j1 HX1)
  refine (itimes_any _ _ zi yk _ HX0.out HX1.out (by omega) (by omega)).mono ?_
  rintro e w1 ⟨⟨vx, rfl, hr⟩, j1c⟩
  obtain ⟨g1a, A1a, k1a, c1a, rfl, hr⟩ := hr.open
  have HR1 := Lib.hid hr
  clear hr
  replace HP2 := kB HP2 j1c
  replace HP3 := kB HP3 j1c
  refine ckk hK9 (by exact ⟨kD HP2 4, kD HP2 5, kD HP3 6, kD HP3 7⟩) (h := ?_)
  clear hK9 K9
  refine sop (h := fun K9 hK9 => ?_)
  replace HB2 := kB (kB HB2 j2) j1c
  have c4 := kC HB2 0 rfl
  have c5 := kF HB2 0
  have c6 := kC HB2 1 rfl
  have c7 := kF HB2 1
  go_simp
  obtain ⟨W8, HW8⟩ : ∃ W, Hid (W = ((w1.setCell ⟨w.heap.size, 0, none⟩ (.bool g1a)).setCell ⟨w.heap.size, 1, none⟩ (.slice A1a k1a c1a))) := ⟨_, rfl⟩
  have SW8 : Hid (W8 = setsW w1 (w.heap.size) 0 [.bool g1a, .slice A1a k1a c1a]) := HW8.out
  have TW8 := kN (SW8.out) HB2 rfl rfl
  replace HB2 := kP (ds := [.bool g1a, .slice A1a k1a c1a]) (SW8.out) HB2 rfl rfl
  rw [← HW8.out]
  replace HP2 := kO (SW8.out) HP2 HNE_P2_B2.out
  replace HP3 := kO (SW8.out) HP3 HNE_P3_B2.out
  refine ckk hK9 (by exact ⟨kD HP2 4, kD HP2 5, kD HP3 6, kD HP3 7⟩) (h := ?_)
  clear hK9 K9 c4 c5 c6 c7
  refine seq_done (by kernel_rfl) ?_
  go_wp2_with fail
  have c9 := kC HB2 0 rfl
  have c10 := kC HB2 1 rfl
  replace HR1 := kW TW8 HR1
  replace HBw := kS (SW8.out) HLE_B2 (kU (kU HBw j2) j1c)
  exact bodyPost_ret (v := .agg #[.bool g1a, .slice A1a k1a c1a]) (by simp [results, Tryz.results249, go_sem, c9, c10]) rfl ⟨⟨_, rfl, HR1.out⟩, HBw.out⟩
theorem prod_30 {b1 b2 : Nat} {g0 g1 g2 g3 p0 p1 p2 p3 : Bool} {s0 s1 s2 s3 t0 t1 t2 t3 : Value} (zi yk : Int) (w : World) (h1 : w.heap[b1]? = some (.cells #[.bool g0, s0, .bool g1, s1, .bool g2, s2, .bool g3, s3] 28 (0, 0))) (h2 : w.heap[b2]? = some (.cells #[.bool p0, t0, .bool p1, t1, .bool p2, t2, .bool p3, t3] 28 (0, 0))) (hz : RdZ w (.agg #[.bool g3, s3]) zi) (hy : RdZ w (.agg #[.bool p0, t0]) yk) (hz6 : dl zi.natAbs ≤ 450000) (hy6 : dl yk.natAbs ≤ 450000) :
    Calls Tryz.prog 249 #[.int .i64 3, .int .i64 0, .pointer (some ⟨b1, 0, none⟩), .pointer (some ⟨b2, 0, none⟩)] w fun e w' => (∃ v', e = .returned v' ∧ RdZ w' v' (zi * yk)) ∧ Below w.heap.size w w' := by
  have HX0 := Lib.hid hz
  have HX1 := Lib.hid hy
  have HP2 := Lib.hid h1
  have HP3 := Lib.hid h2
  clear hz hy h1 h2
  go_enter Tryz.func249, Tryz.ntmps249
  obtain ⟨W1, HW1, HB2, HSZ_W1, j1⟩ := st_al0 w #[.bool false, .slice none 0 0] 27
  have HNE_P2_B2 : Hid (b1 ≠ w.heap.size) := by show _ ≠ _; have hlt := blk_lt HP2.out; omega
  have HNE_P3_B2 : Hid (b2 ≠ w.heap.size) := by show _ ≠ _; have hlt := blk_lt HP3.out; omega
  have HLE_B2 : Hid (w.heap.size ≤ w.heap.size) := by show _ ≤ _; omega
  have HBw := Lib.hid j1
  go_wp2_with fail
  rw [← HW1.out]
  obtain ⟨W3, hW3⟩ : ∃ W, W = W1.drew := ⟨_, rfl⟩
  have j2 : Below W1.heap.size W1 W3 := by rw [hW3]; exact (Below.refl _ _).drew
  replace HP2 := kB (kB HP2 j1) j2
  replace HP3 := kB (kB HP3 j1) j2
  refine seq_start (S := fun w' => w'.cell? ⟨b1, 6, none⟩ = some (.bool g3) ∧ w'.cell? ⟨b1, 7, none⟩ = some (s3) ∧ w'.cell? ⟨b2, 0, none⟩ = some (.bool p0) ∧ w'.cell? ⟨b2, 1, none⟩ = some (t0)) (by kernel_rfl) (by kernel_rfl) (by rw [← hW3]; exact ⟨kD HP2 6, kD HP2 7, kD HP3 0, kD HP3 1⟩) ?_
  rw [← hW3]
  clear hW3
  iterate 6 refine tk0 (h := ?_)
  refine sop (h := fun K9 hK9 => ?_)
  go_simp
  replace HX0 := kV j2 (kV j1 HX0)
  replace HX1 := kV j2 (kV j1 HX1)
  refine (itimes_any _ _ zi yk _ HX0.out HX1.out (by omega) (by omega)).mono ?_
  rintro e w1 ⟨⟨vx, rfl, hr⟩, j1c⟩
  obtain ⟨g1a, A1a, k1a, c1a, rfl, hr⟩ := hr.open
  have HR1 := Lib.hid hr
  clear hr
  replace HP2 := kB HP2 j1c
  replace HP3 := kB HP3 j1c
  refine ckk hK9 (by exact ⟨kD HP2 6, kD HP2 7, kD HP3 0, kD HP3 1⟩) (h := ?_)
  clear hK9 K9
  refine sop (h := fun K9 hK9 => ?_)
  replace HB2 := kB (kB HB2 j2) j1c
  have c4 := kC HB2 0 rfl
  have c5 := kF HB2 0
  have c6 := kC HB2 1 rfl
  have c7 := kF HB2 1
  go_simp
  obtain ⟨W8, HW8⟩ : ∃ W, Hid (W = ((w1.setCell ⟨w.heap.size, 0, none⟩ (.bool g1a)).setCell ⟨w.heap.size, 1, none⟩ (.slice A1a k1a c1a))) := ⟨_, rfl⟩
  have SW8 : Hid (W8 = setsW w1 (w.heap.size) 0 [.bool g1a, .slice A1a k1a c1a]) := HW8.out
  have TW8 := kN (SW8.out) HB2 rfl rfl
  replace HB2 := kP (ds := [.bool g1a, .slice A1a k1a c1a]) (SW8.out) HB2 rfl rfl
  rw [← HW8.out]
  replace HP2 := kO (SW8.out) HP2 HNE_P2_B2.out
  replace HP3 := kO (SW8.out) HP3 HNE_P3_B2.out
  refine ckk hK9 (by exact ⟨kD HP2 6, kD HP2 7, kD HP3 0, kD HP3 1⟩) (h := ?_)
  clear hK9 K9 c4 c5 c6 c7
  refine seq_done (by kernel_rfl) ?_
  go_wp2_with fail
  have c9 := kC HB2 0 rfl
  have c10 := kC HB2 1 rfl
  replace HR1 := kW TW8 HR1
  replace HBw := kS (SW8.out) HLE_B2 (kU (kU HBw j2) j1c)
  exact bodyPost_ret (v := .agg #[.bool g1a, .slice A1a k1a c1a]) (by simp [results, Tryz.results249, go_sem, c9, c10]) rfl ⟨⟨_, rfl, HR1.out⟩, HBw.out⟩
theorem prod_31 {b1 b2 : Nat} {g0 g1 g2 g3 p0 p1 p2 p3 : Bool} {s0 s1 s2 s3 t0 t1 t2 t3 : Value} (zi yk : Int) (w : World) (h1 : w.heap[b1]? = some (.cells #[.bool g0, s0, .bool g1, s1, .bool g2, s2, .bool g3, s3] 28 (0, 0))) (h2 : w.heap[b2]? = some (.cells #[.bool p0, t0, .bool p1, t1, .bool p2, t2, .bool p3, t3] 28 (0, 0))) (hz : RdZ w (.agg #[.bool g3, s3]) zi) (hy : RdZ w (.agg #[.bool p1, t1]) yk) (hz6 : dl zi.natAbs ≤ 450000) (hy6 : dl yk.natAbs ≤ 450000) :
    Calls Tryz.prog 249 #[.int .i64 3, .int .i64 1, .pointer (some ⟨b1, 0, none⟩), .pointer (some ⟨b2, 0, none⟩)] w fun e w' => (∃ v', e = .returned v' ∧ RdZ w' v' (zi * yk)) ∧ Below w.heap.size w w' := by
  have HX0 := Lib.hid hz
  have HX1 := Lib.hid hy
  have HP2 := Lib.hid h1
  have HP3 := Lib.hid h2
  clear hz hy h1 h2
  go_enter Tryz.func249, Tryz.ntmps249
  obtain ⟨W1, HW1, HB2, HSZ_W1, j1⟩ := st_al0 w #[.bool false, .slice none 0 0] 27
  have HNE_P2_B2 : Hid (b1 ≠ w.heap.size) := by show _ ≠ _; have hlt := blk_lt HP2.out; omega
  have HNE_P3_B2 : Hid (b2 ≠ w.heap.size) := by show _ ≠ _; have hlt := blk_lt HP3.out; omega
  have HLE_B2 : Hid (w.heap.size ≤ w.heap.size) := by show _ ≤ _; omega
  have HBw := Lib.hid j1
  go_wp2_with fail
  rw [← HW1.out]
  obtain ⟨W3, hW3⟩ : ∃ W, W = W1.drew := ⟨_, rfl⟩
  have j2 : Below W1.heap.size W1 W3 := by rw [hW3]; exact (Below.refl _ _).drew
  replace HP2 := kB (kB HP2 j1) j2
  replace HP3 := kB (kB HP3 j1) j2
  refine seq_start (S := fun w' => w'.cell? ⟨b1, 6, none⟩ = some (.bool g3) ∧ w'.cell? ⟨b1, 7, none⟩ = some (s3) ∧ w'.cell? ⟨b2, 2, none⟩ = some (.bool p1) ∧ w'.cell? ⟨b2, 3, none⟩ = some (t1)) (by kernel_rfl) (by kernel_rfl) (by rw [← hW3]; exact ⟨kD HP2 6, kD HP2 7, kD HP3 2, kD HP3 3⟩) ?_
  rw [← hW3]
  clear hW3
  iterate 6 refine tk0 (h := ?_)
  refine sop (h := fun K9 hK9 => ?_)
  go_simp
  replace HX0 := kV j2 (kV j1 HX0)
  replace HX1 := kV j2 (kV j1 HX1)
  refine (itimes_any _ _ zi yk _ HX0.out HX1.out (by omega) (by omega)).mono ?_
  rintro e w1 ⟨⟨vx, rfl, hr⟩, j1c⟩
  obtain ⟨g1a, A1a, k1a, c1a, rfl, hr⟩ := hr.open
  have HR1 := Lib.hid hr
  clear hr
  replace HP2 := kB HP2 j1c
  replace HP3 := kB HP3 j1c
  refine ckk hK9 (by exact ⟨kD HP2 6, kD HP2 7, kD HP3 2, kD HP3 3⟩) (h := ?_)
  clear hK9 K9
  refine sop (h := fun K9 hK9 => ?_)
  replace HB2 := kB (kB HB2 j2) j1c
  have c4 := kC HB2 0 rfl
  have c5 := kF HB2 0
  have c6 := kC HB2 1 rfl
  have c7 := kF HB2 1
  go_simp
  obtain ⟨W8, HW8⟩ : ∃ W, Hid (W = ((w1.setCell ⟨w.heap.size, 0, none⟩ (.bool g1a)).setCell ⟨w.heap.size, 1, none⟩ (.slice A1a k1a c1a))) := ⟨_, rfl⟩
  have SW8 : Hid (W8 = setsW w1 (w.heap.size) 0 [.bool g1a, .slice A1a k1a c1a]) := HW8.out
  have TW8 := kN (SW8.out) HB2 rfl rfl
  replace HB2 := kP (ds := [.bool g1a, .slice A1a k1a c1a]) (SW8.out) HB2 rfl rfl
  rw [← HW8.out]
  replace HP2 := kO (SW8.out) HP2 HNE_P2_B2.out
  replace HP3 := kO (SW8.out) HP3 HNE_P3_B2.out
  refine ckk hK9 (by exact ⟨kD HP2 6, kD HP2 7, kD HP3 2, kD HP3 3⟩) (h := ?_)
  clear hK9 K9 c4 c5 c6 c7
  refine seq_done (by kernel_rfl) ?_
  go_wp2_with fail
  have c9 := kC HB2 0 rfl
  have c10 := kC HB2 1 rfl
  replace HR1 := kW TW8 HR1
  replace HBw := kS (SW8.out) HLE_B2 (kU (kU HBw j2) j1c)
  exact bodyPost_ret (v := .agg #[.bool g1a, .slice A1a k1a c1a]) (by simp [results, Tryz.results249, go_sem, c9, c10]) rfl ⟨⟨_, rfl, HR1.out⟩, HBw.out⟩
theorem prod_32 {b1 b2 : Nat} {g0 g1 g2 g3 p0 p1 p2 p3 : Bool} {s0 s1 s2 s3 t0 t1 t2 t3 : Value} (zi yk : Int) (w : World) (h1 : w.heap[b1]? = some (.cells #[.bool g0, s0, .bool g1, s1, .bool g2, s2, .bool g3, s3] 28 (0, 0))) (h2 : w.heap[b2]? = some (.cells #[.bool p0, t0, .bool p1, t1, .bool p2, t2, .bool p3, t3] 28 (0, 0))) (hz : RdZ w (.agg #[.bool g3, s3]) zi) (hy : RdZ w (.agg #[.bool p2, t2]) yk) (hz6 : dl zi.natAbs ≤ 450000) (hy6 : dl yk.natAbs ≤ 450000) :
    Calls Tryz.prog 249 #[.int .i64 3, .int .i64 2, .pointer (some ⟨b1, 0, none⟩), .pointer (some ⟨b2, 0, none⟩)] w fun e w' => (∃ v', e = .returned v' ∧ RdZ w' v' (zi * yk)) ∧ Below w.heap.size w w' := by
  have HX0 := Lib.hid hz
  have HX1 := Lib.hid hy
  have HP2 := Lib.hid h1
  have HP3 := Lib.hid h2
  clear hz hy h1 h2
  go_enter Tryz.func249, Tryz.ntmps249
  obtain ⟨W1, HW1, HB2, HSZ_W1, j1⟩ := st_al0 w #[.bool false, .slice none 0 0] 27
  have HNE_P2_B2 : Hid (b1 ≠ w.heap.size) := by show _ ≠ _; have hlt := blk_lt HP2.out; omega
  have HNE_P3_B2 : Hid (b2 ≠ w.heap.size) := by show _ ≠ _; have hlt := blk_lt HP3.out; omega
  have HLE_B2 : Hid (w.heap.size ≤ w.heap.size) := by show _ ≤ _; omega
  have HBw := Lib.hid j1
  go_wp2_with fail
  rw [← HW1.out]
  obtain ⟨W3, hW3⟩ : ∃ W, W = W1.drew := ⟨_, rfl⟩
  have j2 : Below W1.heap.size W1 W3 := by rw [hW3]; exact (Below.refl _ _).drew
  replace HP2 := kB (kB HP2 j1) j2
  replace HP3 := kB (kB HP3 j1) j2
  refine seq_start (S := fun w' => w'.cell? ⟨b1, 6, none⟩ = some (.bool g3) ∧ w'.cell? ⟨b1, 7, none⟩ = some (s3) ∧ w'.cell? ⟨b2, 4, none⟩ = some (.bool p2) ∧ w'.cell? ⟨b2, 5, none⟩ = some (t2)) (by kernel_rfl) (by kernel_rfl) (by rw [← hW3]; exact ⟨kD HP2 6, kD HP2 7, kD HP3 4, kD HP3 5⟩) ?_
  rw [← hW3]
  clear hW3
  iterate 6 refine tk0 (h := ?_)
  refine sop (h := fun K9 hK9 => ?_)
  go_simp
  replace HX0 := kV j2 (kV j1 HX0)
  replace HX1 := kV j2 (kV j1 HX1)
  refine (itimes_any _ _ zi yk _ HX0.out HX1.out (by omega) (by omega)).mono ?_
  rintro e w1 ⟨⟨vx, rfl, hr⟩, j1c⟩
  obtain ⟨g1a, A1a, k1a, c1a, rfl, hr⟩ := hr.open
  have HR1 := Lib.hid hr
  clear hr
  replace HP2 := kB HP2 j1c
  replace HP3 := kB HP3 j1c
  refine ckk hK9 (by exact ⟨kD HP2 6, kD HP2 7, kD HP3 4, kD HP3 5⟩) (h := ?_)
  clear hK9 K9
  refine sop (h := fun K9 hK9 => ?_)
  replace HB2 := kB (kB HB2 j2) j1c
  have c4 := kC HB2 0 rfl
  have c5 := kF HB2 0
  have c6 := kC HB2 1 rfl
  have c7 := kF HB2 1
  go_simp
  obtain ⟨W8, HW8⟩ : ∃ W, Hid (W = ((w1.setCell ⟨w.heap.size, 0, none⟩ (.bool g1a)).setCell ⟨w.heap.size, 1, none⟩ (.slice A1a k1a c1a))) := ⟨_, rfl⟩
  have SW8 : Hid (W8 = setsW w1 (w.heap.size) 0 [.bool g1a, .slice A1a k1a c1a]) := HW8.out
  have TW8 := kN (SW8.out) HB2 rfl rfl
  replace HB2 := kP (ds := [.bool g1a, .slice A1a k1a c1a]) (SW8.out) HB2 rfl rfl
  rw [← HW8.out]
  replace HP2 := kO (SW8.out) HP2 HNE_P2_B2.out
  replace HP3 := kO (SW8.out) HP3 HNE_P3_B2.out
  refine ckk hK9 (by exact ⟨kD HP2 6, kD HP2 7, kD HP3 4, kD HP3 5⟩) (h := ?_)
  clear hK9 K9 c4 c5 c6 c7
  refine seq_done (by kernel_rfl) ?_
  go_wp2_with fail
  have c9 := kC HB2 0 rfl
  have c10 := kC HB2 1 rfl
  replace HR1 := kW TW8 HR1
  replace HBw := kS (SW8.out) HLE_B2 (kU (kU HBw j2) j1c)
  exact bodyPost_ret (v := .agg #[.bool g1a, .slice A1a k1a c1a]) (by simp [results, Tryz.results249, go_sem, c9, c10]) rfl ⟨⟨_, rfl, HR1.out⟩, HBw.out⟩
theorem prod_33 {b1 b2 : Nat} {g0 g1 g2 g3 p0 p1 p2 p3 : Bool} {s0 s1 s2 s3 t0 t1 t2 t3 : Value} (zi yk : Int) (w : World) (h1 : w.heap[b1]? = some (.cells #[.bool g0, s0, .bool g1, s1, .bool g2, s2, .bool g3, s3] 28 (0, 0))) (h2 : w.heap[b2]? = some (.cells #[.bool p0, t0, .bool p1, t1, .bool p2, t2, .bool p3, t3] 28 (0, 0))) (hz : RdZ w (.agg #[.bool g3, s3]) zi) (hy : RdZ w (.agg #[.bool p3, t3]) yk) (hz6 : dl zi.natAbs ≤ 450000) (hy6 : dl yk.natAbs ≤ 450000) :
    Calls Tryz.prog 249 #[.int .i64 3, .int .i64 3, .pointer (some ⟨b1, 0, none⟩), .pointer (some ⟨b2, 0, none⟩)] w fun e w' => (∃ v', e = .returned v' ∧ RdZ w' v' (zi * yk)) ∧ Below w.heap.size w w' := by
  have HX0 := Lib.hid hz
  have HX1 := Lib.hid hy
  have HP2 := Lib.hid h1
  have HP3 := Lib.hid h2
  clear hz hy h1 h2
  go_enter Tryz.func249, Tryz.ntmps249
  obtain ⟨W1, HW1, HB2, HSZ_W1, j1⟩ := st_al0 w #[.bool false, .slice none 0 0] 27
  have HNE_P2_B2 : Hid (b1 ≠ w.heap.size) := by show _ ≠ _; have hlt := blk_lt HP2.out; omega
  have HNE_P3_B2 : Hid (b2 ≠ w.heap.size) := by show _ ≠ _; have hlt := blk_lt HP3.out; omega
  have HLE_B2 : Hid (w.heap.size ≤ w.heap.size) := by show _ ≤ _; omega
  have HBw := Lib.hid j1
  go_wp2_with fail
  rw [← HW1.out]
  obtain ⟨W3, hW3⟩ : ∃ W, W = W1.drew := ⟨_, rfl⟩
  have j2 : Below W1.heap.size W1 W3 := by rw [hW3]; exact (Below.refl _ _).drew
  replace HP2 := kB (kB HP2 j1) j2
  replace HP3 := kB (kB HP3 j1) j2
  refine seq_start (S := fun w' => w'.cell? ⟨b1, 6, none⟩ = some (.bool g3) ∧ w'.cell? ⟨b1, 7, none⟩ = some (s3) ∧ w'.cell? ⟨b2, 6, none⟩ = some (.bool p3) ∧ w'.cell? ⟨b2, 7, none⟩ = some (t3)) (by kernel_rfl) (by kernel_rfl) (by rw [← hW3]; exact ⟨kD HP2 6, kD HP2 7, kD HP3 6, kD HP3 7⟩) ?_
  rw [← hW3]
  clear hW3
  iterate 6 refine tk0 (h := ?_)
  refine sop (h := fun K9 hK9 => ?_)
  go_simp
  replace HX0 := kV j2 (kV j1 HX0)
  replace HX1 := kV j2 (kV j1 HX1)
  refine (itimes_any _ _ zi yk _ HX0.out HX1.out (by omega) (by omega)).mono ?_
  rintro e w1 ⟨⟨vx, rfl, hr⟩, j1c⟩
  obtain ⟨g1a, A1a, k1a, c1a, rfl, hr⟩ := hr.open
  have HR1 := Lib.hid hr
  clear hr
  replace HP2 := kB HP2 j1c
  replace HP3 := kB HP3 j1c
  refine ckk hK9 (by exact ⟨kD HP2 6, kD HP2 7, kD HP3 6, kD HP3 7⟩) (h := ?_)
  clear hK9 K9
  refine sop (h := fun K9 hK9 => ?_)
  replace HB2 := kB (kB HB2 j2) j1c
  have c4 := kC HB2 0 rfl
  have c5 := kF HB2 0
  have c6 := kC HB2 1 rfl
  have c7 := kF HB2 1
  go_simp
  obtain ⟨W8, HW8⟩ : ∃ W, Hid (W = ((w1.setCell ⟨w.heap.size, 0, none⟩ (.bool g1a)).setCell ⟨w.heap.size, 1, none⟩ (.slice A1a k1a c1a))) := ⟨_, rfl⟩
  have SW8 : Hid (W8 = setsW w1 (w.heap.size) 0 [.bool g1a, .slice A1a k1a c1a]) := HW8.out
  have TW8 := kN (SW8.out) HB2 rfl rfl
  replace HB2 := kP (ds := [.bool g1a, .slice A1a k1a c1a]) (SW8.out) HB2 rfl rfl
  rw [← HW8.out]
  replace HP2 := kO (SW8.out) HP2 HNE_P2_B2.out
  replace HP3 := kO (SW8.out) HP3 HNE_P3_B2.out
  refine ckk hK9 (by exact ⟨kD HP2 6, kD HP2 7, kD HP3 6, kD HP3 7⟩) (h := ?_)
  clear hK9 K9 c4 c5 c6 c7
  refine seq_done (by kernel_rfl) ?_
  go_wp2_with fail
  have c9 := kC HB2 0 rfl
  have c10 := kC HB2 1 rfl
  replace HR1 := kW TW8 HR1
  replace HBw := kS (SW8.out) HLE_B2 (kU (kU HBw j2) j1c)
  exact bodyPost_ret (v := .agg #[.bool g1a, .slice A1a k1a c1a]) (by simp [results, Tryz.results249, go_sem, c9, c10]) rfl ⟨⟨_, rfl, HR1.out⟩, HBw.out⟩
theorem product_any (v u : Value) (n0 n1 n2 n3 m0 m1 m2 m3 : Int) (Ks Ls : Nat) (w : World) (hv : RdA w v n0 n1 n2 n3) (hu : RdA w u m0 m1 m2 m3) (hn : (dl n0.natAbs ≤ Ks ∧ dl n1.natAbs ≤ Ks ∧ dl n2.natAbs ≤ Ks ∧ dl n3.natAbs ≤ Ks)) (hm : (dl m0.natAbs ≤ Ls ∧ dl m1.natAbs ≤ Ls ∧ dl m2.natAbs ≤ Ls ∧ dl m3.natAbs ≤ Ls)) (hK : Ks ≤ 100000) (hL : Ls ≤ 100000) :
    Calls Tryz.prog 206 #[v, u] w fun e w' => ((∃ v', e = .returned v' ∧ RdA w' v' (n0 * m0 + n1 * m1 * 2 + n2 * m2 * 3 + n3 * m3 * 6) (n0 * m1 + n1 * m0 + (n2 * m3 + n3 * m2) * 3) (n0 * m2 + n2 * m0 + (n1 * m3 + n3 * m1) * 2) (n0 * m3 + n3 * m0 + n1 * m2 + n2 * m1)) ∧ Below w.heap.size w w') := by
  have HSn := Lib.hid hn
  have HSm := Lib.hid hm
  clear hn hm
  obtain ⟨gp0a, Ap0a, kp0a, cp0a, gp0b, Ap0b, kp0b, cp0b, gp0c, Ap0c, kp0c, cp0c, gp0d, Ap0d, kp0d, cp0d, rfl, hv⟩ := hv.open
  have HX0 := Lib.hid hv
  clear hv
  obtain ⟨gp1a, Ap1a, kp1a, cp1a, gp1b, Ap1b, kp1b, cp1b, gp1c, Ap1c, kp1c, cp1c, gp1d, Ap1d, kp1d, cp1d, rfl, hu⟩ := hu.open
  have HX1 := Lib.hid hu
  clear hu
  go_enter Tryz.func206, Tryz.ntmps206
  obtain ⟨W1, HW1, HB2, HSZ_W1, j1⟩ := st_al0 w #[.bool gp0a, .slice Ap0a kp0a cp0a, .bool gp0b, .slice Ap0b kp0b cp0b, .bool gp0c, .slice Ap0c kp0c cp0c, .bool gp0d, .slice Ap0d kp0d cp0d] 28
  have HBw := Lib.hid j1
  obtain ⟨W3, HW3, HB4, HSZ_W3, j2⟩ := st_alk 1 2 #[.bool gp1a, .slice Ap1a kp1a cp1a, .bool gp1b, .slice Ap1b kp1b cp1b, .bool gp1c, .slice Ap1c kp1c cp1c, .bool gp1d, .slice Ap1d kp1d cp1d] 28 HSZ_W1 rfl
  obtain ⟨W5, HW5, HB6, HSZ_W5, j3⟩ := st_alk 2 3 #[.bool false, .slice none 0 0, .bool false, .slice none 0 0, .bool false, .slice none 0 0, .bool false, .slice none 0 0] 28 HSZ_W3 rfl
  have HLE_B6 : Hid (w.heap.size ≤ w.heap.size + 2) := by show _ ≤ _; have hlt := HBw.out.size; have := j2.size; have := HSZ_W3.out; omega
  go_wp2_with fail
  rw [← HW1.out, ← HW3.out, ← HW5.out]
  replace HB2 := kB (kB HB2 j2) j3
  replace HB4 := kB HB4 j3
  replace HX0 := kV j3 (kV j2 (kV j1 HX0))
  replace HX1 := kV j3 (kV j2 (kV j1 HX1))
  refine (prod_00 n0 m0 _ HB2.out HB4.out HX0.out.z0 HX1.out.z0 (by have := HSn.out.1; omega) (by have := HSm.out.1; omega)).mono ?_
  rintro e w1 ⟨⟨vx, rfl, hr⟩, j1c⟩
  obtain ⟨g1a, A1a, k1a, c1a, rfl, hr⟩ := hr.open
  have HR1 := Lib.hid hr
  clear hr
  go_wp2_with fail
  replace HB2 := kB HB2 j1c
  replace HB4 := kB HB4 j1c
  replace HX0 := kV j1c HX0
  replace HX1 := kV j1c HX1
  refine (prod_11 n1 m1 _ HB2.out HB4.out HX0.out.z1 HX1.out.z1 (by have := HSn.out.2.1; omega) (by have := HSm.out.2.1; omega)).mono ?_
  rintro e w2 ⟨⟨vx, rfl, hr⟩, j2c⟩
  obtain ⟨g2a, A2a, k2a, c2a, rfl, hr⟩ := hr.open
  have HR2 := Lib.hid hr
  clear hr
  go_wp2_with fail
  refine (ifold2 _ (n1 * m1) _ HR2.out (by have := (dl_mul2 HSn.out.2.1 HSm.out.2.1); omega)).mono ?_
  rintro e w3 ⟨⟨vx, rfl, hr⟩, j3c⟩
  obtain ⟨g3a, A3a, k3a, c3a, rfl, hr⟩ := hr.open
  have HR3 := Lib.hid hr
  clear hr
  go_wp2_with fail
  replace HR1 := kV j3c (kV j2c HR1)
  refine (iplus_any _ _ (n0 * m0) (n1 * m1 * 2) _ HR1.out HR3.out (by have := (dl_mul2 HSn.out.1 HSm.out.1); omega) (by have := (dl_f2 (dl_mul2 HSn.out.2.1 HSm.out.2.1)); omega)).mono ?_
  rintro e w4 ⟨⟨vx, rfl, hr⟩, j4c⟩
  obtain ⟨g4a, A4a, k4a, c4a, rfl, hr⟩ := hr.open
  have HR4 := Lib.hid hr
  clear hr
  go_wp2_with fail
  replace HB2 := kB (kB (kB HB2 j2c) j3c) j4c
  replace HB4 := kB (kB (kB HB4 j2c) j3c) j4c
  replace HX0 := kV j4c (kV j3c (kV j2c HX0))
  replace HX1 := kV j4c (kV j3c (kV j2c HX1))
  refine (prod_22 n2 m2 _ HB2.out HB4.out HX0.out.z2 HX1.out.z2 (by have := HSn.out.2.2.1; omega) (by have := HSm.out.2.2.1; omega)).mono ?_
  rintro e w5 ⟨⟨vx, rfl, hr⟩, j5c⟩
  obtain ⟨g5a, A5a, k5a, c5a, rfl, hr⟩ := hr.open
  have HR5 := Lib.hid hr
  clear hr
  go_wp2_with fail
  refine (ifold3 _ (n2 * m2) _ HR5.out (by have := (dl_mul2 HSn.out.2.2.1 HSm.out.2.2.1); omega)).mono ?_
  rintro e w6 ⟨⟨vx, rfl, hr⟩, j6c⟩
  obtain ⟨g6a, A6a, k6a, c6a, rfl, hr⟩ := hr.open
  have HR6 := Lib.hid hr
  clear hr
  go_wp2_with fail
  replace HR4 := kV j6c (kV j5c HR4)
  refine (iplus_any _ _ (n0 * m0 + n1 * m1 * 2) (n2 * m2 * 3) _ HR4.out HR6.out (by have := (dl_add2 (K := Ks + Ls + 1) (Nat.le_trans (dl_mul2 HSn.out.1 HSm.out.1) (by omega)) (Nat.le_trans (dl_f2 (dl_mul2 HSn.out.2.1 HSm.out.2.1)) (by omega))); omega) (by have := (dl_f3 (dl_mul2 HSn.out.2.2.1 HSm.out.2.2.1)); omega)).mono ?_
  rintro e w7 ⟨⟨vx, rfl, hr⟩, j7c⟩
  obtain ⟨g7a, A7a, k7a, c7a, rfl, hr⟩ := hr.open
  have HR7 := Lib.hid hr
  clear hr
  go_wp2_with fail
  replace HB2 := kB (kB (kB HB2 j5c) j6c) j7c
  replace HB4 := kB (kB (kB HB4 j5c) j6c) j7c
  replace HX0 := kV j7c (kV j6c (kV j5c HX0))
  replace HX1 := kV j7c (kV j6c (kV j5c HX1))
  refine (prod_33 n3 m3 _ HB2.out HB4.out HX0.out.z3 HX1.out.z3 (by have := HSn.out.2.2.2; omega) (by have := HSm.out.2.2.2; omega)).mono ?_
  rintro e w8 ⟨⟨vx, rfl, hr⟩, j8c⟩
  obtain ⟨g8a, A8a, k8a, c8a, rfl, hr⟩ := hr.open
  have HR8 := Lib.hid hr
  clear hr
  go_wp2_with fail
  refine (ifold6 _ (n3 * m3) _ HR8.out (by have := (dl_mul2 HSn.out.2.2.2 HSm.out.2.2.2); omega)).mono ?_
  rintro e w9 ⟨⟨vx, rfl, hr⟩, j9c⟩
  obtain ⟨g9a, A9a, k9a, c9a, rfl, hr⟩ := hr.open
  have HR9 := Lib.hid hr
  clear hr
  go_wp2_with fail
  replace HR7 := kV j9c (kV j8c HR7)
  refine (iplus_any _ _ (n0 * m0 + n1 * m1 * 2 + n2 * m2 * 3) (n3 * m3 * 6) _ HR7.out HR9.out (by have := (dl_add2 (K := Ks + Ls + 2) (Nat.le_trans (dl_add2 (K := Ks + Ls + 1) (Nat.le_trans (dl_mul2 HSn.out.1 HSm.out.1) (by omega)) (Nat.le_trans (dl_f2 (dl_mul2 HSn.out.2.1 HSm.out.2.1)) (by omega))) (by omega)) (Nat.le_trans (dl_f3 (dl_mul2 HSn.out.2.2.1 HSm.out.2.2.1)) (by omega))); omega) (by have := (dl_f6 (dl_mul2 HSn.out.2.2.2 HSm.out.2.2.2)); omega)).mono ?_
  rintro e w10 ⟨⟨vx, rfl, hr⟩, j10c⟩
  obtain ⟨g10a, A10a, k10a, c10a, rfl, hr⟩ := hr.open
  have HR10 := Lib.hid hr
  clear hr
  go_wp2_with fail
  replace HB2 := kB (kB (kB HB2 j8c) j9c) j10c
  replace HB4 := kB (kB (kB HB4 j8c) j9c) j10c
  replace HX0 := kV j10c (kV j9c (kV j8c HX0))
  replace HX1 := kV j10c (kV j9c (kV j8c HX1))
  refine (prod_01 n0 m1 _ HB2.out HB4.out HX0.out.z0 HX1.out.z1 (by have := HSn.out.1; omega) (by have := HSm.out.2.1; omega)).mono ?_
  rintro e w11 ⟨⟨vx, rfl, hr⟩, j11c⟩
  obtain ⟨g11a, A11a, k11a, c11a, rfl, hr⟩ := hr.open
  have HR11 := Lib.hid hr
  clear hr
  go_wp2_with fail
  replace HB2 := kB HB2 j11c
  replace HB4 := kB HB4 j11c
  replace HX0 := kV j11c HX0
  replace HX1 := kV j11c HX1
  refine (prod_10 n1 m0 _ HB2.out HB4.out HX0.out.z1 HX1.out.z0 (by have := HSn.out.2.1; omega) (by have := HSm.out.1; omega)).mono ?_
  rintro e w12 ⟨⟨vx, rfl, hr⟩, j12c⟩
  obtain ⟨g12a, A12a, k12a, c12a, rfl, hr⟩ := hr.open
  have HR12 := Lib.hid hr
  clear hr
  go_wp2_with fail
  replace HR11 := kV j12c HR11
  refine (iplus_any _ _ (n0 * m1) (n1 * m0) _ HR11.out HR12.out (by have := (dl_mul2 HSn.out.1 HSm.out.2.1); omega) (by have := (dl_mul2 HSn.out.2.1 HSm.out.1); omega)).mono ?_
  rintro e w13 ⟨⟨vx, rfl, hr⟩, j13c⟩
  obtain ⟨g13a, A13a, k13a, c13a, rfl, hr⟩ := hr.open
  have HR13 := Lib.hid hr
  clear hr
  go_wp2_with fail
  replace HB2 := kB (kB HB2 j12c) j13c
  replace HB4 := kB (kB HB4 j12c) j13c
  replace HX0 := kV j13c (kV j12c HX0)
  replace HX1 := kV j13c (kV j12c HX1)
  refine (prod_23 n2 m3 _ HB2.out HB4.out HX0.out.z2 HX1.out.z3 (by have := HSn.out.2.2.1; omega) (by have := HSm.out.2.2.2; omega)).mono ?_
  rintro e w14 ⟨⟨vx, rfl, hr⟩, j14c⟩
  obtain ⟨g14a, A14a, k14a, c14a, rfl, hr⟩ := hr.open
  have HR14 := Lib.hid hr
  clear hr
  go_wp2_with fail
  replace HB2 := kB HB2 j14c
  replace HB4 := kB HB4 j14c
  replace HX0 := kV j14c HX0
  replace HX1 := kV j14c HX1
  refine (prod_32 n3 m2 _ HB2.out HB4.out HX0.out.z3 HX1.out.z2 (by have := HSn.out.2.2.2; omega) (by have := HSm.out.2.2.1; omega)).mono ?_
  rintro e w15 ⟨⟨vx, rfl, hr⟩, j15c⟩
  obtain ⟨g15a, A15a, k15a, c15a, rfl, hr⟩ := hr.open
  have HR15 := Lib.hid hr
  clear hr
  go_wp2_with fail
  replace HR14 := kV j15c HR14
  refine (iplus_any _ _ (n2 * m3) (n3 * m2) _ HR14.out HR15.out (by have := (dl_mul2 HSn.out.2.2.1 HSm.out.2.2.2); omega) (by have := (dl_mul2 HSn.out.2.2.2 HSm.out.2.2.1); omega)).mono ?_
  rintro e w16 ⟨⟨vx, rfl, hr⟩, j16c⟩
  obtain ⟨g16a, A16a, k16a, c16a, rfl, hr⟩ := hr.open
  have HR16 := Lib.hid hr
  clear hr
  go_wp2_with fail
  refine (ifold3 _ (n2 * m3 + n3 * m2) _ HR16.out (by have := (dl_add2 (K := Ks + Ls + 0) (Nat.le_trans (dl_mul2 HSn.out.2.2.1 HSm.out.2.2.2) (by omega)) (Nat.le_trans (dl_mul2 HSn.out.2.2.2 HSm.out.2.2.1) (by omega))); omega)).mono ?_
  rintro e w17 ⟨⟨vx, rfl, hr⟩, j17c⟩
  obtain ⟨g17a, A17a, k17a, c17a, rfl, hr⟩ := hr.open
  have HR17 := Lib.hid hr
  clear hr
  go_wp2_with fail
  replace HR13 := kV j17c (kV j16c (kV j15c (kV j14c HR13)))
  refine (iplus_any _ _ (n0 * m1 + n1 * m0) ((n2 * m3 + n3 * m2) * 3) _ HR13.out HR17.out (by have := (dl_add2 (K := Ks + Ls + 0) (Nat.le_trans (dl_mul2 HSn.out.1 HSm.out.2.1) (by omega)) (Nat.le_trans (dl_mul2 HSn.out.2.1 HSm.out.1) (by omega))); omega) (by have := (dl_f3 (dl_add2 (K := Ks + Ls + 0) (Nat.le_trans (dl_mul2 HSn.out.2.2.1 HSm.out.2.2.2) (by omega)) (Nat.le_trans (dl_mul2 HSn.out.2.2.2 HSm.out.2.2.1) (by omega)))); omega)).mono ?_
  rintro e w18 ⟨⟨vx, rfl, hr⟩, j18c⟩
  obtain ⟨g18a, A18a, k18a, c18a, rfl, hr⟩ := hr.open
  have HR18 := Lib.hid hr
  clear hr
  go_wp2_with fail
  replace HB2 := kB (kB (kB (kB HB2 j15c) j16c) j17c) j18c
  replace HB4 := kB (kB (kB (kB HB4 j15c) j16c) j17c) j18c
  replace HX0 := kV j18c (kV j17c (kV j16c (kV j15c HX0)))
  replace HX1 := kV j18c (kV j17c (kV j16c (kV j15c HX1)))
  refine (prod_02 n0 m2 _ HB2.out HB4.out HX0.out.z0 HX1.out.z2 (by have := HSn.out.1; omega) (by have := HSm.out.2.2.1; omega)).mono ?_
  rintro e w19 ⟨⟨vx, rfl, hr⟩, j19c⟩
  obtain ⟨g19a, A19a, k19a, c19a, rfl, hr⟩ := hr.open
  have HR19 := Lib.hid hr
  clear hr
  go_wp2_with fail
  replace HB2 := kB HB2 j19c
  replace HB4 := kB HB4 j19c
  replace HX0 := kV j19c HX0
  replace HX1 := kV j19c HX1
  refine (prod_20 n2 m0 _ HB2.out HB4.out HX0.out.z2 HX1.out.z0 (by have := HSn.out.2.2.1; omega) (by have := HSm.out.1; omega)).mono ?_
  rintro e w20 ⟨⟨vx, rfl, hr⟩, j20c⟩
  obtain ⟨g20a, A20a, k20a, c20a, rfl, hr⟩ := hr.open
  have HR20 := Lib.hid hr
  clear hr
  go_wp2_with fail
  replace HR19 := kV j20c HR19
  refine (iplus_any _ _ (n0 * m2) (n2 * m0) _ HR19.out HR20.out (by have := (dl_mul2 HSn.out.1 HSm.out.2.2.1); omega) (by have := (dl_mul2 HSn.out.2.2.1 HSm.out.1); omega)).mono ?_
  rintro e w21 ⟨⟨vx, rfl, hr⟩, j21c⟩
  obtain ⟨g21a, A21a, k21a, c21a, rfl, hr⟩ := hr.open
  have HR21 := Lib.hid hr
  clear hr
  go_wp2_with fail
  replace HB2 := kB (kB HB2 j20c) j21c
  replace HB4 := kB (kB HB4 j20c) j21c
  replace HX0 := kV j21c (kV j20c HX0)
  replace HX1 := kV j21c (kV j20c HX1)
  refine (prod_13 n1 m3 _ HB2.out HB4.out HX0.out.z1 HX1.out.z3 (by have := HSn.out.2.1; omega) (by have := HSm.out.2.2.2; omega)).mono ?_
  rintro e w22 ⟨⟨vx, rfl, hr⟩, j22c⟩
  obtain ⟨g22a, A22a, k22a, c22a, rfl, hr⟩ := hr.open
  have HR22 := Lib.hid hr
  clear hr
  go_wp2_with fail
  replace HB2 := kB HB2 j22c
  replace HB4 := kB HB4 j22c
  replace HX0 := kV j22c HX0
  replace HX1 := kV j22c HX1
  refine (prod_31 n3 m1 _ HB2.out HB4.out HX0.out.z3 HX1.out.z1 (by have := HSn.out.2.2.2; omega) (by have := HSm.out.2.1; omega)).mono ?_
  rintro e w23 ⟨⟨vx, rfl, hr⟩, j23c⟩
  obtain ⟨g23a, A23a, k23a, c23a, rfl, hr⟩ := hr.open
  have HR23 := Lib.hid hr
  clear hr
  go_wp2_with fail
  replace HR22 := kV j23c HR22
  refine (iplus_any _ _ (n1 * m3) (n3 * m1) _ HR22.out HR23.out (by have := (dl_mul2 HSn.out.2.1 HSm.out.2.2.2); omega) (by have := (dl_mul2 HSn.out.2.2.2 HSm.out.2.1); omega)).mono ?_
  rintro e w24 ⟨⟨vx, rfl, hr⟩, j24c⟩
  obtain ⟨g24a, A24a, k24a, c24a, rfl, hr⟩ := hr.open
  have HR24 := Lib.hid hr
  clear hr
  go_wp2_with fail
  refine (ifold2 _ (n1 * m3 + n3 * m1) _ HR24.out (by have := (dl_add2 (K := Ks + Ls + 0) (Nat.le_trans (dl_mul2 HSn.out.2.1 HSm.out.2.2.2) (by omega)) (Nat.le_trans (dl_mul2 HSn.out.2.2.2 HSm.out.2.1) (by omega))); omega)).mono ?_
  rintro e w25 ⟨⟨vx, rfl, hr⟩, j25c⟩
  obtain ⟨g25a, A25a, k25a, c25a, rfl, hr⟩ := hr.open
  have HR25 := Lib.hid hr
  clear hr
  go_wp2_with fail
  replace HR21 := kV j25c (kV j24c (kV j23c (kV j22c HR21)))
  refine (iplus_any _ _ (n0 * m2 + n2 * m0) ((n1 * m3 + n3 * m1) * 2) _ HR21.out HR25.out (by have := (dl_add2 (K := Ks + Ls + 0) (Nat.le_trans (dl_mul2 HSn.out.1 HSm.out.2.2.1) (by omega)) (Nat.le_trans (dl_mul2 HSn.out.2.2.1 HSm.out.1) (by omega))); omega) (by have := (dl_f2 (dl_add2 (K := Ks + Ls + 0) (Nat.le_trans (dl_mul2 HSn.out.2.1 HSm.out.2.2.2) (by omega)) (Nat.le_trans (dl_mul2 HSn.out.2.2.2 HSm.out.2.1) (by omega)))); omega)).mono ?_
  rintro e w26 ⟨⟨vx, rfl, hr⟩, j26c⟩
  obtain ⟨g26a, A26a, k26a, c26a, rfl, hr⟩ := hr.open
  have HR26 := Lib.hid hr
  clear hr
  go_wp2_with fail
  replace HB2 := kB (kB (kB (kB HB2 j23c) j24c) j25c) j26c
  replace HB4 := kB (kB (kB (kB HB4 j23c) j24c) j25c) j26c
  replace HX0 := kV j26c (kV j25c (kV j24c (kV j23c HX0)))
  replace HX1 := kV j26c (kV j25c (kV j24c (kV j23c HX1)))
  refine (prod_03 n0 m3 _ HB2.out HB4.out HX0.out.z0 HX1.out.z3 (by have := HSn.out.1; omega) (by have := HSm.out.2.2.2; omega)).mono ?_
  rintro e w27 ⟨⟨vx, rfl, hr⟩, j27c⟩
  obtain ⟨g27a, A27a, k27a, c27a, rfl, hr⟩ := hr.open
  have HR27 := Lib.hid hr
  clear hr
  go_wp2_with fail
  replace HB2 := kB HB2 j27c
  replace HB4 := kB HB4 j27c
  replace HX0 := kV j27c HX0
  replace HX1 := kV j27c HX1
  refine (prod_30 n3 m0 _ HB2.out HB4.out HX0.out.z3 HX1.out.z0 (by have := HSn.out.2.2.2; omega) (by have := HSm.out.1; omega)).mono ?_
  rintro e w28 ⟨⟨vx, rfl, hr⟩, j28c⟩
  obtain ⟨g28a, A28a, k28a, c28a, rfl, hr⟩ := hr.open
  have HR28 := Lib.hid hr
  clear hr
  go_wp2_with fail
  replace HR27 := kV j28c HR27
  refine (iplus_any _ _ (n0 * m3) (n3 * m0) _ HR27.out HR28.out (by have := (dl_mul2 HSn.out.1 HSm.out.2.2.2); omega) (by have := (dl_mul2 HSn.out.2.2.2 HSm.out.1); omega)).mono ?_
  rintro e w29 ⟨⟨vx, rfl, hr⟩, j29c⟩
  obtain ⟨g29a, A29a, k29a, c29a, rfl, hr⟩ := hr.open
  have HR29 := Lib.hid hr
  clear hr
  go_wp2_with fail
  replace HB2 := kB (kB HB2 j28c) j29c
  replace HB4 := kB (kB HB4 j28c) j29c
  replace HX0 := kV j29c (kV j28c HX0)
  replace HX1 := kV j29c (kV j28c HX1)
  refine (prod_12 n1 m2 _ HB2.out HB4.out HX0.out.z1 HX1.out.z2 (by have := HSn.out.2.1; omega) (by have := HSm.out.2.2.1; omega)).mono ?_
  rintro e w30 ⟨⟨vx, rfl, hr⟩, j30c⟩
  obtain ⟨g30a, A30a, k30a, c30a, rfl, hr⟩ := hr.open
  have HR30 := Lib.hid hr
  clear hr
  go_wp2_with fail
  replace HR29 := kV j30c HR29
  refine (iplus_any _ _ (n0 * m3 + n3 * m0) (n1 * m2) _ HR29.out HR30.out (by have := (dl_add2 (K := Ks + Ls + 0) (Nat.le_trans (dl_mul2 HSn.out.1 HSm.out.2.2.2) (by omega)) (Nat.le_trans (dl_mul2 HSn.out.2.2.2 HSm.out.1) (by omega))); omega) (by have := (dl_mul2 HSn.out.2.1 HSm.out.2.2.1); omega)).mono ?_
  rintro e w31 ⟨⟨vx, rfl, hr⟩, j31c⟩
  obtain ⟨g31a, A31a, k31a, c31a, rfl, hr⟩ := hr.open
  have HR31 := Lib.hid hr
  clear hr
  go_wp2_with fail
  replace HB2 := kB (kB HB2 j30c) j31c
  replace HB4 := kB (kB HB4 j30c) j31c
  replace HX0 := kV j31c (kV j30c HX0)
  replace HX1 := kV j31c (kV j30c HX1)
  refine (prod_21 n2 m1 _ HB2.out HB4.out HX0.out.z2 HX1.out.z1 (by have := HSn.out.2.2.1; omega) (by have := HSm.out.2.1; omega)).mono ?_
  rintro e w32 ⟨⟨vx, rfl, hr⟩, j32c⟩
  obtain ⟨g32a, A32a, k32a, c32a, rfl, hr⟩ := hr.open
  have HR32 := Lib.hid hr
  clear hr
  go_wp2_with fail
  replace HR31 := kV j32c HR31
  refine (iplus_any _ _ (n0 * m3 + n3 * m0 + n1 * m2) (n2 * m1) _ HR31.out HR32.out (by have := (dl_add2 (K := Ks + Ls + 1) (Nat.le_trans (dl_add2 (K := Ks + Ls + 0) (Nat.le_trans (dl_mul2 HSn.out.1 HSm.out.2.2.2) (by omega)) (Nat.le_trans (dl_mul2 HSn.out.2.2.2 HSm.out.1) (by omega))) (by omega)) (Nat.le_trans (dl_mul2 HSn.out.2.1 HSm.out.2.2.1) (by omega))); omega) (by have := (dl_mul2 HSn.out.2.2.1 HSm.out.2.1); omega)).mono ?_
  rintro e w33 ⟨⟨vx, rfl, hr⟩, j33c⟩
  obtain ⟨g33a, A33a, k33a, c33a, rfl, hr⟩ := hr.open
  have HR33 := Lib.hid hr
  clear hr
  replace HB6 := kB (kB (kB (kB (kB (kB (kB (kB (kB (kB (kB (kB (kB (kB (kB (kB (kB (kB (kB (kB (kB (kB (kB (kB (kB (kB (kB (kB (kB (kB (kB (kB (kB HB6 j1c) j2c) j3c) j4c) j5c) j6c) j7c) j8c) j9c) j10c) j11c) j12c) j13c) j14c) j15c) j16c) j17c) j18c) j19c) j20c) j21c) j22c) j23c) j24c) j25c) j26c) j27c) j28c) j29c) j30c) j31c) j32c) j33c
  have c7 := kC HB6 0 rfl
  have c8 := kF HB6 0
  have c9 := kC HB6 1 rfl
  have c10 := kF HB6 1
  have c11 := kC HB6 2 rfl
  have c12 := kF HB6 2
  have c13 := kC HB6 3 rfl
  have c14 := kF HB6 3
  have c15 := kC HB6 4 rfl
  have c16 := kF HB6 4
  have c17 := kC HB6 5 rfl
  have c18 := kF HB6 5
  have c19 := kC HB6 6 rfl
  have c20 := kF HB6 6
  have c21 := kC HB6 7 rfl
  have c22 := kF HB6 7
  obtain ⟨W23, HW23⟩ : ∃ W, Hid (W = ((((((((w33.setCell ⟨w.heap.size + 2, 0, none⟩ (.bool g10a)).setCell ⟨w.heap.size + 2, 1, none⟩ (.slice A10a k10a c10a)).setCell ⟨w.heap.size + 2, 2, none⟩ (.bool g18a)).setCell ⟨w.heap.size + 2, 3, none⟩ (.slice A18a k18a c18a)).setCell ⟨w.heap.size + 2, 4, none⟩ (.bool g26a)).setCell ⟨w.heap.size + 2, 5, none⟩ (.slice A26a k26a c26a)).setCell ⟨w.heap.size + 2, 6, none⟩ (.bool g33a)).setCell ⟨w.heap.size + 2, 7, none⟩ (.slice A33a k33a c33a))) := ⟨_, rfl⟩
  have SW23 : Hid (W23 = setsW w33 (w.heap.size + 2) 0 [.bool g10a, .slice A10a k10a c10a, .bool g18a, .slice A18a k18a c18a, .bool g26a, .slice A26a k26a c26a, .bool g33a, .slice A33a k33a c33a]) := HW23.out
  have TW23 := kN (SW23.out) HB6 rfl rfl
  replace HB6 := kP (ds := [.bool g10a, .slice A10a k10a c10a, .bool g18a, .slice A18a k18a c18a, .bool g26a, .slice A26a k26a c26a, .bool g33a, .slice A33a k33a c33a]) (SW23.out) HB6 rfl rfl
  go_wp2_with fail
  rw [← HW23.out]
  clear c7 c8 c9 c10 c11 c12 c13 c14 c15 c16 c17 c18 c19 c20 c21 c22
  have c24 := kC HB6 0 rfl
  have c25 := kC HB6 1 rfl
  have c26 := kC HB6 2 rfl
  have c27 := kC HB6 3 rfl
  have c28 := kC HB6 4 rfl
  have c29 := kC HB6 5 rfl
  have c30 := kC HB6 6 rfl
  have c31 := kC HB6 7 rfl
  replace HR10 := kW TW23 (kV j33c (kV j32c (kV j31c (kV j30c (kV j29c (kV j28c (kV j27c (kV j26c (kV j25c (kV j24c (kV j23c (kV j22c (kV j21c (kV j20c (kV j19c (kV j18c (kV j17c (kV j16c (kV j15c (kV j14c (kV j13c (kV j12c (kV j11c HR10)))))))))))))))))))))))
  replace HR18 := kW TW23 (kV j33c (kV j32c (kV j31c (kV j30c (kV j29c (kV j28c (kV j27c (kV j26c (kV j25c (kV j24c (kV j23c (kV j22c (kV j21c (kV j20c (kV j19c HR18)))))))))))))))
  replace HR26 := kW TW23 (kV j33c (kV j32c (kV j31c (kV j30c (kV j29c (kV j28c (kV j27c HR26)))))))
  replace HR33 := kW TW23 HR33
  replace HBw := kS (SW23.out) HLE_B6 (kU (kU (kU (kU (kU (kU (kU (kU (kU (kU (kU (kU (kU (kU (kU (kU (kU (kU (kU (kU (kU (kU (kU (kU (kU (kU (kU (kU (kU (kU (kU (kU (kU (kU (kU HBw j2) j3) j1c) j2c) j3c) j4c) j5c) j6c) j7c) j8c) j9c) j10c) j11c) j12c) j13c) j14c) j15c) j16c) j17c) j18c) j19c) j20c) j21c) j22c) j23c) j24c) j25c) j26c) j27c) j28c) j29c) j30c) j31c) j32c) j33c)
  exact bodyPost_ret (v := .agg #[.bool g10a, .slice A10a k10a c10a, .bool g18a, .slice A18a k18a c18a, .bool g26a, .slice A26a k26a c26a, .bool g33a, .slice A33a k33a c33a]) (by simp [results, Tryz.results206, go_sem, c24, c25, c26, c27, c28, c29, c30, c31]) rfl ⟨⟨_, rfl, (RdA.mk HR10.out HR18.out HR26.out HR33.out)⟩, HBw.out⟩
theorem prod_sizes (n0 n1 n2 n3 m0 m1 m2 m3 : Int) (Ks Ls : Nat) (hn : (dl n0.natAbs ≤ Ks ∧ dl n1.natAbs ≤ Ks ∧ dl n2.natAbs ≤ Ks ∧ dl n3.natAbs ≤ Ks)) (hm : (dl m0.natAbs ≤ Ls ∧ dl m1.natAbs ≤ Ls ∧ dl m2.natAbs ≤ Ls ∧ dl m3.natAbs ≤ Ls)) : dl (n0 * m0 + n1 * m1 * 2 + n2 * m2 * 3 + n3 * m3 * 6).natAbs ≤ Ks + Ls + 4 ∧ dl (n0 * m1 + n1 * m0 + (n2 * m3 + n3 * m2) * 3).natAbs ≤ Ks + Ls + 4 ∧ dl (n0 * m2 + n2 * m0 + (n1 * m3 + n3 * m1) * 2).natAbs ≤ Ks + Ls + 4 ∧ dl (n0 * m3 + n3 * m0 + n1 * m2 + n2 * m1).natAbs ≤ Ks + Ls + 4 :=
  ⟨by have := (dl_add2 (K := Ks + Ls + 3) (Nat.le_trans (dl_add2 (K := Ks + Ls + 2) (Nat.le_trans (dl_add2 (K := Ks + Ls + 1) (Nat.le_trans (dl_mul2 hn.1 hm.1) (by omega)) (Nat.le_trans (dl_f2 (dl_mul2 hn.2.1 hm.2.1)) (by omega))) (by omega)) (Nat.le_trans (dl_f3 (dl_mul2 hn.2.2.1 hm.2.2.1)) (by omega))) (by omega)) (Nat.le_trans (dl_f6 (dl_mul2 hn.2.2.2 hm.2.2.2)) (by omega))); omega, by have := (dl_add2 (K := Ks + Ls + 2) (Nat.le_trans (dl_add2 (K := Ks + Ls + 0) (Nat.le_trans (dl_mul2 hn.1 hm.2.1) (by omega)) (Nat.le_trans (dl_mul2 hn.2.1 hm.1) (by omega))) (by omega)) (Nat.le_trans (dl_f3 (dl_add2 (K := Ks + Ls + 0) (Nat.le_trans (dl_mul2 hn.2.2.1 hm.2.2.2) (by omega)) (Nat.le_trans (dl_mul2 hn.2.2.2 hm.2.2.1) (by omega)))) (by omega))); omega, by have := (dl_add2 (K := Ks + Ls + 2) (Nat.le_trans (dl_add2 (K := Ks + Ls + 0) (Nat.le_trans (dl_mul2 hn.1 hm.2.2.1) (by omega)) (Nat.le_trans (dl_mul2 hn.2.2.1 hm.1) (by omega))) (by omega)) (Nat.le_trans (dl_f2 (dl_add2 (K := Ks + Ls + 0) (Nat.le_trans (dl_mul2 hn.2.1 hm.2.2.2) (by omega)) (Nat.le_trans (dl_mul2 hn.2.2.2 hm.2.1) (by omega)))) (by omega))); omega, by have := (dl_add2 (K := Ks + Ls + 2) (Nat.le_trans (dl_add2 (K := Ks + Ls + 1) (Nat.le_trans (dl_add2 (K := Ks + Ls + 0) (Nat.le_trans (dl_mul2 hn.1 hm.2.2.2) (by omega)) (Nat.le_trans (dl_mul2 hn.2.2.2 hm.1) (by omega))) (by omega)) (Nat.le_trans (dl_mul2 hn.2.1 hm.2.2.1) (by omega))) (by omega)) (Nat.le_trans (dl_mul2 hn.2.2.1 hm.2.1) (by omega))); omega⟩
theorem smulS_any (v u : Value) (x y : S4) (Ks Ls : Nat) (w : World) (hv : RdS w v x Ks) (hu : RdS w u y Ls) (hK : Ks ≤ 100000) (hL : Ls ≤ 100000) :
    Calls Tryz.prog 131 #[v, u] w fun e w' => (∃ v', e = .returned v' ∧ RdS w' v' (x.mul y) (Ks + Ls + 4)) ∧ Below w.heap.size w w' := by
  obtain ⟨n0, n1, n2, n3, d, hv, hxx⟩ := hv
  have HSx := Lib.hid hxx
  clear hxx
  obtain ⟨m0, m1, m2, m3, e, hu, hxy⟩ := hu
  have HSy := Lib.hid hxy
  clear hxy
  have HMU := Lib.hid (let hs := prod_sizes n0 n1 n2 n3 m0 m1 m2 m3 Ks Ls HSx.out.2.2.1 HSy.out.2.2.1; HSx.out.mul HSy.out hs.1 hs.2.1 hs.2.2.1 hs.2.2.2)
  obtain ⟨gp0a, Ap0a, kp0a, cp0a, gp0b, Ap0b, kp0b, cp0b, gp0c, Ap0c, kp0c, cp0c, gp0d, Ap0d, kp0d, cp0d, Ap0e, kp0e, cp0e, rfl, hv⟩ := hv.open
  have HX0 := Lib.hid hv
  clear hv
  obtain ⟨gp1a, Ap1a, kp1a, cp1a, gp1b, Ap1b, kp1b, cp1b, gp1c, Ap1c, kp1c, cp1c, gp1d, Ap1d, kp1d, cp1d, Ap1e, kp1e, cp1e, rfl, hu⟩ := hu.open
  have HX1 := Lib.hid hu
  clear hu
  go_enter Tryz.func131, Tryz.ntmps131
  obtain ⟨W1, HW1, HB2, HSZ_W1, j1⟩ := st_al0 w #[.bool gp0a, .slice Ap0a kp0a cp0a, .bool gp0b, .slice Ap0b kp0b cp0b, .bool gp0c, .slice Ap0c kp0c cp0c, .bool gp0d, .slice Ap0d kp0d cp0d, .slice Ap0e kp0e cp0e] 30
  have HBw := Lib.hid j1
  obtain ⟨W3, HW3, HB4, HSZ_W3, j2⟩ := st_alk 1 2 #[.bool gp1a, .slice Ap1a kp1a cp1a, .bool gp1b, .slice Ap1b kp1b cp1b, .bool gp1c, .slice Ap1c kp1c cp1c, .bool gp1d, .slice Ap1d kp1d cp1d, .slice Ap1e kp1e cp1e] 30 HSZ_W1 rfl
  obtain ⟨W5, HW5, HB6, HSZ_W5, j3⟩ := st_alk 2 3 #[.bool false, .slice none 0 0, .bool false, .slice none 0 0, .bool false, .slice none 0 0, .bool false, .slice none 0 0, .slice none 0 0] 30 HSZ_W3 rfl
  have HNE_B2_B6 : Hid (w.heap.size ≠ w.heap.size + 2) := by show _ ≠ _; have hlt := blk_lt HB2.out; have := j2.size; have := HSZ_W3.out; omega
  have HNE_B4_B6 : Hid (w.heap.size + 1 ≠ w.heap.size + 2) := by show _ ≠ _; have hlt := blk_lt HB4.out; have := HSZ_W3.out; omega
  have HLE_B6 : Hid (w.heap.size ≤ w.heap.size + 2) := by show _ ≤ _; have hlt := HBw.out.size; have := j2.size; have := HSZ_W3.out; omega
  go_wp2_with fail
  rw [← HW1.out, ← HW3.out, ← HW5.out]
  obtain ⟨W7, hW7⟩ : ∃ W, W = W5.drew := ⟨_, rfl⟩
  have j4 : Below W5.heap.size W5 W7 := by rw [hW7]; exact (Below.refl _ _).drew
  replace HB2 := kB (kB (kB HB2 j2) j3) j4
  replace HB4 := kB (kB HB4 j3) j4
  refine seq_start (S := fun w' => w'.cell? ⟨w.heap.size, 0, none⟩ = some (.bool gp0a) ∧ w'.cell? ⟨w.heap.size, 1, none⟩ = some (.slice Ap0a kp0a cp0a) ∧ w'.cell? ⟨w.heap.size, 2, none⟩ = some (.bool gp0b) ∧ w'.cell? ⟨w.heap.size, 3, none⟩ = some (.slice Ap0b kp0b cp0b) ∧ w'.cell? ⟨w.heap.size, 4, none⟩ = some (.bool gp0c) ∧ w'.cell? ⟨w.heap.size, 5, none⟩ = some (.slice Ap0c kp0c cp0c) ∧ w'.cell? ⟨w.heap.size, 6, none⟩ = some (.bool gp0d) ∧ w'.cell? ⟨w.heap.size, 7, none⟩ = some (.slice Ap0d kp0d cp0d) ∧ w'.cell? ⟨w.heap.size + 1, 0, none⟩ = some (.bool gp1a) ∧ w'.cell? ⟨w.heap.size + 1, 1, none⟩ = some (.slice Ap1a kp1a cp1a) ∧ w'.cell? ⟨w.heap.size + 1, 2, none⟩ = some (.bool gp1b) ∧ w'.cell? ⟨w.heap.size + 1, 3, none⟩ = some (.slice Ap1b kp1b cp1b) ∧ w'.cell? ⟨w.heap.size + 1, 4, none⟩ = some (.bool gp1c) ∧ w'.cell? ⟨w.heap.size + 1, 5, none⟩ = some (.slice Ap1c kp1c cp1c) ∧ w'.cell? ⟨w.heap.size + 1, 6, none⟩ = some (.bool gp1d) ∧ w'.cell? ⟨w.heap.size + 1, 7, none⟩ = some (.slice Ap1d kp1d cp1d) ∧ w'.cell? ⟨w.heap.size, 8, none⟩ = some (.slice Ap0e kp0e cp0e) ∧ w'.cell? ⟨w.heap.size + 1, 8, none⟩ = some (.slice Ap1e kp1e cp1e)) (by kernel_rfl) (by kernel_rfl) (by rw [← hW7]; exact ⟨kD HB2 0, kD HB2 1, kD HB2 2, kD HB2 3, kD HB2 4, kD HB2 5, kD HB2 6, kD HB2 7, kD HB4 0, kD HB4 1, kD HB4 2, kD HB4 3, kD HB4 4, kD HB4 5, kD HB4 6, kD HB4 7, kD HB2 8, kD HB4 8⟩) ?_
  rw [← hW7]
  clear hW7
  iterate 4 refine tk0 (h := ?_)
  iterate 2 (refine plq 1 (h := ?_); refine tk0 (h := ?_))
  iterate 2 (refine plq 2 (h := ?_); refine tk0 (h := ?_))
  refine sop (h := fun K9 hK9 => ?_)
  go_simp
  replace HX0 := kV j4 (kV j3 (kV j2 (kV j1 HX0)))
  replace HX1 := kV j4 (kV j3 (kV j2 (kV j1 HX1)))
  refine (product_any _ _ n0 n1 n2 n3 m0 m1 m2 m3 Ks Ls _ HX0.out.arr HX1.out.arr HSx.out.2.2.1 HSy.out.2.2.1 hK hL).mono ?_
  rintro e w1 ⟨⟨vx, rfl, hr⟩, j1c⟩
  obtain ⟨g1a, A1a, k1a, c1a, g1b, A1b, k1b, c1b, g1c, A1c, k1c, c1c, g1d, A1d, k1d, c1d, rfl, hr⟩ := hr.open
  have HR1 := Lib.hid hr
  clear hr
  replace HB2 := kB HB2 j1c
  replace HB4 := kB HB4 j1c
  refine ckk hK9 (by exact ⟨kD HB2 0, kD HB2 1, kD HB2 2, kD HB2 3, kD HB2 4, kD HB2 5, kD HB2 6, kD HB2 7, kD HB4 0, kD HB4 1, kD HB4 2, kD HB4 3, kD HB4 4, kD HB4 5, kD HB4 6, kD HB4 7, kD HB2 8, kD HB4 8⟩) (h := ?_)
  clear hK9 K9
  refine sop (h := fun K9 hK9 => ?_)
  go_simp
  replace HX0 := kV j1c HX0
  refine (under_any _ d _ HSx.out.1 HX0.out.den).mono ?_
  rintro e w2 ⟨⟨vx, rfl, hr⟩, j2c⟩
  obtain ⟨A2, k2, c2, rfl, hr⟩ := hr.open
  have HR2 := Lib.hid hr
  clear hr
  replace HB2 := kB HB2 j2c
  replace HB4 := kB HB4 j2c
  refine ckk hK9 (by exact ⟨kD HB2 0, kD HB2 1, kD HB2 2, kD HB2 3, kD HB2 4, kD HB2 5, kD HB2 6, kD HB2 7, kD HB4 0, kD HB4 1, kD HB4 2, kD HB4 3, kD HB4 4, kD HB4 5, kD HB4 6, kD HB4 7, kD HB2 8, kD HB4 8⟩) (h := ?_)
  clear hK9 K9
  refine sop (h := fun K9 hK9 => ?_)
  go_simp
  replace HX1 := kV j2c (kV j1c HX1)
  refine (under_any _ e _ HSy.out.1 HX1.out.den).mono ?_
  rintro e w3 ⟨⟨vx, rfl, hr⟩, j3c⟩
  obtain ⟨A3, k3, c3, rfl, hr⟩ := hr.open
  have HR3 := Lib.hid hr
  clear hr
  replace HB2 := kB HB2 j3c
  replace HB4 := kB HB4 j3c
  refine ckk hK9 (by exact ⟨kD HB2 0, kD HB2 1, kD HB2 2, kD HB2 3, kD HB2 4, kD HB2 5, kD HB2 6, kD HB2 7, kD HB4 0, kD HB4 1, kD HB4 2, kD HB4 3, kD HB4 4, kD HB4 5, kD HB4 6, kD HB4 7, kD HB2 8, kD HB4 8⟩) (h := ?_)
  clear hK9 K9
  refine sop (h := fun K9 hK9 => ?_)
  go_simp
  replace HR2 := kV j3c HR2
  refine (times_any _ _ d e _ HR2.out HR3.out (by have := HSx.out.2.2.2; omega) (by have := HSy.out.2.2.2; omega)).mono ?_
  rintro e w4 ⟨⟨vx, rfl, hr⟩, j4c⟩
  obtain ⟨A4, k4, c4, rfl, hr⟩ := hr.open
  have HR4 := Lib.hid hr
  clear hr
  replace HB2 := kB HB2 j4c
  replace HB4 := kB HB4 j4c
  refine ckk hK9 (by exact ⟨kD HB2 0, kD HB2 1, kD HB2 2, kD HB2 3, kD HB2 4, kD HB2 5, kD HB2 6, kD HB2 7, kD HB4 0, kD HB4 1, kD HB4 2, kD HB4 3, kD HB4 4, kD HB4 5, kD HB4 6, kD HB4 7, kD HB2 8, kD HB4 8⟩) (h := ?_)
  clear hK9 K9
  refine sop (h := fun K9 hK9 => ?_)
  go_simp
  replace HR1 := kV j4c (kV j3c (kV j2c HR1))
  refine (surd_any _ _ (x.mul y) _ _ _ _ _ (Ks + Ls + 4) _ HR1.out HR4.out HMU.out (by omega)).mono ?_
  rintro e w5 ⟨⟨vx, rfl, hr⟩, j5c⟩
  obtain ⟨g5a, A5a, k5a, c5a, g5b, A5b, k5b, c5b, g5c, A5c, k5c, c5c, g5d, A5d, k5d, c5d, A5e, k5e, c5e, rfl, hr⟩ := hr.open
  have HR5 := Lib.hid hr
  clear hr
  replace HB2 := kB HB2 j5c
  replace HB4 := kB HB4 j5c
  refine ckk hK9 (by exact ⟨kD HB2 0, kD HB2 1, kD HB2 2, kD HB2 3, kD HB2 4, kD HB2 5, kD HB2 6, kD HB2 7, kD HB4 0, kD HB4 1, kD HB4 2, kD HB4 3, kD HB4 4, kD HB4 5, kD HB4 6, kD HB4 7, kD HB2 8, kD HB4 8⟩) (h := ?_)
  clear hK9 K9
  refine sop (h := fun K9 hK9 => ?_)
  replace HB6 := kB (kB (kB (kB (kB (kB HB6 j4) j1c) j2c) j3c) j4c) j5c
  have c8 := kC HB6 0 rfl
  have c9 := kF HB6 0
  have c10 := kC HB6 1 rfl
  have c11 := kF HB6 1
  have c12 := kC HB6 2 rfl
  have c13 := kF HB6 2
  have c14 := kC HB6 3 rfl
  have c15 := kF HB6 3
  have c16 := kC HB6 4 rfl
  have c17 := kF HB6 4
  have c18 := kC HB6 5 rfl
  have c19 := kF HB6 5
  have c20 := kC HB6 6 rfl
  have c21 := kF HB6 6
  have c22 := kC HB6 7 rfl
  have c23 := kF HB6 7
  have c24 := kC HB6 8 rfl
  have c25 := kF HB6 8
  go_simp
  obtain ⟨W26, HW26⟩ : ∃ W, Hid (W = (((((((((w5.setCell ⟨w.heap.size + 2, 0, none⟩ (.bool g5a)).setCell ⟨w.heap.size + 2, 1, none⟩ (.slice A5a k5a c5a)).setCell ⟨w.heap.size + 2, 2, none⟩ (.bool g5b)).setCell ⟨w.heap.size + 2, 3, none⟩ (.slice A5b k5b c5b)).setCell ⟨w.heap.size + 2, 4, none⟩ (.bool g5c)).setCell ⟨w.heap.size + 2, 5, none⟩ (.slice A5c k5c c5c)).setCell ⟨w.heap.size + 2, 6, none⟩ (.bool g5d)).setCell ⟨w.heap.size + 2, 7, none⟩ (.slice A5d k5d c5d)).setCell ⟨w.heap.size + 2, 8, none⟩ (.slice A5e k5e c5e))) := ⟨_, rfl⟩
  have SW26 : Hid (W26 = setsW w5 (w.heap.size + 2) 0 [.bool g5a, .slice A5a k5a c5a, .bool g5b, .slice A5b k5b c5b, .bool g5c, .slice A5c k5c c5c, .bool g5d, .slice A5d k5d c5d, .slice A5e k5e c5e]) := HW26.out
  have TW26 := kN (SW26.out) HB6 rfl rfl
  replace HB6 := kP (ds := [.bool g5a, .slice A5a k5a c5a, .bool g5b, .slice A5b k5b c5b, .bool g5c, .slice A5c k5c c5c, .bool g5d, .slice A5d k5d c5d, .slice A5e k5e c5e]) (SW26.out) HB6 rfl rfl
  rw [← HW26.out]
  replace HB2 := kO (SW26.out) HB2 HNE_B2_B6.out
  replace HB4 := kO (SW26.out) HB4 HNE_B4_B6.out
  refine ckk hK9 (by exact ⟨kD HB2 0, kD HB2 1, kD HB2 2, kD HB2 3, kD HB2 4, kD HB2 5, kD HB2 6, kD HB2 7, kD HB4 0, kD HB4 1, kD HB4 2, kD HB4 3, kD HB4 4, kD HB4 5, kD HB4 6, kD HB4 7, kD HB2 8, kD HB4 8⟩) (h := ?_)
  clear hK9 K9 c8 c9 c10 c11 c12 c13 c14 c15 c16 c17 c18 c19 c20 c21 c22 c23 c24 c25
  refine seq_done (by kernel_rfl) ?_
  go_wp2_with fail
  have c27 := kC HB6 0 rfl
  have c28 := kC HB6 1 rfl
  have c29 := kC HB6 2 rfl
  have c30 := kC HB6 3 rfl
  have c31 := kC HB6 4 rfl
  have c32 := kC HB6 5 rfl
  have c33 := kC HB6 6 rfl
  have c34 := kC HB6 7 rfl
  have c35 := kC HB6 8 rfl
  replace HR5 := kW TW26 HR5
  replace HBw := kS (SW26.out) HLE_B6 (kU (kU (kU (kU (kU (kU (kU (kU HBw j2) j3) j4) j1c) j2c) j3c) j4c) j5c)
  exact bodyPost_ret (v := .agg #[.bool g5a, .slice A5a k5a c5a, .bool g5b, .slice A5b k5b c5b, .bool g5c, .slice A5c k5c c5c, .bool g5d, .slice A5d k5d c5d, .slice A5e k5e c5e]) (by simp [results, Tryz.results131, go_sem, c27, c28, c29, c30, c31, c32, c33, c34, c35]) rfl ⟨⟨_, rfl, HR5.out⟩, HBw.out⟩
end Go.Proofs.YtodckaioeomccaaGreat
