/- Walks of cuts: Angle. -/
import Derived.Test.YtodckaioeomccaaGreatPart33
namespace Go.Proofs.YtodckaioeomccaaGreat
open Go.RowKit
set_option linter.unusedVariables false
set_option linter.unusedSimpArgs false
set_option maxRecDepth 100000
set_option maxHeartbeats 4000000
/-- Two results in cells, then one in a slot. -/
theorem results_cct {P : Program} {fn : Func} {t u v b c : Nat} {ty ty' : TypeId} {tmps : Array Value} {w : World} {d d' : TypeDesc} {cs ds : List Value} {e : Value} (h : fn.results = #[.cell t ty, .cell u ty', .tmp v])
    (hp : tmps.getD t undef = .pointer (some ⟨b, 0, none⟩)) (hc : w.rangeAt b 0 cs) (hu : P.underlying ty = some d) (hd : d.isRow = true) (hi : (P.info? ty).map (·.size) = some cs.length)
    (hp' : tmps.getD u undef = .pointer (some ⟨c, 0, none⟩)) (hc' : w.rangeAt c 0 ds) (hu' : P.underlying ty' = some d') (hd' : d'.isRow = true) (hi' : (P.info? ty').map (·.size) = some ds.length) (he : tmps.getD v undef = e) :
    (results fn tmps).run P w = .ok (.tuple #[.agg cs.toArray, .agg ds.toArray, e]) w := by
  subst he
  have hl := run_loadVar_mid w b 0 ty cs d hc hu hd hi
  have hl' := run_loadVar_mid w c 0 ty' ds d' hc' hu' hd' hi'
  rw [Array.getD_eq_getD_getElem?] at hp hp'
  simp [results, h, hp, hp', asAddr, hl, hl']
theorem sum_sizes {a b : Nat} {x y : Rat} (h : QS a x) (k : QS b y) : QS (a + b + 1) (x + y) := by
  have hz : x.den * y.den ≠ 0 := Nat.mul_ne_zero x.den_nz y.den_nz
  rw [Rat.add_def' x y]
  obtain ⟨h2, h3⟩ := mk_sizes (z := x.num * y.den + y.num * x.den) hz
  refine ⟨Nat.le_trans (dl_mono h2) ?_, Nat.le_trans (dl_mono h3) ?_⟩
  · have e1 := dl_imul x.num y.den
    have e2 := dl_imul y.num x.den
    have := dl_two (x.num * y.den) (y.num * x.den)
    have := h.1; have := h.2; have := k.1; have := k.2
    omega
  · have := dl_mul x.den y.den; have := h.2; have := k.2; omega
theorem sub_sizes {a b : Nat} {x y : Rat} (h : QS a x) (k : QS b y) : QS (a + b + 1) (x - y) := by rw [Rat.sub_eq_add_neg]; exact sum_sizes h k.neg
theorem sign_is (v : Value) (x : Rat) (s : Int) (w : World) (hv : RdQ w v x) (hs : Int.sign x.num = s) : Calls Tryz.prog 118 #[v] w fun e w' => e = .returned (.int .i64 s) ∧ Below w.heap.size w w' := hs ▸ sign_any v x w hv
theorem cmp_is (v u : Value) (x y : Rat) (s : Int) (w : World) (hv : RdQ w v x) (hu : RdQ w u y) (hx6 : QS 100000 x) (hy6 : QS 100000 y) (hs : Int.sign (x - y).num = s) : Calls Tryz.prog 76 #[v, u] w fun e w' => e = .returned (.int .i64 s) ∧ Below w.heap.size w w' := hs ▸ cmpQ_any v u x y w hv hu hx6 hy6
theorem qs_one : QS 1 (1 : Rat) := ⟨by show dl 1 ≤ 1; rw [dl_one]; exact Nat.le_refl _, by show dl 1 ≤ 1; rw [dl_one]; exact Nat.le_refl _⟩
theorem num_nn (x : Rat) : 0 ≤ x.num ↔ 0 ≤ x := by exact Rat.num_nonneg
theorem num_pos' (x : Rat) : 0 < x.num ↔ 0 < x := by
  have h1 := num_nn x
  have h2 : x.num = 0 ↔ x = 0 := Rat.num_eq_zero
  constructor
  · intro h
    have a := h1.1 (by omega)
    have b : x ≠ 0 := fun e => by have := h2.2 e; omega
    grind
  · intro h
    have a := h1.2 (by grind)
    have b : x.num ≠ 0 := fun e => by have := h2.1 e; grind
    omega
theorem num_neg' (x : Rat) : x.num < 0 ↔ x < 0 := by
  have h1 := num_nn x
  constructor
  · intro h
    have : ¬ 0 ≤ x := fun e => by have := h1.2 e; omega
    grind
  · intro h
    refine Int.not_le.1 fun e => ?_
    have := h1.1 e; grind
theorem sq_nn' (x : Rat) : 0 ≤ x * x := by
  rcases Rat.le_total (a := 0) (b := x) with h | h
  · exact Rat.mul_nonneg h h
  · have := Rat.mul_nonneg (a := -x) (b := -x) (by grind) (by grind); grind
theorem num_sign (x : Rat) : (Int.sign x.num = 1 ↔ 0 < x) ∧ (Int.sign x.num = 0 ↔ x = 0) ∧ (Int.sign x.num = -1 ↔ x < 0) := by
  refine ⟨?_, ?_, ?_⟩
  · rw [Int.sign_eq_one_iff_pos, num_pos']
  · rw [Int.sign_eq_zero_iff_zero, Rat.num_eq_zero]
  · rw [Int.sign_eq_neg_one_iff_neg, num_neg']
theorem angle_pn (v : Value) (h : Rat) (w : World) (hv : RdQ w v h) (hq : QS 10000 h) (hs : Int.sign h.num = 1) (hc : Int.sign (h - 1).num = (-1)) :
    Calls Tryz.prog 37 #[v] w fun e w' => (∃ v1 v2, e = .returned (.tuple #[v1, v2, .int .i64 0]) ∧ RdQ w' v1 ((1 - h * h) / (1 + h * h)) ∧ RdQ w' v2 ((h + h) / (1 + h * h))) ∧ Below w.heap.size w w' := by
  have HQ := Lib.hid hq
  have HS := Lib.hid hs
  have HC := Lib.hid hc
  have HSQ := Lib.hid (hq.mul hq)
  have HNZ : Hid (1 + h * h ≠ 0) := by show _ ≠ _; have := sq_nn' h; grind
  clear hq hs hc
  obtain ⟨gp0a, Ap0a, kp0a, cp0a, Ap0b, kp0b, cp0b, rfl, hv⟩ := hv.open
  have HX0 := Lib.hid hv
  clear hv
  go_enter Tryz.func37, Tryz.ntmps37
  obtain ⟨W1, HW1, HB2, HSZ_W1, j1⟩ := st_al0 w #[.bool gp0a, .slice Ap0a kp0a cp0a, .slice Ap0b kp0b cp0b] 32
  have HBw := Lib.hid j1
  obtain ⟨W3, HW3, HB4, HSZ_W3, j2⟩ := st_alk 1 2 #[.bool false, .slice none 0 0, .slice none 0 0] 32 HSZ_W1 rfl
  have HNE_B2_B4 : Hid (w.heap.size ≠ w.heap.size + 1) := by show _ ≠ _; have hlt := blk_lt HB2.out; have := HSZ_W1.out; omega
  have HLE_B4 : Hid (w.heap.size ≤ w.heap.size + 1) := by show _ ≤ _; have hlt := HBw.out.size; have := HSZ_W1.out; omega
  obtain ⟨W5, HW5, HB6, HSZ_W5, j3⟩ := st_alk 2 3 #[.bool false, .slice none 0 0, .slice none 0 0] 32 HSZ_W3 rfl
  have HNE_B2_B6 : Hid (w.heap.size ≠ w.heap.size + 2) := by show _ ≠ _; have hlt := blk_lt HB2.out; have := j2.size; have := HSZ_W3.out; omega
  have HNE_B4_B6 : Hid (w.heap.size + 1 ≠ w.heap.size + 2) := by show _ ≠ _; have hlt := blk_lt HB4.out; have := HSZ_W3.out; omega
  have HLE_B6 : Hid (w.heap.size ≤ w.heap.size + 2) := by show _ ≤ _; have hlt := HBw.out.size; have := j2.size; have := HSZ_W3.out; omega
  go_wp2_with fail
  rw [← HW1.out, ← HW3.out, ← HW5.out]
  obtain ⟨W7, hW7⟩ : ∃ W, W = W5.drew := ⟨_, rfl⟩
  have j4 : Below W5.heap.size W5 W7 := by rw [hW7]; exact (Below.refl _ _).drew
  replace HB2 := kB (kB (kB HB2 j2) j3) j4
  refine seq_start (S := fun w' => w'.cell? ⟨w.heap.size, 0, none⟩ = some (.bool gp0a) ∧ w'.cell? ⟨w.heap.size, 1, none⟩ = some (.slice Ap0a kp0a cp0a) ∧ w'.cell? ⟨w.heap.size, 2, none⟩ = some (.slice Ap0b kp0b cp0b)) (by kernel_rfl) (by kernel_rfl) (by rw [← hW7]; exact ⟨kD HB2 0, kD HB2 1, kD HB2 2⟩) ?_
  rw [← hW7]
  clear hW7
  refine tk0 (h := ?_)
  refine sop (h := fun K9 hK9 => ?_)
  go_simp
  replace HX0 := kV j4 (kV j3 (kV j2 (kV j1 HX0)))
  refine (sign_is _ h 1 _ HX0.out HS.out).mono ?_
  rintro e w1 ⟨rfl, j1c⟩
  replace HB2 := kB HB2 j1c
  refine ckk hK9 (by exact ⟨kD HB2 0, kD HB2 1, kD HB2 2⟩) (h := ?_)
  clear hK9 K9
  iterate 2 refine tk0 (h := ?_)
  refine tkG (h := ?_)
  refine sop (h := fun K9 hK9 => ?_)
  go_simp
  refine (one_any _).mono ?_
  rintro e w2 ⟨⟨vx, rfl, hr⟩, j2c⟩
  obtain ⟨g2a, A2a, k2a, c2a, A2b, k2b, c2b, rfl, hr⟩ := hr.open
  have HR2 := Lib.hid hr
  clear hr
  replace HB2 := kB HB2 j2c
  refine ckk hK9 (by exact ⟨kD HB2 0, kD HB2 1, kD HB2 2⟩) (h := ?_)
  clear hK9 K9
  refine sop (h := fun K9 hK9 => ?_)
  go_simp
  replace HX0 := kV j2c (kV j1c HX0)
  refine (cmp_is _ _ h 1 (-1) _ HX0.out HR2.out (HQ.out.up (by omega)) (qs_one.up (by omega)) HC.out).mono ?_
  rintro e w3 ⟨rfl, j3c⟩
  replace HB2 := kB HB2 j3c
  refine ckk hK9 (by exact ⟨kD HB2 0, kD HB2 1, kD HB2 2⟩) (h := ?_)
  clear hK9 K9
  refine tkG (h := ?_)
  refine tk0 (h := ?_)
  refine seq_done (by kernel_rfl) ?_
  have c8 := kC HB2 0 rfl
  have c9 := kC HB2 1 rfl
  have c10 := kC HB2 2 rfl
  have c11 := kC HB2 0 rfl
  have c12 := kC HB2 1 rfl
  have c13 := kC HB2 2 rfl
  go_wp2_with fail
  clear c8 c9 c10 c11 c12 c13
  replace HX0 := kV j3c HX0
  refine (mul_any _ _ h h _ HX0.out HX0.out (HQ.out.up (by omega)) (HQ.out.up (by omega))).mono ?_
  rintro e w4 ⟨⟨vx, rfl, hr⟩, j4c⟩
  obtain ⟨g4a, A4a, k4a, c4a, A4b, k4b, c4b, rfl, hr⟩ := hr.open
  have HR4 := Lib.hid hr
  clear hr
  obtain ⟨W14, HW14, HB15, HSZ_W14, j5⟩ := st_al0 w4 #[.bool g4a, .slice A4a k4a c4a, .slice A4b k4b c4b] 32
  have HNE_B4_B15 : Hid (w.heap.size + 1 ≠ w4.heap.size) := by show _ ≠ _; have hlt := blk_lt HB4.out; have := j3.size; have := j4.size; have := j1c.size; have := j2c.size; have := j3c.size; have := j4c.size; omega
  have HNE_B6_B15 : Hid (w.heap.size + 2 ≠ w4.heap.size) := by show _ ≠ _; have hlt := blk_lt HB6.out; have := j4.size; have := j1c.size; have := j2c.size; have := j3c.size; have := j4c.size; omega
  go_wp2_with fail
  rw [← HW14.out]
  obtain ⟨W16, hW16⟩ : ∃ W, W = W14.drew := ⟨_, rfl⟩
  have j6 : Below W14.heap.size W14 W16 := by rw [hW16]; exact (Below.refl _ _).drew
  replace HB15 := kB HB15 j6
  refine seq_start (S := fun w' => w'.cell? ⟨w4.heap.size, 0, none⟩ = some (.bool g4a) ∧ w'.cell? ⟨w4.heap.size, 1, none⟩ = some (.slice A4a k4a c4a) ∧ w'.cell? ⟨w4.heap.size, 2, none⟩ = some (.slice A4b k4b c4b)) (by kernel_rfl) (by kernel_rfl) (by rw [← hW16]; exact ⟨kD HB15 0, kD HB15 1, kD HB15 2⟩) ?_
  rw [← hW16]
  clear hW16
  refine plq 1 (h := ?_)
  refine tk0 (h := ?_)
  refine plq 2 (h := ?_)
  refine plq 1 (h := ?_)
  refine seq_both ?_ ?_ ?_ ?_ ?_
  · kernel_rfl
  · rfl
  · rfl
  · intro K9 hK9
    go_simp
    refine (one_any _).mono ?_
    rintro e w5 ⟨⟨vx, rfl, hr⟩, j5c⟩
    obtain ⟨g5a, A5a, k5a, c5a, A5b, k5b, c5b, rfl, hr⟩ := hr.open
    have HR5 := Lib.hid hr
    clear hr
    replace HB15 := kB HB15 j5c
    refine ckk hK9 (by exact ⟨kD HB15 0, kD HB15 1, kD HB15 2⟩) (h := ?_)
    clear hK9 K9
    refine plq 1 (h := ?_)
    refine plq 1 (h := ?_)
    refine seq_both ?_ ?_ ?_ ?_ ?_
    · kernel_rfl
    · rfl
    · rfl
    · intro K9 hK9
      go_simp
      obtain ⟨W17, HW17, HB18, HSZ_W17, j7⟩ := st_al0 w5 #[.bool false, .slice none 0 0, .slice none 0 0] 32
      have HNE_B2_B18 : Hid (w.heap.size ≠ w5.heap.size) := by show _ ≠ _; have hlt := blk_lt HB2.out; have := j4c.size; have := j5.size; have := j6.size; have := j5c.size; omega
      have HNE_B4_B18 : Hid (w.heap.size + 1 ≠ w5.heap.size) := by show _ ≠ _; have hlt := blk_lt HB4.out; have := j3.size; have := j4.size; have := j1c.size; have := j2c.size; have := j3c.size; have := j4c.size; have := j5.size; have := j6.size; have := j5c.size; omega
      have HNE_B6_B18 : Hid (w.heap.size + 2 ≠ w5.heap.size) := by show _ ≠ _; have hlt := blk_lt HB6.out; have := j4.size; have := j1c.size; have := j2c.size; have := j3c.size; have := j4c.size; have := j5.size; have := j6.size; have := j5c.size; omega
      have HNE_B15_B18 : Hid (w4.heap.size ≠ w5.heap.size) := by show _ ≠ _; have hlt := blk_lt HB15.out; omega
      have HLE_B18 : Hid (w.heap.size ≤ w5.heap.size) := by show _ ≤ _; have hlt := HBw.out.size; have := j2.size; have := j3.size; have := j4.size; have := j1c.size; have := j2c.size; have := j3c.size; have := j4c.size; have := j5.size; have := j6.size; have := j5c.size; omega
      rw [← HW17.out]
      replace HB15 := kB HB15 j7
      refine ckk hK9 (by exact ⟨kD HB15 0, kD HB15 1, kD HB15 2⟩) (h := ?_)
      clear hK9 K9
      refine sop (h := fun K9 hK9 => ?_)
      go_simp
      replace HR5 := kV j7 HR5
      replace HR4 := kV j7 (kV j5c (kV j6 (kV j5 HR4)))
      refine (add_any _ _ 1 (h * h) _ HR5.out HR4.out (qs_one.up (by omega)) (HSQ.out.up (by omega))).mono ?_
      rintro e w6 ⟨⟨vx, rfl, hr⟩, j6c⟩
      obtain ⟨g6a, A6a, k6a, c6a, A6b, k6b, c6b, rfl, hr⟩ := hr.open
      have HR6 := Lib.hid hr
      clear hr
      replace HB15 := kB HB15 j6c
      refine ckk hK9 (by exact ⟨kD HB15 0, kD HB15 1, kD HB15 2⟩) (h := ?_)
      clear hK9 K9
      refine sop (h := fun K9 hK9 => ?_)
      replace HB18 := kB HB18 j6c
      have HTH19 : Hid (w6.there (w5.heap.size) 0 3) := blk_there HB18.out (Nat.le_of_ble_eq_true rfl)
      refine wp_store_mid 32 _ _ (by rfl) (w5.heap.size) 0 _ (by rfl) (by rfl) (by exact HTH19.out) (by kernel_rfl) (by kernel_rfl) ?_
      obtain ⟨W20, HW20⟩ : ∃ W, Hid (W = w6.setCells (w5.heap.size) 0 [.bool g6a, .slice A6a k6a c6a, .slice A6b k6b c6b]) := ⟨_, rfl⟩
      have TW20 := kN (kM HW20) HB18 rfl rfl
      replace HB18 := kP (ds := [.bool g6a, .slice A6a k6a c6a, .slice A6b k6b c6b]) (kM HW20) HB18 rfl rfl
      rw [← HW20.out]
      replace HB15 := kO (kM HW20) HB15 HNE_B15_B18.out
      refine ckk hK9 (by exact ⟨kD HB15 0, kD HB15 1, kD HB15 2⟩) (h := ?_)
      clear hK9 K9 HTH19
      refine seq_done (by kernel_rfl) ?_
      go_wp2_with fail
      obtain ⟨W21, hW21⟩ : ∃ W, W = W20.drew := ⟨_, rfl⟩
      have j8 : Below W20.heap.size W20 W21 := by rw [hW21]; exact (Below.refl _ _).drew
      replace HB15 := kB HB15 j8
      replace HB18 := kB HB18 j8
      replace HB2 := kB (kO (kM HW20) (kB (kB (kB (kB (kB (kB HB2 j4c) j5) j6) j5c) j7) j6c) HNE_B2_B18.out) j8
      refine seq_start (S := fun w' => w'.cell? ⟨w4.heap.size, 0, none⟩ = some (.bool g4a) ∧ w'.cell? ⟨w4.heap.size, 1, none⟩ = some (.slice A4a k4a c4a) ∧ w'.cell? ⟨w4.heap.size, 2, none⟩ = some (.slice A4b k4b c4b) ∧ w'.cell? ⟨w5.heap.size, 0, none⟩ = some (.bool g6a) ∧ w'.cell? ⟨w5.heap.size, 1, none⟩ = some (.slice A6a k6a c6a) ∧ w'.cell? ⟨w5.heap.size, 2, none⟩ = some (.slice A6b k6b c6b) ∧ w'.cell? ⟨w.heap.size, 0, none⟩ = some (.bool gp0a) ∧ w'.cell? ⟨w.heap.size, 1, none⟩ = some (.slice Ap0a kp0a cp0a) ∧ w'.cell? ⟨w.heap.size, 2, none⟩ = some (.slice Ap0b kp0b cp0b)) (by kernel_rfl) (by kernel_rfl) (by rw [← hW21]; exact ⟨kD HB15 0, kD HB15 1, kD HB15 2, kD HB18 0, kD HB18 1, kD HB18 2, kD HB2 0, kD HB2 1, kD HB2 2⟩) ?_
      rw [← hW21]
      clear hW21
      refine plq 1 (h := ?_)
      refine tk0 (h := ?_)
      refine plq 2 (h := ?_)
      refine tk0 (h := ?_)
      iterate 2 (refine plq 3 (h := ?_); refine tk0 (h := ?_))
      refine plq 4 (h := ?_)
      refine tk0 (h := ?_)
      refine sop (h := fun K9 hK9 => ?_)
      go_simp
      refine (one_any _).mono ?_
      rintro e w7 ⟨⟨vx, rfl, hr⟩, j7c⟩
      obtain ⟨g7a, A7a, k7a, c7a, A7b, k7b, c7b, rfl, hr⟩ := hr.open
      have HR7 := Lib.hid hr
      clear hr
      replace HB15 := kB HB15 j7c
      replace HB18 := kB HB18 j7c
      replace HB2 := kB HB2 j7c
      refine ckk hK9 (by exact ⟨kD HB15 0, kD HB15 1, kD HB15 2, kD HB18 0, kD HB18 1, kD HB18 2, kD HB2 0, kD HB2 1, kD HB2 2⟩) (h := ?_)
      clear hK9 K9
      refine sop (h := fun K9 hK9 => ?_)
      go_simp
      replace HR4 := kV j7c (kV j8 (kW TW20 (kV j6c HR4)))
      refine (sub_any _ _ 1 (h * h) _ HR7.out HR4.out (qs_one.up (by omega)) (HSQ.out.up (by omega))).mono ?_
      rintro e w8 ⟨⟨vx, rfl, hr⟩, j8c⟩
      obtain ⟨g8a, A8a, k8a, c8a, A8b, k8b, c8b, rfl, hr⟩ := hr.open
      have HR8 := Lib.hid hr
      clear hr
      replace HB15 := kB HB15 j8c
      replace HB18 := kB HB18 j8c
      replace HB2 := kB HB2 j8c
      refine ckk hK9 (by exact ⟨kD HB15 0, kD HB15 1, kD HB15 2, kD HB18 0, kD HB18 1, kD HB18 2, kD HB2 0, kD HB2 1, kD HB2 2⟩) (h := ?_)
      clear hK9 K9
      refine sop (h := fun K9 hK9 => ?_)
      go_simp
      replace HR6 := kV j8c (kV j7c (kV j8 (kW TW20 HR6)))
      refine (ratioB_any _ _ (1 - h * h) (1 + h * h) _ HR8.out HR6.out HNZ.out ((sub_sizes qs_one HSQ.out).up (by omega)) ((sum_sizes qs_one HSQ.out).up (by omega))).mono ?_
      rintro e w9 ⟨⟨vx, rfl, hr⟩, j9c⟩
      obtain ⟨g9a, A9a, k9a, c9a, A9b, k9b, c9b, rfl, hr⟩ := hr.open
      have HR9 := Lib.hid hr
      clear hr
      replace HB15 := kB HB15 j9c
      replace HB18 := kB HB18 j9c
      replace HB2 := kB HB2 j9c
      refine ckk hK9 (by exact ⟨kD HB15 0, kD HB15 1, kD HB15 2, kD HB18 0, kD HB18 1, kD HB18 2, kD HB2 0, kD HB2 1, kD HB2 2⟩) (h := ?_)
      clear hK9 K9
      refine sop (h := fun K9 hK9 => ?_)
      go_simp
      replace HX0 := kV j9c (kV j8c (kV j7c (kV j8 (kW TW20 (kV j6c (kV j7 (kV j5c (kV j6 (kV j5 (kV j4c HX0))))))))))
      refine (add_any _ _ h h _ HX0.out HX0.out (HQ.out.up (by omega)) (HQ.out.up (by omega))).mono ?_
      rintro e w10 ⟨⟨vx, rfl, hr⟩, j10c⟩
      obtain ⟨g10a, A10a, k10a, c10a, A10b, k10b, c10b, rfl, hr⟩ := hr.open
      have HR10 := Lib.hid hr
      clear hr
      replace HB15 := kB HB15 j10c
      replace HB18 := kB HB18 j10c
      replace HB2 := kB HB2 j10c
      refine ckk hK9 (by exact ⟨kD HB15 0, kD HB15 1, kD HB15 2, kD HB18 0, kD HB18 1, kD HB18 2, kD HB2 0, kD HB2 1, kD HB2 2⟩) (h := ?_)
      clear hK9 K9
      refine sop (h := fun K9 hK9 => ?_)
      go_simp
      replace HR6 := kV j10c (kV j9c HR6)
      refine (ratioB_any _ _ (h + h) (1 + h * h) _ HR10.out HR6.out HNZ.out ((sum_sizes HQ.out HQ.out).up (by omega)) ((sum_sizes qs_one HSQ.out).up (by omega))).mono ?_
      rintro e w11 ⟨⟨vx, rfl, hr⟩, j11c⟩
      obtain ⟨g11a, A11a, k11a, c11a, A11b, k11b, c11b, rfl, hr⟩ := hr.open
      have HR11 := Lib.hid hr
      clear hr
      replace HB15 := kB HB15 j11c
      replace HB18 := kB HB18 j11c
      replace HB2 := kB HB2 j11c
      refine ckk hK9 (by exact ⟨kD HB15 0, kD HB15 1, kD HB15 2, kD HB18 0, kD HB18 1, kD HB18 2, kD HB2 0, kD HB2 1, kD HB2 2⟩) (h := ?_)
      clear hK9 K9
      refine sop (h := fun K9 hK9 => ?_)
      replace HB4 := kB (kB (kB (kB (kB (kB (kO (kM HW20) (kB (kB (kB (kB (kB (kB (kB (kB (kB (kB (kB HB4 j3) j4) j1c) j2c) j3c) j4c) j5) j6) j5c) j7) j6c) HNE_B4_B18.out) j8) j7c) j8c) j9c) j10c) j11c
      have HTH22 : Hid (w11.there (w.heap.size + 1) 0 3) := blk_there HB4.out (Nat.le_of_ble_eq_true rfl)
      refine wp_store_mid 32 _ _ (by rfl) (w.heap.size + 1) 0 _ (by rfl) (by rfl) (by exact HTH22.out) (by kernel_rfl) (by kernel_rfl) ?_
      obtain ⟨W23, HW23⟩ : ∃ W, Hid (W = w11.setCells (w.heap.size + 1) 0 [.bool g9a, .slice A9a k9a c9a, .slice A9b k9b c9b]) := ⟨_, rfl⟩
      have TW23 := kN (kM HW23) HB4 rfl rfl
      replace HB4 := kP (ds := [.bool g9a, .slice A9a k9a c9a, .slice A9b k9b c9b]) (kM HW23) HB4 rfl rfl
      rw [← HW23.out]
      replace HB15 := kO (kM HW23) HB15 HNE_B4_B15.out.symm
      replace HB18 := kO (kM HW23) HB18 HNE_B4_B18.out.symm
      replace HB2 := kO (kM HW23) HB2 HNE_B2_B4.out
      refine ckk hK9 (by exact ⟨kD HB15 0, kD HB15 1, kD HB15 2, kD HB18 0, kD HB18 1, kD HB18 2, kD HB2 0, kD HB2 1, kD HB2 2⟩) (h := ?_)
      clear hK9 K9 HTH22
      refine sop (h := fun K9 hK9 => ?_)
      replace HB6 := kO (kM HW23) (kB (kB (kB (kB (kB (kB (kO (kM HW20) (kB (kB (kB (kB (kB (kB (kB (kB (kB (kB HB6 j4) j1c) j2c) j3c) j4c) j5) j6) j5c) j7) j6c) HNE_B6_B18.out) j8) j7c) j8c) j9c) j10c) j11c) HNE_B4_B6.out.symm
      have HTH24 : Hid (W23.there (w.heap.size + 2) 0 3) := blk_there HB6.out (Nat.le_of_ble_eq_true rfl)
      refine wp_store_mid 32 _ _ (by rfl) (w.heap.size + 2) 0 _ (by rfl) (by rfl) (by exact HTH24.out) (by kernel_rfl) (by kernel_rfl) ?_
      obtain ⟨W25, HW25⟩ : ∃ W, Hid (W = W23.setCells (w.heap.size + 2) 0 [.bool g11a, .slice A11a k11a c11a, .slice A11b k11b c11b]) := ⟨_, rfl⟩
      have TW25 := kN (kM HW25) HB6 rfl rfl
      replace HB6 := kP (ds := [.bool g11a, .slice A11a k11a c11a, .slice A11b k11b c11b]) (kM HW25) HB6 rfl rfl
      rw [← HW25.out]
      replace HB15 := kO (kM HW25) HB15 HNE_B6_B15.out.symm
      replace HB18 := kO (kM HW25) HB18 HNE_B6_B18.out.symm
      replace HB2 := kO (kM HW25) HB2 HNE_B2_B6.out
      refine ckk hK9 (by exact ⟨kD HB15 0, kD HB15 1, kD HB15 2, kD HB18 0, kD HB18 1, kD HB18 2, kD HB2 0, kD HB2 1, kD HB2 2⟩) (h := ?_)
      clear hK9 K9 HTH24
      refine tk0 (h := ?_)
      refine seq_done (by kernel_rfl) ?_
      go_wp2_with fail
      replace HB4 := kO (kM HW25) HB4 HNE_B4_B6.out
      replace HR9 := kW TW25 (kW TW23 (kV j11c (kV j10c HR9)))
      replace HR11 := kW TW25 (kW TW23 HR11)
      replace HBw := kS (kM HW25) HLE_B6 (kS (kM HW23) HLE_B4 (kU (kU (kU (kU (kU (kU (kS (kM HW20) HLE_B18 (kU (kU (kU (kU (kU (kU (kU (kU (kU (kU (kU (kU HBw j2) j3) j4) j1c) j2c) j3c) j4c) j5) j6) j5c) j7) j6c)) j8) j7c) j8c) j9c) j10c) j11c))
      exact bodyPost_ret (v := .tuple #[.agg #[.bool g9a, .slice A9a k9a c9a, .slice A9b k9b c9b], .agg #[.bool g11a, .slice A11a k11a c11a, .slice A11b k11b c11b], .int .i64 0]) (results_cct rfl (by rfl) (blk_all HB4.out) Tryz.underlying32 rfl (by kernel_rfl) (by rfl) (blk_all HB6.out) Tryz.underlying32 rfl (by kernel_rfl) (by rfl)) rfl ⟨⟨_, _, rfl, HR9.out, HR11.out⟩, HBw.out⟩
    · intro K9 hK9
      go_simp
      replace HR4 := kV j5c (kV j6 (kV j5 HR4))
      refine (add_any _ _ 1 (h * h) _ HR5.out HR4.out (qs_one.up (by omega)) (HSQ.out.up (by omega))).mono ?_
      rintro e w6 ⟨⟨vx, rfl, hr⟩, j6c⟩
      obtain ⟨g6a, A6a, k6a, c6a, A6b, k6b, c6b, rfl, hr⟩ := hr.open
      have HR6 := Lib.hid hr
      clear hr
      replace HB15 := kB HB15 j6c
      refine ckk hK9 (by exact ⟨kD HB15 0, kD HB15 1, kD HB15 2⟩) (h := ?_)
      clear hK9 K9
      refine sop (h := fun K9 hK9 => ?_)
      go_simp
      obtain ⟨W17, HW17, HB18, HSZ_W17, j7⟩ := st_al0 w6 #[.bool false, .slice none 0 0, .slice none 0 0] 32
      have HNE_B2_B18 : Hid (w.heap.size ≠ w6.heap.size) := by show _ ≠ _; have hlt := blk_lt HB2.out; have := j4c.size; have := j5.size; have := j6.size; have := j5c.size; have := j6c.size; omega
      have HNE_B4_B18 : Hid (w.heap.size + 1 ≠ w6.heap.size) := by show _ ≠ _; have hlt := blk_lt HB4.out; have := j3.size; have := j4.size; have := j1c.size; have := j2c.size; have := j3c.size; have := j4c.size; have := j5.size; have := j6.size; have := j5c.size; have := j6c.size; omega
      have HNE_B6_B18 : Hid (w.heap.size + 2 ≠ w6.heap.size) := by show _ ≠ _; have hlt := blk_lt HB6.out; have := j4.size; have := j1c.size; have := j2c.size; have := j3c.size; have := j4c.size; have := j5.size; have := j6.size; have := j5c.size; have := j6c.size; omega
      have HNE_B15_B18 : Hid (w4.heap.size ≠ w6.heap.size) := by show _ ≠ _; have hlt := blk_lt HB15.out; omega
      have HLE_B18 : Hid (w.heap.size ≤ w6.heap.size) := by show _ ≤ _; have hlt := HBw.out.size; have := j2.size; have := j3.size; have := j4.size; have := j1c.size; have := j2c.size; have := j3c.size; have := j4c.size; have := j5.size; have := j6.size; have := j5c.size; have := j6c.size; omega
      rw [← HW17.out]
      replace HB15 := kB HB15 j7
      refine ckk hK9 (by exact ⟨kD HB15 0, kD HB15 1, kD HB15 2⟩) (h := ?_)
      clear hK9 K9
      refine sop (h := fun K9 hK9 => ?_)
      have HTH19 : Hid (W17.there (w6.heap.size) 0 3) := blk_there HB18.out (Nat.le_of_ble_eq_true rfl)
      refine wp_store_mid 32 _ _ (by rfl) (w6.heap.size) 0 _ (by rfl) (by rfl) (by exact HTH19.out) (by kernel_rfl) (by kernel_rfl) ?_
      obtain ⟨W20, HW20⟩ : ∃ W, Hid (W = W17.setCells (w6.heap.size) 0 [.bool g6a, .slice A6a k6a c6a, .slice A6b k6b c6b]) := ⟨_, rfl⟩
      have TW20 := kN (kM HW20) HB18 rfl rfl
      replace HB18 := kP (ds := [.bool g6a, .slice A6a k6a c6a, .slice A6b k6b c6b]) (kM HW20) HB18 rfl rfl
      rw [← HW20.out]
      replace HB15 := kO (kM HW20) HB15 HNE_B15_B18.out
      refine ckk hK9 (by exact ⟨kD HB15 0, kD HB15 1, kD HB15 2⟩) (h := ?_)
      clear hK9 K9 HTH19
      refine seq_done (by kernel_rfl) ?_
      go_wp2_with fail
      obtain ⟨W21, hW21⟩ : ∃ W, W = W20.drew := ⟨_, rfl⟩
      have j8 : Below W20.heap.size W20 W21 := by rw [hW21]; exact (Below.refl _ _).drew
      replace HB15 := kB HB15 j8
      replace HB18 := kB HB18 j8
      replace HB2 := kB (kO (kM HW20) (kB (kB (kB (kB (kB (kB HB2 j4c) j5) j6) j5c) j6c) j7) HNE_B2_B18.out) j8
      refine seq_start (S := fun w' => w'.cell? ⟨w4.heap.size, 0, none⟩ = some (.bool g4a) ∧ w'.cell? ⟨w4.heap.size, 1, none⟩ = some (.slice A4a k4a c4a) ∧ w'.cell? ⟨w4.heap.size, 2, none⟩ = some (.slice A4b k4b c4b) ∧ w'.cell? ⟨w6.heap.size, 0, none⟩ = some (.bool g6a) ∧ w'.cell? ⟨w6.heap.size, 1, none⟩ = some (.slice A6a k6a c6a) ∧ w'.cell? ⟨w6.heap.size, 2, none⟩ = some (.slice A6b k6b c6b) ∧ w'.cell? ⟨w.heap.size, 0, none⟩ = some (.bool gp0a) ∧ w'.cell? ⟨w.heap.size, 1, none⟩ = some (.slice Ap0a kp0a cp0a) ∧ w'.cell? ⟨w.heap.size, 2, none⟩ = some (.slice Ap0b kp0b cp0b)) (by kernel_rfl) (by kernel_rfl) (by rw [← hW21]; exact ⟨kD HB15 0, kD HB15 1, kD HB15 2, kD HB18 0, kD HB18 1, kD HB18 2, kD HB2 0, kD HB2 1, kD HB2 2⟩) ?_
      rw [← hW21]
      clear hW21
      refine plq 1 (h := ?_)
      refine tk0 (h := ?_)
      refine plq 2 (h := ?_)
      refine tk0 (h := ?_)
      iterate 2 (refine plq 3 (h := ?_); refine tk0 (h := ?_))
      refine plq 4 (h := ?_)
      refine tk0 (h := ?_)
      refine sop (h := fun K9 hK9 => ?_)
      go_simp
      refine (one_any _).mono ?_
      rintro e w7 ⟨⟨vx, rfl, hr⟩, j7c⟩
      obtain ⟨g7a, A7a, k7a, c7a, A7b, k7b, c7b, rfl, hr⟩ := hr.open
      have HR7 := Lib.hid hr
      clear hr
      replace HB15 := kB HB15 j7c
      replace HB18 := kB HB18 j7c
      replace HB2 := kB HB2 j7c
      refine ckk hK9 (by exact ⟨kD HB15 0, kD HB15 1, kD HB15 2, kD HB18 0, kD HB18 1, kD HB18 2, kD HB2 0, kD HB2 1, kD HB2 2⟩) (h := ?_)
      clear hK9 K9
      refine sop (h := fun K9 hK9 => ?_)
      go_simp
      replace HR4 := kV j7c (kV j8 (kW TW20 (kV j7 (kV j6c HR4))))
      refine (sub_any _ _ 1 (h * h) _ HR7.out HR4.out (qs_one.up (by omega)) (HSQ.out.up (by omega))).mono ?_
      rintro e w8 ⟨⟨vx, rfl, hr⟩, j8c⟩
      obtain ⟨g8a, A8a, k8a, c8a, A8b, k8b, c8b, rfl, hr⟩ := hr.open
      have HR8 := Lib.hid hr
      clear hr
      replace HB15 := kB HB15 j8c
      replace HB18 := kB HB18 j8c
      replace HB2 := kB HB2 j8c
      refine ckk hK9 (by exact ⟨kD HB15 0, kD HB15 1, kD HB15 2, kD HB18 0, kD HB18 1, kD HB18 2, kD HB2 0, kD HB2 1, kD HB2 2⟩) (h := ?_)
      clear hK9 K9
      refine sop (h := fun K9 hK9 => ?_)
      go_simp
      replace HR6 := kV j8c (kV j7c (kV j8 (kW TW20 (kV j7 HR6))))
      refine (ratioB_any _ _ (1 - h * h) (1 + h * h) _ HR8.out HR6.out HNZ.out ((sub_sizes qs_one HSQ.out).up (by omega)) ((sum_sizes qs_one HSQ.out).up (by omega))).mono ?_
      rintro e w9 ⟨⟨vx, rfl, hr⟩, j9c⟩
      obtain ⟨g9a, A9a, k9a, c9a, A9b, k9b, c9b, rfl, hr⟩ := hr.open
      have HR9 := Lib.hid hr
      clear hr
      replace HB15 := kB HB15 j9c
      replace HB18 := kB HB18 j9c
      replace HB2 := kB HB2 j9c
      refine ckk hK9 (by exact ⟨kD HB15 0, kD HB15 1, kD HB15 2, kD HB18 0, kD HB18 1, kD HB18 2, kD HB2 0, kD HB2 1, kD HB2 2⟩) (h := ?_)
      clear hK9 K9
      refine sop (h := fun K9 hK9 => ?_)
      go_simp
      replace HX0 := kV j9c (kV j8c (kV j7c (kV j8 (kW TW20 (kV j7 (kV j6c (kV j5c (kV j6 (kV j5 (kV j4c HX0))))))))))
      refine (add_any _ _ h h _ HX0.out HX0.out (HQ.out.up (by omega)) (HQ.out.up (by omega))).mono ?_
      rintro e w10 ⟨⟨vx, rfl, hr⟩, j10c⟩
      obtain ⟨g10a, A10a, k10a, c10a, A10b, k10b, c10b, rfl, hr⟩ := hr.open
      have HR10 := Lib.hid hr
      clear hr
      replace HB15 := kB HB15 j10c
      replace HB18 := kB HB18 j10c
      replace HB2 := kB HB2 j10c
      refine ckk hK9 (by exact ⟨kD HB15 0, kD HB15 1, kD HB15 2, kD HB18 0, kD HB18 1, kD HB18 2, kD HB2 0, kD HB2 1, kD HB2 2⟩) (h := ?_)
      clear hK9 K9
      refine sop (h := fun K9 hK9 => ?_)
      go_simp
      replace HR6 := kV j10c (kV j9c HR6)
      refine (ratioB_any _ _ (h + h) (1 + h * h) _ HR10.out HR6.out HNZ.out ((sum_sizes HQ.out HQ.out).up (by omega)) ((sum_sizes qs_one HSQ.out).up (by omega))).mono ?_
      rintro e w11 ⟨⟨vx, rfl, hr⟩, j11c⟩
      obtain ⟨g11a, A11a, k11a, c11a, A11b, k11b, c11b, rfl, hr⟩ := hr.open
      have HR11 := Lib.hid hr
      clear hr
      replace HB15 := kB HB15 j11c
      replace HB18 := kB HB18 j11c
      replace HB2 := kB HB2 j11c
      refine ckk hK9 (by exact ⟨kD HB15 0, kD HB15 1, kD HB15 2, kD HB18 0, kD HB18 1, kD HB18 2, kD HB2 0, kD HB2 1, kD HB2 2⟩) (h := ?_)
      clear hK9 K9
      refine sop (h := fun K9 hK9 => ?_)
      replace HB4 := kB (kB (kB (kB (kB (kB (kO (kM HW20) (kB (kB (kB (kB (kB (kB (kB (kB (kB (kB (kB HB4 j3) j4) j1c) j2c) j3c) j4c) j5) j6) j5c) j6c) j7) HNE_B4_B18.out) j8) j7c) j8c) j9c) j10c) j11c
      have HTH22 : Hid (w11.there (w.heap.size + 1) 0 3) := blk_there HB4.out (Nat.le_of_ble_eq_true rfl)
      refine wp_store_mid 32 _ _ (by rfl) (w.heap.size + 1) 0 _ (by rfl) (by rfl) (by exact HTH22.out) (by kernel_rfl) (by kernel_rfl) ?_
      obtain ⟨W23, HW23⟩ : ∃ W, Hid (W = w11.setCells (w.heap.size + 1) 0 [.bool g9a, .slice A9a k9a c9a, .slice A9b k9b c9b]) := ⟨_, rfl⟩
      have TW23 := kN (kM HW23) HB4 rfl rfl
      replace HB4 := kP (ds := [.bool g9a, .slice A9a k9a c9a, .slice A9b k9b c9b]) (kM HW23) HB4 rfl rfl
      rw [← HW23.out]
      replace HB15 := kO (kM HW23) HB15 HNE_B4_B15.out.symm
      replace HB18 := kO (kM HW23) HB18 HNE_B4_B18.out.symm
      replace HB2 := kO (kM HW23) HB2 HNE_B2_B4.out
      refine ckk hK9 (by exact ⟨kD HB15 0, kD HB15 1, kD HB15 2, kD HB18 0, kD HB18 1, kD HB18 2, kD HB2 0, kD HB2 1, kD HB2 2⟩) (h := ?_)
      clear hK9 K9 HTH22
      refine sop (h := fun K9 hK9 => ?_)
      replace HB6 := kO (kM HW23) (kB (kB (kB (kB (kB (kB (kO (kM HW20) (kB (kB (kB (kB (kB (kB (kB (kB (kB (kB HB6 j4) j1c) j2c) j3c) j4c) j5) j6) j5c) j6c) j7) HNE_B6_B18.out) j8) j7c) j8c) j9c) j10c) j11c) HNE_B4_B6.out.symm
      have HTH24 : Hid (W23.there (w.heap.size + 2) 0 3) := blk_there HB6.out (Nat.le_of_ble_eq_true rfl)
      refine wp_store_mid 32 _ _ (by rfl) (w.heap.size + 2) 0 _ (by rfl) (by rfl) (by exact HTH24.out) (by kernel_rfl) (by kernel_rfl) ?_
      obtain ⟨W25, HW25⟩ : ∃ W, Hid (W = W23.setCells (w.heap.size + 2) 0 [.bool g11a, .slice A11a k11a c11a, .slice A11b k11b c11b]) := ⟨_, rfl⟩
      have TW25 := kN (kM HW25) HB6 rfl rfl
      replace HB6 := kP (ds := [.bool g11a, .slice A11a k11a c11a, .slice A11b k11b c11b]) (kM HW25) HB6 rfl rfl
      rw [← HW25.out]
      replace HB15 := kO (kM HW25) HB15 HNE_B6_B15.out.symm
      replace HB18 := kO (kM HW25) HB18 HNE_B6_B18.out.symm
      replace HB2 := kO (kM HW25) HB2 HNE_B2_B6.out
      refine ckk hK9 (by exact ⟨kD HB15 0, kD HB15 1, kD HB15 2, kD HB18 0, kD HB18 1, kD HB18 2, kD HB2 0, kD HB2 1, kD HB2 2⟩) (h := ?_)
      clear hK9 K9 HTH24
      refine tk0 (h := ?_)
      refine seq_done (by kernel_rfl) ?_
      go_wp2_with fail
      replace HB4 := kO (kM HW25) HB4 HNE_B4_B6.out
      replace HR9 := kW TW25 (kW TW23 (kV j11c (kV j10c HR9)))
      replace HR11 := kW TW25 (kW TW23 HR11)
      replace HBw := kS (kM HW25) HLE_B6 (kS (kM HW23) HLE_B4 (kU (kU (kU (kU (kU (kU (kS (kM HW20) HLE_B18 (kU (kU (kU (kU (kU (kU (kU (kU (kU (kU (kU (kU HBw j2) j3) j4) j1c) j2c) j3c) j4c) j5) j6) j5c) j6c) j7)) j8) j7c) j8c) j9c) j10c) j11c))
      exact bodyPost_ret (v := .tuple #[.agg #[.bool g9a, .slice A9a k9a c9a, .slice A9b k9b c9b], .agg #[.bool g11a, .slice A11a k11a c11a, .slice A11b k11b c11b], .int .i64 0]) (results_cct rfl (by rfl) (blk_all HB4.out) Tryz.underlying32 rfl (by kernel_rfl) (by rfl) (blk_all HB6.out) Tryz.underlying32 rfl (by kernel_rfl) (by rfl)) rfl ⟨⟨_, _, rfl, HR9.out, HR11.out⟩, HBw.out⟩
  · intro K9 hK9
    go_simp
    obtain ⟨W17, HW17, HB18, HSZ_W17, j7⟩ := st_al0 W16 #[.bool false, .slice none 0 0, .slice none 0 0] 32
    have HNE_B2_B18 : Hid (w.heap.size ≠ W16.heap.size) := by show _ ≠ _; have hlt := blk_lt HB2.out; have := j4c.size; have := j5.size; have := j6.size; omega
    have HNE_B4_B18 : Hid (w.heap.size + 1 ≠ W16.heap.size) := by show _ ≠ _; have hlt := blk_lt HB4.out; have := j3.size; have := j4.size; have := j1c.size; have := j2c.size; have := j3c.size; have := j4c.size; have := j5.size; have := j6.size; omega
    have HNE_B6_B18 : Hid (w.heap.size + 2 ≠ W16.heap.size) := by show _ ≠ _; have hlt := blk_lt HB6.out; have := j4.size; have := j1c.size; have := j2c.size; have := j3c.size; have := j4c.size; have := j5.size; have := j6.size; omega
    have HNE_B15_B18 : Hid (w4.heap.size ≠ W16.heap.size) := by show _ ≠ _; have hlt := blk_lt HB15.out; omega
    have HLE_B18 : Hid (w.heap.size ≤ W16.heap.size) := by show _ ≤ _; have hlt := HBw.out.size; have := j2.size; have := j3.size; have := j4.size; have := j1c.size; have := j2c.size; have := j3c.size; have := j4c.size; have := j5.size; have := j6.size; omega
    rw [← HW17.out]
    replace HB15 := kB HB15 j7
    refine ckk hK9 (by exact ⟨kD HB15 0, kD HB15 1, kD HB15 2⟩) (h := ?_)
    clear hK9 K9
    refine sop (h := fun K9 hK9 => ?_)
    go_simp
    refine (one_any _).mono ?_
    rintro e w5 ⟨⟨vx, rfl, hr⟩, j5c⟩
    obtain ⟨g5a, A5a, k5a, c5a, A5b, k5b, c5b, rfl, hr⟩ := hr.open
    have HR5 := Lib.hid hr
    clear hr
    replace HB15 := kB HB15 j5c
    refine ckk hK9 (by exact ⟨kD HB15 0, kD HB15 1, kD HB15 2⟩) (h := ?_)
    clear hK9 K9
    refine sop (h := fun K9 hK9 => ?_)
    go_simp
    replace HR4 := kV j5c (kV j7 (kV j6 (kV j5 HR4)))
    refine (add_any _ _ 1 (h * h) _ HR5.out HR4.out (qs_one.up (by omega)) (HSQ.out.up (by omega))).mono ?_
    rintro e w6 ⟨⟨vx, rfl, hr⟩, j6c⟩
    obtain ⟨g6a, A6a, k6a, c6a, A6b, k6b, c6b, rfl, hr⟩ := hr.open
    have HR6 := Lib.hid hr
    clear hr
    replace HB15 := kB HB15 j6c
    refine ckk hK9 (by exact ⟨kD HB15 0, kD HB15 1, kD HB15 2⟩) (h := ?_)
    clear hK9 K9
    refine sop (h := fun K9 hK9 => ?_)
    replace HB18 := kB (kB HB18 j5c) j6c
    have HTH19 : Hid (w6.there (W16.heap.size) 0 3) := blk_there HB18.out (Nat.le_of_ble_eq_true rfl)
    refine wp_store_mid 32 _ _ (by rfl) (W16.heap.size) 0 _ (by rfl) (by rfl) (by exact HTH19.out) (by kernel_rfl) (by kernel_rfl) ?_
    obtain ⟨W20, HW20⟩ : ∃ W, Hid (W = w6.setCells (W16.heap.size) 0 [.bool g6a, .slice A6a k6a c6a, .slice A6b k6b c6b]) := ⟨_, rfl⟩
    have TW20 := kN (kM HW20) HB18 rfl rfl
    replace HB18 := kP (ds := [.bool g6a, .slice A6a k6a c6a, .slice A6b k6b c6b]) (kM HW20) HB18 rfl rfl
    rw [← HW20.out]
    replace HB15 := kO (kM HW20) HB15 HNE_B15_B18.out
    refine ckk hK9 (by exact ⟨kD HB15 0, kD HB15 1, kD HB15 2⟩) (h := ?_)
    clear hK9 K9 HTH19
    refine seq_done (by kernel_rfl) ?_
    go_wp2_with fail
    obtain ⟨W21, hW21⟩ : ∃ W, W = W20.drew := ⟨_, rfl⟩
    have j8 : Below W20.heap.size W20 W21 := by rw [hW21]; exact (Below.refl _ _).drew
    replace HB15 := kB HB15 j8
    replace HB18 := kB HB18 j8
    replace HB2 := kB (kO (kM HW20) (kB (kB (kB (kB (kB (kB HB2 j4c) j5) j6) j7) j5c) j6c) HNE_B2_B18.out) j8
    refine seq_start (S := fun w' => w'.cell? ⟨w4.heap.size, 0, none⟩ = some (.bool g4a) ∧ w'.cell? ⟨w4.heap.size, 1, none⟩ = some (.slice A4a k4a c4a) ∧ w'.cell? ⟨w4.heap.size, 2, none⟩ = some (.slice A4b k4b c4b) ∧ w'.cell? ⟨W16.heap.size, 0, none⟩ = some (.bool g6a) ∧ w'.cell? ⟨W16.heap.size, 1, none⟩ = some (.slice A6a k6a c6a) ∧ w'.cell? ⟨W16.heap.size, 2, none⟩ = some (.slice A6b k6b c6b) ∧ w'.cell? ⟨w.heap.size, 0, none⟩ = some (.bool gp0a) ∧ w'.cell? ⟨w.heap.size, 1, none⟩ = some (.slice Ap0a kp0a cp0a) ∧ w'.cell? ⟨w.heap.size, 2, none⟩ = some (.slice Ap0b kp0b cp0b)) (by kernel_rfl) (by kernel_rfl) (by rw [← hW21]; exact ⟨kD HB15 0, kD HB15 1, kD HB15 2, kD HB18 0, kD HB18 1, kD HB18 2, kD HB2 0, kD HB2 1, kD HB2 2⟩) ?_
    rw [← hW21]
    clear hW21
    refine plq 1 (h := ?_)
    refine tk0 (h := ?_)
    refine plq 2 (h := ?_)
    refine tk0 (h := ?_)
    iterate 2 (refine plq 3 (h := ?_); refine tk0 (h := ?_))
    refine plq 4 (h := ?_)
    refine tk0 (h := ?_)
    refine sop (h := fun K9 hK9 => ?_)
    go_simp
    refine (one_any _).mono ?_
    rintro e w7 ⟨⟨vx, rfl, hr⟩, j7c⟩
    obtain ⟨g7a, A7a, k7a, c7a, A7b, k7b, c7b, rfl, hr⟩ := hr.open
    have HR7 := Lib.hid hr
    clear hr
    replace HB15 := kB HB15 j7c
    replace HB18 := kB HB18 j7c
    replace HB2 := kB HB2 j7c
    refine ckk hK9 (by exact ⟨kD HB15 0, kD HB15 1, kD HB15 2, kD HB18 0, kD HB18 1, kD HB18 2, kD HB2 0, kD HB2 1, kD HB2 2⟩) (h := ?_)
    clear hK9 K9
    refine sop (h := fun K9 hK9 => ?_)
    go_simp
    replace HR4 := kV j7c (kV j8 (kW TW20 (kV j6c HR4)))
    refine (sub_any _ _ 1 (h * h) _ HR7.out HR4.out (qs_one.up (by omega)) (HSQ.out.up (by omega))).mono ?_
    rintro e w8 ⟨⟨vx, rfl, hr⟩, j8c⟩
    obtain ⟨g8a, A8a, k8a, c8a, A8b, k8b, c8b, rfl, hr⟩ := hr.open
    have HR8 := Lib.hid hr
    clear hr
    replace HB15 := kB HB15 j8c
    replace HB18 := kB HB18 j8c
    replace HB2 := kB HB2 j8c
    refine ckk hK9 (by exact ⟨kD HB15 0, kD HB15 1, kD HB15 2, kD HB18 0, kD HB18 1, kD HB18 2, kD HB2 0, kD HB2 1, kD HB2 2⟩) (h := ?_)
    clear hK9 K9
    refine sop (h := fun K9 hK9 => ?_)
    go_simp
    replace HR6 := kV j8c (kV j7c (kV j8 (kW TW20 HR6)))
    refine (ratioB_any _ _ (1 - h * h) (1 + h * h) _ HR8.out HR6.out HNZ.out ((sub_sizes qs_one HSQ.out).up (by omega)) ((sum_sizes qs_one HSQ.out).up (by omega))).mono ?_
    rintro e w9 ⟨⟨vx, rfl, hr⟩, j9c⟩
    obtain ⟨g9a, A9a, k9a, c9a, A9b, k9b, c9b, rfl, hr⟩ := hr.open
    have HR9 := Lib.hid hr
    clear hr
    replace HB15 := kB HB15 j9c
    replace HB18 := kB HB18 j9c
    replace HB2 := kB HB2 j9c
    refine ckk hK9 (by exact ⟨kD HB15 0, kD HB15 1, kD HB15 2, kD HB18 0, kD HB18 1, kD HB18 2, kD HB2 0, kD HB2 1, kD HB2 2⟩) (h := ?_)
    clear hK9 K9
    refine sop (h := fun K9 hK9 => ?_)
    go_simp
    replace HX0 := kV j9c (kV j8c (kV j7c (kV j8 (kW TW20 (kV j6c (kV j5c (kV j7 (kV j6 (kV j5 (kV j4c HX0))))))))))
    refine (add_any _ _ h h _ HX0.out HX0.out (HQ.out.up (by omega)) (HQ.out.up (by omega))).mono ?_
    rintro e w10 ⟨⟨vx, rfl, hr⟩, j10c⟩
    obtain ⟨g10a, A10a, k10a, c10a, A10b, k10b, c10b, rfl, hr⟩ := hr.open
    have HR10 := Lib.hid hr
    clear hr
    replace HB15 := kB HB15 j10c
    replace HB18 := kB HB18 j10c
    replace HB2 := kB HB2 j10c
    refine ckk hK9 (by exact ⟨kD HB15 0, kD HB15 1, kD HB15 2, kD HB18 0, kD HB18 1, kD HB18 2, kD HB2 0, kD HB2 1, kD HB2 2⟩) (h := ?_)
    clear hK9 K9
    refine sop (h := fun K9 hK9 => ?_)
    go_simp
    replace HR6 := kV j10c (kV j9c HR6)
    refine (ratioB_any _ _ (h + h) (1 + h * h) _ HR10.out HR6.out HNZ.out ((sum_sizes HQ.out HQ.out).up (by omega)) ((sum_sizes qs_one HSQ.out).up (by omega))).mono ?_
    rintro e w11 ⟨⟨vx, rfl, hr⟩, j11c⟩
    obtain ⟨g11a, A11a, k11a, c11a, A11b, k11b, c11b, rfl, hr⟩ := hr.open
    have HR11 := Lib.hid hr
    clear hr
    replace HB15 := kB HB15 j11c
    replace HB18 := kB HB18 j11c
    replace HB2 := kB HB2 j11c
    refine ckk hK9 (by exact ⟨kD HB15 0, kD HB15 1, kD HB15 2, kD HB18 0, kD HB18 1, kD HB18 2, kD HB2 0, kD HB2 1, kD HB2 2⟩) (h := ?_)
    clear hK9 K9
    refine sop (h := fun K9 hK9 => ?_)
    replace HB4 := kB (kB (kB (kB (kB (kB (kO (kM HW20) (kB (kB (kB (kB (kB (kB (kB (kB (kB (kB (kB HB4 j3) j4) j1c) j2c) j3c) j4c) j5) j6) j7) j5c) j6c) HNE_B4_B18.out) j8) j7c) j8c) j9c) j10c) j11c
    have HTH22 : Hid (w11.there (w.heap.size + 1) 0 3) := blk_there HB4.out (Nat.le_of_ble_eq_true rfl)
    refine wp_store_mid 32 _ _ (by rfl) (w.heap.size + 1) 0 _ (by rfl) (by rfl) (by exact HTH22.out) (by kernel_rfl) (by kernel_rfl) ?_
    obtain ⟨W23, HW23⟩ : ∃ W, Hid (W = w11.setCells (w.heap.size + 1) 0 [.bool g9a, .slice A9a k9a c9a, .slice A9b k9b c9b]) := ⟨_, rfl⟩
    have TW23 := kN (kM HW23) HB4 rfl rfl
    replace HB4 := kP (ds := [.bool g9a, .slice A9a k9a c9a, .slice A9b k9b c9b]) (kM HW23) HB4 rfl rfl
    rw [← HW23.out]
    replace HB15 := kO (kM HW23) HB15 HNE_B4_B15.out.symm
    replace HB18 := kO (kM HW23) HB18 HNE_B4_B18.out.symm
    replace HB2 := kO (kM HW23) HB2 HNE_B2_B4.out
    refine ckk hK9 (by exact ⟨kD HB15 0, kD HB15 1, kD HB15 2, kD HB18 0, kD HB18 1, kD HB18 2, kD HB2 0, kD HB2 1, kD HB2 2⟩) (h := ?_)
    clear hK9 K9 HTH22
    refine sop (h := fun K9 hK9 => ?_)
    replace HB6 := kO (kM HW23) (kB (kB (kB (kB (kB (kB (kO (kM HW20) (kB (kB (kB (kB (kB (kB (kB (kB (kB (kB HB6 j4) j1c) j2c) j3c) j4c) j5) j6) j7) j5c) j6c) HNE_B6_B18.out) j8) j7c) j8c) j9c) j10c) j11c) HNE_B4_B6.out.symm
    have HTH24 : Hid (W23.there (w.heap.size + 2) 0 3) := blk_there HB6.out (Nat.le_of_ble_eq_true rfl)
    refine wp_store_mid 32 _ _ (by rfl) (w.heap.size + 2) 0 _ (by rfl) (by rfl) (by exact HTH24.out) (by kernel_rfl) (by kernel_rfl) ?_
    obtain ⟨W25, HW25⟩ : ∃ W, Hid (W = W23.setCells (w.heap.size + 2) 0 [.bool g11a, .slice A11a k11a c11a, .slice A11b k11b c11b]) := ⟨_, rfl⟩
    have TW25 := kN (kM HW25) HB6 rfl rfl
    replace HB6 := kP (ds := [.bool g11a, .slice A11a k11a c11a, .slice A11b k11b c11b]) (kM HW25) HB6 rfl rfl
    rw [← HW25.out]
    replace HB15 := kO (kM HW25) HB15 HNE_B6_B15.out.symm
    replace HB18 := kO (kM HW25) HB18 HNE_B6_B18.out.symm
    replace HB2 := kO (kM HW25) HB2 HNE_B2_B6.out
    refine ckk hK9 (by exact ⟨kD HB15 0, kD HB15 1, kD HB15 2, kD HB18 0, kD HB18 1, kD HB18 2, kD HB2 0, kD HB2 1, kD HB2 2⟩) (h := ?_)
    clear hK9 K9 HTH24
    refine tk0 (h := ?_)
    refine seq_done (by kernel_rfl) ?_
    go_wp2_with fail
    replace HB4 := kO (kM HW25) HB4 HNE_B4_B6.out
    replace HR9 := kW TW25 (kW TW23 (kV j11c (kV j10c HR9)))
    replace HR11 := kW TW25 (kW TW23 HR11)
    replace HBw := kS (kM HW25) HLE_B6 (kS (kM HW23) HLE_B4 (kU (kU (kU (kU (kU (kU (kS (kM HW20) HLE_B18 (kU (kU (kU (kU (kU (kU (kU (kU (kU (kU (kU (kU HBw j2) j3) j4) j1c) j2c) j3c) j4c) j5) j6) j7) j5c) j6c)) j8) j7c) j8c) j9c) j10c) j11c))
    exact bodyPost_ret (v := .tuple #[.agg #[.bool g9a, .slice A9a k9a c9a, .slice A9b k9b c9b], .agg #[.bool g11a, .slice A11a k11a c11a, .slice A11b k11b c11b], .int .i64 0]) (results_cct rfl (by rfl) (blk_all HB4.out) Tryz.underlying32 rfl (by kernel_rfl) (by rfl) (blk_all HB6.out) Tryz.underlying32 rfl (by kernel_rfl) (by rfl)) rfl ⟨⟨_, _, rfl, HR9.out, HR11.out⟩, HBw.out⟩
end Go.Proofs.YtodckaioeomccaaGreat
