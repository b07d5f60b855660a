/- Walks of cuts: Angle. -/
import Derived.Test.YtodckaioeomccaaGreatPart34
import Derived.Test.YtodckaioeomccaaGreatPart35
namespace Go.Proofs.YtodckaioeomccaaGreat
open Go.RowKit
set_option linter.unusedVariables false
set_option linter.unusedSimpArgs false
set_option maxRecDepth 100000
set_option maxHeartbeats 4000000
theorem results_cct {P : Program} {fn : Func} {t u v b c : Nat} {ty ty' : TypeId} {tmps : Array Value} {w : World} {d d' : TypeDesc} {cs ds : List Value} {e : Value} (h : fn.results = #[.cell t ty, .cell u ty', .tmp v])
  (hp : tmps.getD t undef = .pointer (some ⟨b, 0, none⟩)) (hc : w.rangeAt b 0 cs) (hu : P.underlying ty = some d) (hd : d.isRow = true) (hi : (P.info? ty).map (·.size) = some cs.length)
  (hp' : tmps.getD u undef = .pointer (some ⟨c, 0, none⟩)) (hc' : w.rangeAt c 0 ds) (hu' : P.underlying ty' = some d') (hd' : d'.isRow = true) (hi' : (P.info? ty').map (·.size) = some ds.length) (he : tmps.getD v undef = e) :
  (results fn tmps).run P w = .ok (.tuple #[.agg cs.toArray, .agg ds.toArray, e]) w := by
 subst he
 have hl := run_loadVar_mid w b 0 ty cs d hc hu hd hi
 have hl' := run_loadVar_mid w c 0 ty' ds d' hc' hu' hd' hi'
 rw [Array.getD_eq_getD_getElem?] at hp hp'
 simp [results, h, hp, hp', asAddr, hl, hl']
theorem sum_sizes {a b : Nat} {x y : Rat} (h : QS a x) (k : QS b y) : QS (a + b + 1) (x + y) := by
 have hz : x.den * y.den ≠ 0 := Nat.mul_ne_zero x.den_nz y.den_nz
 rw [Rat.add_def' x y]
 obtain ⟨h2, h3⟩ := mk_sizes (z := x.num * y.den + y.num * x.den) hz
 refine ⟨Nat.le_trans (dl_mono h2) ?_, Nat.le_trans (dl_mono h3) ?_⟩
 ·have e1 := dl_imul x.num y.den
  have e2 := dl_imul y.num x.den
  have := dl_two (x.num * y.den) (y.num * x.den)
  have := h.1; have := h.2; have := k.1; have := k.2
  omega
 ·have := dl_mul x.den y.den; have := h.2; have := k.2; omega
theorem sub_sizes {a b : Nat} {x y : Rat} (h : QS a x) (k : QS b y) : QS (a + b + 1) (x - y) := by rw [Rat.sub_eq_add_neg]; exact sum_sizes h k.neg
theorem sign_is (v : Value) (x : Rat) (s : Int) (w : World) (hv : RdQ w v x) (hs : Int.sign x.num = s) : Calls Tryz.prog 118 #[v] w fun e w' => e = .returned (.int .i64 s) ∧ Below w.heap.size w w' := hs ▸ sign_any v x w hv
theorem cmp_is (v u : Value) (x y : Rat) (s : Int) (w : World) (hv : RdQ w v x) (hu : RdQ w u y) (hx6 : QS 100000 x) (hy6 : QS 100000 y) (hs : Int.sign (x - y).num = s) : Calls Tryz.prog 76 #[v, u] w fun e w' => e = .returned (.int .i64 s) ∧ Below w.heap.size w w' := hs ▸ cmpQ_any v u x y w hv hu hx6 hy6
theorem qs_one : QS 1 (1 : Rat) := ⟨by show dl 1 ≤ 1; rw [dl_one]; exact Nat.le_refl _, by show dl 1 ≤ 1; rw [dl_one]; exact Nat.le_refl _⟩
theorem num_nn (x : Rat) : 0 ≤ x.num ↔ 0 ≤ x := by exact Rat.num_nonneg
theorem num_pos' (x : Rat) : 0 < x.num ↔ 0 < x := by
 have h1 := num_nn x
 have h2 : x.num = 0 ↔ x = 0 := Rat.num_eq_zero
 constructor
 ·intro h
  have a := h1.1 (by omega)
  have b : x ≠ 0 := fun e => by have := h2.2 e; omega
  grind
 ·intro h
  have a := h1.2 (by grind)
  have b : x.num ≠ 0 := fun e => by have := h2.1 e; grind
  omega
theorem num_neg' (x : Rat) : x.num < 0 ↔ x < 0 := by
 have h1 := num_nn x
 constructor
 ·intro h
  have : ¬ 0 ≤ x := fun e => by have := h1.2 e; omega
  grind
 ·intro h
  refine Int.not_le.1 fun e => ?_
  have := h1.1 e; grind
theorem sq_nn' (x : Rat) : 0 ≤ x * x := by
 rcases Rat.le_total (a := 0) (b := x) with h | h
 ·exact Rat.mul_nonneg h h
 ·have := Rat.mul_nonneg (a := -x) (b := -x) (by grind) (by grind); grind
theorem num_sign (x : Rat) : (Int.sign x.num = 1 ↔ 0 < x) ∧ (Int.sign x.num = 0 ↔ x = 0) ∧ (Int.sign x.num = -1 ↔ x < 0) := by
 refine ⟨?_, ?_, ?_⟩
 ·rw [Int.sign_eq_one_iff_pos, num_pos']
 ·rw [Int.sign_eq_zero_iff_zero, Rat.num_eq_zero]
 ·rw [Int.sign_eq_neg_one_iff_neg, num_neg']
theorem angle_3 (v : Value) (h : Rat) (w : World) (hv : RdQ w v h) (hq : QS 10000 h) (hs : Int.sign h.num = 1) (c : Int) (hc : Int.sign (h - 1).num = c) (kc : ¬ 0 < c) :
  Calls Tryz.prog 37 #[v] w fun e w' => (∃ v1 v2, e = .returned (.tuple #[v1, v2, .int .i64 0]) ∧ RdQ w' v1 ((1 - h * h) / (1 + h * h)) ∧ RdQ w' v2 ((h + h) / (1 + h * h))) ∧ Below w.heap.size w w' := by
 have HQ := h0d hq
 have HS := h0d hs
 clear hs
 have HC := h0d hc
 clear hc
 have HSQ := h0d (hq.mul hq)
 have HNZ : Hid (1 + h * h ≠ 0) := by show _ ≠ _; have := sq_nn' h; grind
 clear hq
 obtain ⟨gp0a, Ap0a, kp0a, cp0a, Ap0b, kp0b, cp0b, rfl, hv⟩ := hv.open
 have HX0 := h0d hv
 clear hv
 go_enter Tryz.func37, Tryz.ntmps37
 obtain ⟨W1, HW1, HB2, s1w, j1⟩ := st_al0 w #[.bool gp0a, .slice Ap0a kp0a cp0a, .slice Ap0b kp0b cp0b] 32
 have HBw := h0d j1
 obtain ⟨W3, HW3, HB4, s3w, j2⟩ := st_alk 1 2 #[.bool false, .slice none 0 0, .slice none 0 0] 32 s1w rfl
 have n2b4 : Hid (w.heap.size ≠ w.heap.size + 1) := by show _ ≠ _; omega
 have l4b : Hid (w.heap.size ≤ w.heap.size + 1) := by show _ ≤ _; omega
 obtain ⟨W5, HW5, HB6, s5w, j3⟩ := st_alk 2 3 #[.bool false, .slice none 0 0, .slice none 0 0] 32 s3w rfl
 have n2b6 : Hid (w.heap.size ≠ w.heap.size + 2) := by show _ ≠ _; omega
 have n4b6 : Hid (w.heap.size + 1 ≠ w.heap.size + 2) := by show _ ≠ _; omega
 have l6b : Hid (w.heap.size ≤ w.heap.size + 2) := by show _ ≤ _; omega
 go_wp2_with fail
 rw [← HW1.out, ← HW3.out, ← HW5.out]
 obtain ⟨W7, hW7⟩ : ∃ W, W = W5.drew := ⟨_, rfl⟩
 have j4 : Below W5.heap.size W5 W7 := by rw [hW7]; exact (Below.refl _ _).drew
 have jm1 := tt (tt j2 j3) j4
 replace HB2 := kB HB2 jm1
 refine seq_start (S := fun w' => w'.cell? ⟨w.heap.size, 0, none⟩ = some (.bool gp0a) ∧ w'.cell? ⟨w.heap.size, 1, none⟩ = some (.slice Ap0a kp0a cp0a) ∧ w'.cell? ⟨w.heap.size, 2, none⟩ = some (.slice Ap0b kp0b cp0b)) (by kernel_rfl) (by kernel_rfl) (by rw [← hW7]; exact ⟨kD HB2 0, kD HB2 1, kD HB2 2⟩) ?_
 rw [← hW7]
 clear hW7
 refine tk0 (h := ?_)
 refine sop (h := fun K9 hK9 => ?_)
 go_simp
 replace HBw := kU HBw jm1
 replace HX0 := kV HBw.out HX0
 refine mV (sign_is _ h 1 _ HX0.out HS.out) fun w1 j1c => ?_
 replace HB2 := kB HB2 j1c
 refine ckk hK9 (by exact ⟨kD HB2 0, kD HB2 1, kD HB2 2⟩) (h := ?_)
 clear hK9 K9
 iterate 2 refine tk0 (h := ?_)
 refine tkG (h := ?_)
 refine sop (h := fun K9 hK9 => ?_)
 go_simp
 refine mQ (one_any _) fun w2 g2a A2a k2a c2a A2b k2b c2b HR2 j2c => ?_
 replace HB2 := kB HB2 j2c
 refine ckk hK9 (by exact ⟨kD HB2 0, kD HB2 1, kD HB2 2⟩) (h := ?_)
 clear hK9 K9
 refine sop (h := fun K9 hK9 => ?_)
 go_simp
 have jm2 := tt j1c j2c
 replace HX0 := kV jm2 HX0
 refine mV (cmp_is _ _ h 1 c _ HX0.out HR2.out (HQ.out.up (by omega)) (qs_one.up (by omega)) HC.out) fun w3 j3c => ?_
 replace HB2 := kB HB2 j3c
 refine ckk hK9 (by exact ⟨kD HB2 0, kD HB2 1, kD HB2 2⟩) (h := ?_)
 clear hK9 K9
 refine tkG (h := ?_)
 refine tk0 (h := ?_)
 refine seq_done (by kernel_rfl) ?_
 have c8 := kC HB2 0 rfl
 have c9 := kC HB2 1 rfl
 have c10 := kC HB2 2 rfl
 have c11 := kC HB2 0 rfl
 have c12 := kC HB2 1 rfl
 have c13 := kC HB2 2 rfl
 go_wp2_with fail
 clear c8 c9 c10 c11 c12 c13
 replace HX0 := kV j3c HX0
 refine mQ (mul_any _ _ h h _ HX0.out HX0.out (HQ.out.up (by omega)) (HQ.out.up (by omega))) fun w4 g4a A4a k4a c4a A4b k4b c4b HR4 j4c => ?_
 obtain ⟨W14, HW14, HB15, s14w, j5⟩ := st_al0 w4 #[.bool g4a, .slice A4a k4a c4a, .slice A4b k4b c4b] 32
 have n4b15 : Hid (w.heap.size + 1 ≠ w4.heap.size) := by show _ ≠ _; have hlt := blk_lt HB4.out; have := j3.size; have := j4.size; have := j1c.size; have := j2c.size; have := j3c.size; have := j4c.size; omega
 have n6b15 : Hid (w.heap.size + 2 ≠ w4.heap.size) := by show _ ≠ _; have hlt := blk_lt HB6.out; have := j4.size; have := j1c.size; have := j2c.size; have := j3c.size; have := j4c.size; omega
 go_wp2_with fail
 rw [← HW14.out]
 obtain ⟨W16, hW16⟩ : ∃ W, W = W14.drew := ⟨_, rfl⟩
 have j6 : Below W14.heap.size W14 W16 := by rw [hW16]; exact (Below.refl _ _).drew
 replace HB15 := kB HB15 j6
 refine seq_start (S := fun w' => w'.cell? ⟨w4.heap.size, 0, none⟩ = some (.bool g4a) ∧ w'.cell? ⟨w4.heap.size, 1, none⟩ = some (.slice A4a k4a c4a) ∧ w'.cell? ⟨w4.heap.size, 2, none⟩ = some (.slice A4b k4b c4b)) (by kernel_rfl) (by kernel_rfl) (by rw [← hW16]; exact ⟨kD HB15 0, kD HB15 1, kD HB15 2⟩) ?_
 rw [← hW16]
 clear hW16
 have jm3 := tt (tt (tt (tt jm2 j3c) j4c) j5) j6
 replace HBw := kU HBw jm3
 have jm4 := tt (tt j4c j5) j6
 replace HB2 := kB HB2 jm4
 have y1b2 := klt HB2
 have jm5 := tt (tt (tt (tt (tt (tt (tt j3 j4) j1c) j2c) j3c) j4c) j5) j6
 replace HB4 := kB HB4 jm5
 have y1b4 := klt HB4
 have jm6 := tt j4 jm3
 replace HB6 := kB HB6 jm6
 have y1b6 := klt HB6
 have y1b15 := klt HB15
 have l1w := ksz HBw
 have HSR1 : Hid (∀ w', Below W16.heap.size W16 w' → w'.cell? ⟨w4.heap.size, 0, none⟩ = some (.bool g4a) ∧ w'.cell? ⟨w4.heap.size, 1, none⟩ = some (.slice A4a k4a c4a) ∧ w'.cell? ⟨w4.heap.size, 2, none⟩ = some (.slice A4b k4b c4b)) := fun w' hb => ⟨kD (kB HB15 hb) 0, kD (kB HB15 hb) 1, kD (kB HB15 hb) 2⟩
 refine plq 1 (h := ?_)
 refine tk0 (h := ?_)
 refine plq 2 (h := ?_)
 refine fStart (fs := [⟨_, 32, [.bool false, .slice none 0 0, .slice none 0 0], _⟩]) (h := fun st HFz => ?_)
 refine nrm (hb := by first | (simp only [puts, Act.put, List.setIfInBounds_toArray, List.set_cons_zero, List.set_cons_succ]; rfl)) (h := ?_)
 refine fOp HFz HSR1.out (h := fun st z17 j7 HFz K9 hK9 => ?_)
 go_simp
 refine mQ (one_any _) fun w5 g5a A5a k5a c5a A5b k5b c5b HR5 j5c => ?_
 replace HFz := h0d (HFz.out.below j5c)
 refine ckk hK9 (by exact HSR1.out _ HFz.out.bel) (h := ?_)
 clear hK9 K9
 refine fOp HFz HSR1.out (h := fun st z18 j8 HFz K9 hK9 => ?_)
 go_simp
 replace HR5 := kV j8 HR5
 have jm7 := tt (tt (tt (tt j5 j6) j7) j5c) j8
 replace HR4 := kV jm7 HR4
 refine mQ (add_any _ _ 1 (h * h) _ HR5.out HR4.out (qs_one.up (by omega)) (HSQ.out.up (by omega))) fun w6 g6a A6a k6a c6a A6b k6b c6b HR6 j6c => ?_
 replace HFz := h0d (HFz.out.below j6c)
 refine ckk hK9 (by exact HSR1.out _ HFz.out.bel) (h := ?_)
 clear hK9 K9
 refine fEnd HFz HSR1.out (h := fun st z19 j9 HFz hst => ?_)
 obtain ⟨g1_0, e0⟩ := hst 0 nlt
 refine nrm (hb := by simp only [e0, pv]; rfl) (h := ?_)
 have HB20 : Hid (z19.heap[g1_0]? = some (.cells #[.bool false, .slice none 0 0, .slice none 0 0] 32 (0, 0))) := (HFz.out.blk 0 _ g1_0 rfl e0).2
 have n2b20 := kne y1b2 HFz e0
 have n4b20 := kne y1b4 HFz e0
 have n6b20 := kne y1b6 HFz e0
 have n15b20 := kne y1b15 HFz e0
 have l20b := kle l1w HFz e0
 clear HFz hst e0
 refine sop (h := fun K9 hK9 => ?_)
 have t21h := kth 0 3 HB20
 refine smw 32 (g1_0) 0 (ht := by exact t21h) (h := ?_)
 obtain ⟨W22, HW22⟩ : ∃ W, Hid (W = z19.setCells (g1_0) 0 [.bool g6a, .slice A6a k6a c6a, .slice A6b k6b c6b]) := ⟨_, rfl⟩
 have TW22 := kN (kM HW22) HB20 rfl rfl
 replace HB20 := kPf (kM HW22) HB20 rfl
 rw [← HW22.out]
 have jm8 := tt (tt (tt (tt j7 j5c) j8) j6c) j9
 replace HB15 := kO (kM HW22) (kB HB15 jm8) n15b20.out
 refine ckk hK9 (by exact ⟨kD HB15 0, kD HB15 1, kD HB15 2⟩) (h := ?_)
 clear hK9 K9 t21h
 refine seq_done (by kernel_rfl) ?_
 go_wp2_with fail
 obtain ⟨W23, hW23⟩ : ∃ W, W = W22.drew := ⟨_, rfl⟩
 have j10 : Below W22.heap.size W22 W23 := by rw [hW23]; exact (Below.refl _ _).drew
 replace HB15 := kB HB15 j10
 replace HB20 := kB HB20 j10
 replace HB2 := kB (kO (kM HW22) (kB HB2 jm8) n2b20.out) j10
 refine seq_start (S := fun w' => w'.cell? ⟨w4.heap.size, 0, none⟩ = some (.bool g4a) ∧ w'.cell? ⟨w4.heap.size, 1, none⟩ = some (.slice A4a k4a c4a) ∧ w'.cell? ⟨w4.heap.size, 2, none⟩ = some (.slice A4b k4b c4b) ∧ w'.cell? ⟨g1_0, 0, none⟩ = some (.bool g6a) ∧ w'.cell? ⟨g1_0, 1, none⟩ = some (.slice A6a k6a c6a) ∧ w'.cell? ⟨g1_0, 2, none⟩ = some (.slice A6b k6b c6b) ∧ w'.cell? ⟨w.heap.size, 0, none⟩ = some (.bool gp0a) ∧ w'.cell? ⟨w.heap.size, 1, none⟩ = some (.slice Ap0a kp0a cp0a) ∧ w'.cell? ⟨w.heap.size, 2, none⟩ = some (.slice Ap0b kp0b cp0b)) (by kernel_rfl) (by kernel_rfl) (by rw [← hW23]; exact ⟨kD HB15 0, kD HB15 1, kD HB15 2, kD HB20 0, kD HB20 1, kD HB20 2, kD HB2 0, kD HB2 1, kD HB2 2⟩) ?_
 rw [← hW23]
 clear hW23
 refine plq 1 (h := ?_)
 refine tk0 (h := ?_)
 refine plq 2 (h := ?_)
 refine tk0 (h := ?_)
 iterate 2 (refine plq 3 (h := ?_); refine tk0 (h := ?_))
 refine plq 4 (h := ?_)
 refine tk0 (h := ?_)
 refine sop (h := fun K9 hK9 => ?_)
 go_simp
 refine mQ (one_any _) fun w7 g7a A7a k7a c7a A7b k7b c7b HR7 j7c => ?_
 replace HB15 := kB HB15 j7c
 replace HB20 := kB HB20 j7c
 replace HB2 := kB HB2 j7c
 refine ckk hK9 (by exact ⟨kD HB15 0, kD HB15 1, kD HB15 2, kD HB20 0, kD HB20 1, kD HB20 2, kD HB2 0, kD HB2 1, kD HB2 2⟩) (h := ?_)
 clear hK9 K9
 refine sop (h := fun K9 hK9 => ?_)
 go_simp
 have jm9 := tt j6c j9
 have jm10 := tt j10 j7c
 replace HR4 := kV jm10 (kW TW22 (kV jm9 HR4))
 refine mQ (sub_any _ _ 1 (h * h) _ HR7.out HR4.out (qs_one.up (by omega)) (HSQ.out.up (by omega))) fun w8 g8a A8a k8a c8a A8b k8b c8b HR8 j8c => ?_
 replace HB15 := kB HB15 j8c
 replace HB20 := kB HB20 j8c
 replace HB2 := kB HB2 j8c
 refine ckk hK9 (by exact ⟨kD HB15 0, kD HB15 1, kD HB15 2, kD HB20 0, kD HB20 1, kD HB20 2, kD HB2 0, kD HB2 1, kD HB2 2⟩) (h := ?_)
 clear hK9 K9
 refine sop (h := fun K9 hK9 => ?_)
 go_simp
 have jm11 := tt jm10 j8c
 replace HR6 := kV jm11 (kW TW22 (kV j9 HR6))
 refine mQ (ratioB_any _ _ (1 - h * h) (1 + h * h) _ HR8.out HR6.out HNZ.out ((sub_sizes qs_one HSQ.out).up (by omega)) ((sum_sizes qs_one HSQ.out).up (by omega))) fun w9 g9a A9a k9a c9a A9b k9b c9b HR9 j9c => ?_
 replace HB15 := kB HB15 j9c
 replace HB20 := kB HB20 j9c
 replace HB2 := kB HB2 j9c
 refine ckk hK9 (by exact ⟨kD HB15 0, kD HB15 1, kD HB15 2, kD HB20 0, kD HB20 1, kD HB20 2, kD HB2 0, kD HB2 1, kD HB2 2⟩) (h := ?_)
 clear hK9 K9
 refine sop (h := fun K9 hK9 => ?_)
 go_simp
 have jm12 := tt (tt (tt (tt (tt jm4 j7) j5c) j8) j6c) j9
 have jm13 := tt jm11 j9c
 replace HX0 := kV jm13 (kW TW22 (kV jm12 HX0))
 refine mQ (add_any _ _ h h _ HX0.out HX0.out (HQ.out.up (by omega)) (HQ.out.up (by omega))) fun w10 g10a A10a k10a c10a A10b k10b c10b HR10 j10c => ?_
 replace HB15 := kB HB15 j10c
 replace HB20 := kB HB20 j10c
 replace HB2 := kB HB2 j10c
 refine ckk hK9 (by exact ⟨kD HB15 0, kD HB15 1, kD HB15 2, kD HB20 0, kD HB20 1, kD HB20 2, kD HB2 0, kD HB2 1, kD HB2 2⟩) (h := ?_)
 clear hK9 K9
 refine sop (h := fun K9 hK9 => ?_)
 go_simp
 have jm14 := tt j9c j10c
 replace HR6 := kV jm14 HR6
 refine mQ (ratioB_any _ _ (h + h) (1 + h * h) _ HR10.out HR6.out HNZ.out ((sum_sizes HQ.out HQ.out).up (by omega)) ((sum_sizes qs_one HSQ.out).up (by omega))) fun w11 g11a A11a k11a c11a A11b k11b c11b HR11 j11c => ?_
 replace HB15 := kB HB15 j11c
 replace HB20 := kB HB20 j11c
 replace HB2 := kB HB2 j11c
 refine ckk hK9 (by exact ⟨kD HB15 0, kD HB15 1, kD HB15 2, kD HB20 0, kD HB20 1, kD HB20 2, kD HB2 0, kD HB2 1, kD HB2 2⟩) (h := ?_)
 clear hK9 K9
 refine sop (h := fun K9 hK9 => ?_)
 have jm15 := tt (tt jm13 j10c) j11c
 replace HB4 := kB (kO (kM HW22) (kB HB4 jm8) n4b20.out) jm15
 have t24h := kth 0 3 HB4
 refine smw 32 (w.heap.size + 1) 0 (ht := by exact t24h) (h := ?_)
 obtain ⟨W25, HW25⟩ : ∃ W, Hid (W = w11.setCells (w.heap.size + 1) 0 [.bool g9a, .slice A9a k9a c9a, .slice A9b k9b c9b]) := ⟨_, rfl⟩
 have TW25 := kN (kM HW25) HB4 rfl rfl
 replace HB4 := kPf (kM HW25) HB4 rfl
 rw [← HW25.out]
 replace HB15 := kO (kM HW25) HB15 n4b15.out.symm
 replace HB20 := kO (kM HW25) HB20 n4b20.out.symm
 replace HB2 := kO (kM HW25) HB2 n2b4.out
 refine ckk hK9 (by exact ⟨kD HB15 0, kD HB15 1, kD HB15 2, kD HB20 0, kD HB20 1, kD HB20 2, kD HB2 0, kD HB2 1, kD HB2 2⟩) (h := ?_)
 clear hK9 K9 t24h
 refine sop (h := fun K9 hK9 => ?_)
 replace HB6 := kO (kM HW25) (kB (kO (kM HW22) (kB HB6 jm8) n6b20.out) jm15) n4b6.out.symm
 have t26h := kth 0 3 HB6
 refine smw 32 (w.heap.size + 2) 0 (ht := by exact t26h) (h := ?_)
 obtain ⟨W27, HW27⟩ : ∃ W, Hid (W = W25.setCells (w.heap.size + 2) 0 [.bool g11a, .slice A11a k11a c11a, .slice A11b k11b c11b]) := ⟨_, rfl⟩
 have TW27 := kN (kM HW27) HB6 rfl rfl
 replace HB6 := kPf (kM HW27) HB6 rfl
 rw [← HW27.out]
 replace HB15 := kO (kM HW27) HB15 n6b15.out.symm
 replace HB20 := kO (kM HW27) HB20 n6b20.out.symm
 replace HB2 := kO (kM HW27) HB2 n2b6.out
 refine ckk hK9 (by exact ⟨kD HB15 0, kD HB15 1, kD HB15 2, kD HB20 0, kD HB20 1, kD HB20 2, kD HB2 0, kD HB2 1, kD HB2 2⟩) (h := ?_)
 clear hK9 K9 t26h
 refine tk0 (h := ?_)
 refine seq_done (by kernel_rfl) ?_
 go_wp2_with fail
 replace HB4 := kO (kM HW27) HB4 n4b6.out
 have jm16 := tt j10c j11c
 replace HR9 := kW TW27 (kW TW25 (kV jm16 HR9))
 replace HR11 := kW TW27 (kW TW25 HR11)
 replace HBw := kS (kM HW27) l6b (kS (kM HW25) l4b (kU (kS (kM HW22) l20b (kU HBw jm8)) jm15))
 exact bodyPost_ret (v := .tuple #[.agg #[.bool g9a, .slice A9a k9a c9a, .slice A9b k9b c9b], .agg #[.bool g11a, .slice A11a k11a c11a, .slice A11b k11b c11b], .int .i64 0]) (results_cct rfl (by rfl) (blk_all HB4.out) Tryz.underlying32 rfl (by kernel_rfl) (by rfl) (blk_all HB6.out) Tryz.underlying32 rfl (by kernel_rfl) (by rfl)) rfl ⟨⟨_, _, rfl, HR9.out, HR11.out⟩, HBw.out⟩
end Go.Proofs.YtodckaioeomccaaGreat
