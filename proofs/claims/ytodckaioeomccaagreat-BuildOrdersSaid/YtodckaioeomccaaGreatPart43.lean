/- Walks of cuts: Angle. -/
import Derived.Test.YtodckaioeomccaaGreatPart39
namespace Go.Proofs.YtodckaioeomccaaGreat
open Go.RowKit
set_option linter.unusedVariables false
set_option linter.unusedSimpArgs false
/-- Two results in cells, then one in a slot. -/
theorem results_cct {P : Program} {fn : Func} {t u v b c : Nat} {ty ty' : TypeId} {tmps : Array Value} {w : World} {d d' : TypeDesc} {cs ds : List Value} {e : Value} (h : fn.results = #[.cell t ty, .cell u ty', .tmp v])
    (hp : tmps.getD t undef = .pointer (some ⟨b, 0, none⟩)) (hc : w.rangeAt b 0 cs) (hu : P.underlying ty = some d) (hd : d.isRow = true) (hi : (P.info? ty).map (·.size) = some cs.length)
    (hp' : tmps.getD u undef = .pointer (some ⟨c, 0, none⟩)) (hc' : w.rangeAt c 0 ds) (hu' : P.underlying ty' = some d') (hd' : d'.isRow = true) (hi' : (P.info? ty').map (·.size) = some ds.length) (he : tmps.getD v undef = e) :
    (results fn tmps).run P w = .ok (.tuple #[.agg cs.toArray, .agg ds.toArray, e]) w := by
  subst he
  have hl := run_loadVar_mid w b 0 ty cs d hc hu hd hi
  have hl' := run_loadVar_mid w c 0 ty' ds d' hc' hu' hd' hi'
  rw [Array.getD_eq_getD_getElem?] at hp hp'
  simp [results, h, hp, hp', asAddr, hl, hl']
theorem sum_sizes {a b : Nat} {x y : Rat} (h : QS a x) (k : QS b y) : QS (a + b + 1) (x + y) := by
  have hz : x.den * y.den ≠ 0 := Nat.mul_ne_zero x.den_nz y.den_nz
  rw [Rat.add_def' x y]
  obtain ⟨h2, h3⟩ := mk_sizes (z := x.num * y.den + y.num * x.den) hz
  refine ⟨Nat.le_trans (dl_mono h2) ?_, Nat.le_trans (dl_mono h3) ?_⟩
  · have e1 := dl_imul x.num y.den
    have e2 := dl_imul y.num x.den
    have := dl_two (x.num * y.den) (y.num * x.den)
    have := h.1; have := h.2; have := k.1; have := k.2
    omega
  · have := dl_mul x.den y.den; have := h.2; have := k.2; omega
theorem sub_sizes {a b : Nat} {x y : Rat} (h : QS a x) (k : QS b y) : QS (a + b + 1) (x - y) := by rw [Rat.sub_eq_add_neg]; exact sum_sizes h k.neg
theorem sign_is (v : Value) (x : Rat) (s : Int) (w : World) (hv : RdQ w v x) (hs : Int.sign x.num = s) : Calls Tryz.prog 118 #[v] w fun e w' => e = .returned (.int .i64 s) ∧ Below w.heap.size w w' := hs ▸ sign_any v x w hv
theorem cmp_is (v u : Value) (x y : Rat) (s : Int) (w : World) (hv : RdQ w v x) (hu : RdQ w u y) (hx6 : QS 100000 x) (hy6 : QS 100000 y) (hs : Int.sign (x - y).num = s) : Calls Tryz.prog 76 #[v, u] w fun e w' => e = .returned (.int .i64 s) ∧ Below w.heap.size w w' := hs ▸ cmpQ_any v u x y w hv hu hx6 hy6
theorem qs_one : QS 1 (1 : Rat) := ⟨by show dl 1 ≤ 1; rw [dl_one]; exact Nat.le_refl _, by show dl 1 ≤ 1; rw [dl_one]; exact Nat.le_refl _⟩
theorem num_nn (x : Rat) : 0 ≤ x.num ↔ 0 ≤ x := by exact Rat.num_nonneg
theorem num_pos' (x : Rat) : 0 < x.num ↔ 0 < x := by
  have h1 := num_nn x
  have h2 : x.num = 0 ↔ x = 0 := Rat.num_eq_zero
  constructor
  · intro h
    have a := h1.1 (by omega)
    have b : x ≠ 0 := fun e => by have := h2.2 e; omega
    grind
  · intro h
    have a := h1.2 (by grind)
    have b : x.num ≠ 0 := fun e => by have := h2.1 e; grind
    omega
theorem num_neg' (x : Rat) : x.num < 0 ↔ x < 0 := by
  have h1 := num_nn x
  constructor
  · intro h
    have : ¬ 0 ≤ x := fun e => by have := h1.2 e; omega
    grind
  · intro h
    refine Int.not_le.1 fun e => ?_
    have := h1.1 e; grind
theorem sq_nn' (x : Rat) : 0 ≤ x * x := by
  rcases Rat.le_total (a := 0) (b := x) with h | h
  · exact Rat.mul_nonneg h h
  · have := Rat.mul_nonneg (a := -x) (b := -x) (by grind) (by grind); grind
theorem num_sign (x : Rat) : (Int.sign x.num = 1 ↔ 0 < x) ∧ (Int.sign x.num = 0 ↔ x = 0) ∧ (Int.sign x.num = -1 ↔ x < 0) := by
  refine ⟨?_, ?_, ?_⟩
  · rw [Int.sign_eq_one_iff_pos, num_pos']
  · rw [Int.sign_eq_zero_iff_zero, Rat.num_eq_zero]
  · rw [Int.sign_eq_neg_one_iff_neg, num_neg']
set_option maxRecDepth 100000 in
set_option maxHeartbeats 4000000 in
theorem angle_pn (v : Value) (h : Rat) (w : World) (hv : RdQ w v h) (hq : QS 10000 h) (hs : Int.sign h.num = 1) (hc : Int.sign (h - 1).num = (-1)) :
    Calls Tryz.prog 37 #[v] w fun e w' => (∃ v1 v2, e = .returned (.tuple #[v1, v2, .int .i64 0]) ∧ RdQ w' v1 ((1 - h * h) / (1 + h * h)) ∧ RdQ w' v2 ((h + h) / (1 + h * h))) ∧ Below w.heap.size w w' := by
  have HQ := Lib.hid hq
  have HS := Lib.hid hs
  have HC := Lib.hid hc
  have HSQ := Lib.hid (hq.mul hq)
  have HNZ : Hid (1 + h * h ≠ 0) := by show _ ≠ _; have := sq_nn' h; grind
  clear hq hs hc
  obtain ⟨gp0a, Ap0a, kp0a, cp0a, Ap0b, kp0b, cp0b, rfl, hv⟩ := hv.open
  have HX0 := Lib.hid hv
  clear hv
  go_enter Tryz.func37, Tryz.ntmps37
  obtain ⟨W1, HW1, HB2, HSZ_W1, hbx⟩ := st_al0 w #[Value.bool gp0a, Value.slice Ap0a kp0a cp0a, Value.slice Ap0b kp0b cp0b] 32
  have hT := Wd.of_below hbx
  replace HX0 := kW hT HX0
  clear hT
  have HBw := Lib.hid hbx
  clear hbx
  obtain ⟨W3, HW3, HB4, HSZ_W3, hbx⟩ := st_alk 1 2 #[Value.bool false, Value.slice none 0 0, Value.slice none 0 0] 32 HSZ_W1 rfl
  have HNE_B2_B4 : Hid (w.heap.size ≠ w.heap.size + 1) := by show _ ≠ _; have hlt := blk_lt HB2.out; omega
  replace HB2 := kB HB2 hbx
  have HLE_B4 : Hid (w.heap.size ≤ w.heap.size + 1) := by show _ ≤ _; have hlt := HBw.out.size; omega
  have hT := Wd.of_below hbx
  replace HX0 := kW hT HX0
  clear hT
  replace HBw := kU HBw hbx
  clear hbx
  obtain ⟨W5, HW5, HB6, HSZ_W5, hbx⟩ := st_alk 2 3 #[Value.bool false, Value.slice none 0 0, Value.slice none 0 0] 32 HSZ_W3 rfl
  have HNE_B2_B6 : Hid (w.heap.size ≠ w.heap.size + 2) := by show _ ≠ _; have hlt := blk_lt HB2.out; omega
  replace HB2 := kB HB2 hbx
  have HNE_B4_B6 : Hid (w.heap.size + 1 ≠ w.heap.size + 2) := by show _ ≠ _; have hlt := blk_lt HB4.out; omega
  replace HB4 := kB HB4 hbx
  have HLE_B6 : Hid (w.heap.size ≤ w.heap.size + 2) := by show _ ≤ _; have hlt := HBw.out.size; omega
  have hT := Wd.of_below hbx
  replace HX0 := kW hT HX0
  clear hT
  replace HBw := kU HBw hbx
  clear hbx
  go_wp2_with fail
  rw [← HW1.out, ← HW3.out, ← HW5.out]
  obtain ⟨W7, hW7⟩ : ∃ W, W = W5.drew := ⟨_, rfl⟩
  have hbx : Below W5.heap.size W5 W7 := by rw [hW7]; exact (Below.refl _ _).drew
  replace HB2 := kB HB2 hbx
  replace HB4 := kB HB4 hbx
  replace HB6 := kB HB6 hbx
  have hT := Wd.of_below hbx
  replace HX0 := kW hT HX0
  clear hT
  replace HBw := kU HBw hbx
  clear hbx
  refine seq_start (S := fun w' => w'.cell? ⟨w.heap.size, 0, none⟩ = some (Value.bool gp0a) ∧ w'.cell? ⟨w.heap.size, 1, none⟩ = some (Value.slice Ap0a kp0a cp0a) ∧ w'.cell? ⟨w.heap.size, 2, none⟩ = some (Value.slice Ap0b kp0b cp0b)) (by kernel_rfl) (by kernel_rfl) (by rw [← hW7]; exact ⟨kD HB2 0, kD HB2 1, kD HB2 2⟩) ?_
  rw [← hW7]
  clear hW7
  (refine seq_take0 (v := ?_) ?_ (fun _ _ _ h => h) (by kernel_rfl) ?_ ?_; rotate_left; (focus rfl); (focus (intro w' hSw; (try dsimp only at hSw); go_simp; (try with_reducible rfl); done)); (try simp only [Act.put, List.setIfInBounds_toArray, List.set_cons_zero, List.set_cons_succ]))
  refine seq_op (by kernel_rfl) (by rfl) (fun K9 hK9 => ?_)
  go_simp
  refine (sign_is _ h 1 _ HX0.out HS.out).mono ?_
  rintro e w1 ⟨rfl, hbx⟩
  replace HB2 := kB HB2 hbx
  replace HB4 := kB HB4 hbx
  replace HB6 := kB HB6 hbx
  have hT := Wd.of_below hbx
  replace HX0 := kW hT HX0
  clear hT
  replace HBw := kU HBw hbx
  clear hbx
  refine hK9.out _ _ (by exact ⟨kD HB2 0, kD HB2 1, kD HB2 2⟩) ?_
  clear hK9 K9
  (try simp only [Act.put, List.setIfInBounds_toArray, List.set_cons_zero, List.set_cons_succ])
  iterate 2 (refine seq_take0 (v := ?_) ?_ (fun _ _ _ h => h) (by kernel_rfl) ?_ ?_; rotate_left; (focus rfl); (focus (intro w' hSw; (try dsimp only at hSw); go_simp; (try with_reducible rfl); done)); (try simp only [Act.put, List.setIfInBounds_toArray, List.set_cons_zero, List.set_cons_succ]))
  (refine seq_takeG (v := ?_) (g := ?_) (d := ?_) (b := ?_) (u := ?_) ?_ ?_ ?_ ?_ (fun _ _ _ h => h) (by kernel_rfl) ?_ ?_; rotate_left 5; (focus rfl); (focus rfl); (focus rfl); (focus (first | rfl | (go_simp; done))); (focus (intro w' hSw; (try dsimp only at hSw); go_simp; (try with_reducible rfl); done)); (try simp only [Act.put, List.setIfInBounds_toArray, List.set_cons_zero, List.set_cons_succ]))
  refine seq_op (by kernel_rfl) (by rfl) (fun K9 hK9 => ?_)
  go_simp
  refine (one_any _).mono ?_
  rintro e w2 ⟨⟨vx, rfl, hr⟩, hbx⟩
  obtain ⟨g2a, A2a, k2a, c2a, A2b, k2b, c2b, rfl, hr⟩ := hr.open
  replace HB2 := kB HB2 hbx
  replace HB4 := kB HB4 hbx
  replace HB6 := kB HB6 hbx
  have hT := Wd.of_below hbx
  replace HX0 := kW hT HX0
  clear hT
  replace HBw := kU HBw hbx
  have HR2 := Lib.hid hr
  clear hr
  clear hbx
  refine hK9.out _ _ (by exact ⟨kD HB2 0, kD HB2 1, kD HB2 2⟩) ?_
  clear hK9 K9
  (try simp only [Act.put, List.setIfInBounds_toArray, List.set_cons_zero, List.set_cons_succ])
  refine seq_op (by kernel_rfl) (by rfl) (fun K9 hK9 => ?_)
  go_simp
  refine (cmp_is _ _ h 1 (-1) _ HX0.out HR2.out (HQ.out.up (by omega)) (qs_one.up (by omega)) HC.out).mono ?_
  rintro e w3 ⟨rfl, hbx⟩
  replace HB2 := kB HB2 hbx
  replace HB4 := kB HB4 hbx
  replace HB6 := kB HB6 hbx
  have hT := Wd.of_below hbx
  replace HX0 := kW hT HX0
  replace HR2 := kW hT HR2
  clear hT
  replace HBw := kU HBw hbx
  clear HR2
  clear hbx
  refine hK9.out _ _ (by exact ⟨kD HB2 0, kD HB2 1, kD HB2 2⟩) ?_
  clear hK9 K9
  (try simp only [Act.put, List.setIfInBounds_toArray, List.set_cons_zero, List.set_cons_succ])
  (refine seq_takeG (v := ?_) (g := ?_) (d := ?_) (b := ?_) (u := ?_) ?_ ?_ ?_ ?_ (fun _ _ _ h => h) (by kernel_rfl) ?_ ?_; rotate_left 5; (focus rfl); (focus rfl); (focus rfl); (focus (first | rfl | (go_simp; done))); (focus (intro w' hSw; (try dsimp only at hSw); go_simp; (try with_reducible rfl); done)); (try simp only [Act.put, List.setIfInBounds_toArray, List.set_cons_zero, List.set_cons_succ]))
  (refine seq_take0 (v := ?_) ?_ (fun _ _ _ h => h) (by kernel_rfl) ?_ ?_; rotate_left; (focus rfl); (focus (intro w' hSw; (try dsimp only at hSw); go_simp; (try with_reducible rfl); done)); (try simp only [Act.put, List.setIfInBounds_toArray, List.set_cons_zero, List.set_cons_succ]))
  refine seq_done (by kernel_rfl) ?_
  have c8 := kC HB2 0 rfl
  have c9 := kC HB2 1 rfl
  have c10 := kC HB2 2 rfl
  have c11 := kC HB2 0 rfl
  have c12 := kC HB2 1 rfl
  have c13 := kC HB2 2 rfl
  go_wp2_with fail
  clear c8 c9 c10 c11 c12 c13
  refine (mul_any _ _ h h _ HX0.out HX0.out (HQ.out.up (by omega)) (HQ.out.up (by omega))).mono ?_
  rintro e w4 ⟨⟨vx, rfl, hr⟩, hbx⟩
  obtain ⟨g4a, A4a, k4a, c4a, A4b, k4b, c4b, rfl, hr⟩ := hr.open
  replace HB2 := kB HB2 hbx
  replace HB4 := kB HB4 hbx
  replace HB6 := kB HB6 hbx
  have hT := Wd.of_below hbx
  replace HX0 := kW hT HX0
  clear hT
  replace HBw := kU HBw hbx
  have HR4 := Lib.hid hr
  clear hr
  clear hbx
  obtain ⟨W14, HW14, HB15, HSZ_W14, hbx⟩ := st_al0 w4 #[Value.bool g4a, Value.slice A4a k4a c4a, Value.slice A4b k4b c4b] 32
  replace HB2 := kB HB2 hbx
  have HNE_B4_B15 : Hid (w.heap.size + 1 ≠ w4.heap.size) := by show _ ≠ _; have hlt := blk_lt HB4.out; omega
  replace HB4 := kB HB4 hbx
  have HNE_B6_B15 : Hid (w.heap.size + 2 ≠ w4.heap.size) := by show _ ≠ _; have hlt := blk_lt HB6.out; omega
  replace HB6 := kB HB6 hbx
  have hT := Wd.of_below hbx
  replace HX0 := kW hT HX0
  replace HR4 := kW hT HR4
  clear hT
  replace HBw := kU HBw hbx
  clear hbx
  go_wp2_with fail
  rw [← HW14.out]
  obtain ⟨W16, hW16⟩ : ∃ W, W = W14.drew := ⟨_, rfl⟩
  have hbx : Below W14.heap.size W14 W16 := by rw [hW16]; exact (Below.refl _ _).drew
  replace HB2 := kB HB2 hbx
  replace HB4 := kB HB4 hbx
  replace HB6 := kB HB6 hbx
  replace HB15 := kB HB15 hbx
  have hT := Wd.of_below hbx
  replace HX0 := kW hT HX0
  replace HR4 := kW hT HR4
  clear hT
  replace HBw := kU HBw hbx
  clear hbx
  refine seq_start (S := fun w' => w'.cell? ⟨w4.heap.size, 0, none⟩ = some (Value.bool g4a) ∧ w'.cell? ⟨w4.heap.size, 1, none⟩ = some (Value.slice A4a k4a c4a) ∧ w'.cell? ⟨w4.heap.size, 2, none⟩ = some (Value.slice A4b k4b c4b)) (by kernel_rfl) (by kernel_rfl) (by rw [← hW16]; exact ⟨kD HB15 0, kD HB15 1, kD HB15 2⟩) ?_
  rw [← hW16]
  clear hW16
  (refine seq_pull 1 ?_; simp only [places, pull]; (refine seq_take0 (v := ?_) ?_ (fun _ _ _ h => h) (by kernel_rfl) ?_ ?_; rotate_left; (focus rfl); (focus (intro w' hSw; (try dsimp only at hSw); go_simp; (try with_reducible rfl); done)); (try simp only [Act.put, List.setIfInBounds_toArray, List.set_cons_zero, List.set_cons_succ])))
  refine seq_pull 2 ?_
  simp only [places, pull]
  refine seq_pull 1 ?_
  simp only [places, pull]
  refine seq_both ?_ ?_ ?_ ?_ ?_
  · kernel_rfl
  · rfl
  · rfl
  · intro K9 hK9
    go_simp
    refine (one_any _).mono ?_
    rintro e w5 ⟨⟨vx, rfl, hr⟩, hbx⟩
    obtain ⟨g5a, A5a, k5a, c5a, A5b, k5b, c5b, rfl, hr⟩ := hr.open
    replace HB2 := kB HB2 hbx
    replace HB4 := kB HB4 hbx
    replace HB6 := kB HB6 hbx
    replace HB15 := kB HB15 hbx
    have hT := Wd.of_below hbx
    replace HX0 := kW hT HX0
    replace HR4 := kW hT HR4
    clear hT
    replace HBw := kU HBw hbx
    have HR5 := Lib.hid hr
    clear hr
    clear hbx
    refine hK9.out _ _ (by exact ⟨kD HB15 0, kD HB15 1, kD HB15 2⟩) ?_
    clear hK9 K9
    (try simp only [Act.put, List.setIfInBounds_toArray, List.set_cons_zero, List.set_cons_succ])
    refine seq_pull 1 ?_
    simp only [places, pull]
    refine seq_pull 1 ?_
    simp only [places, pull]
    refine seq_both ?_ ?_ ?_ ?_ ?_
    · kernel_rfl
    · rfl
    · rfl
    · intro K9 hK9
      go_simp
      obtain ⟨W17, HW17, HB18, HSZ_W17, hbx⟩ := st_al0 w5 #[Value.bool false, Value.slice none 0 0, Value.slice none 0 0] 32
      have HNE_B2_B18 : Hid (w.heap.size ≠ w5.heap.size) := by show _ ≠ _; have hlt := blk_lt HB2.out; omega
      replace HB2 := kB HB2 hbx
      have HNE_B4_B18 : Hid (w.heap.size + 1 ≠ w5.heap.size) := by show _ ≠ _; have hlt := blk_lt HB4.out; omega
      replace HB4 := kB HB4 hbx
      have HNE_B6_B18 : Hid (w.heap.size + 2 ≠ w5.heap.size) := by show _ ≠ _; have hlt := blk_lt HB6.out; omega
      replace HB6 := kB HB6 hbx
      have HNE_B15_B18 : Hid (w4.heap.size ≠ w5.heap.size) := by show _ ≠ _; have hlt := blk_lt HB15.out; omega
      replace HB15 := kB HB15 hbx
      have HLE_B18 : Hid (w.heap.size ≤ w5.heap.size) := by show _ ≤ _; have hlt := HBw.out.size; omega
      have hT := Wd.of_below hbx
      replace HX0 := kW hT HX0
      replace HR4 := kW hT HR4
      replace HR5 := kW hT HR5
      clear hT
      replace HBw := kU HBw hbx
      clear hbx
      rw [← HW17.out]
      refine hK9.out _ _ (by exact ⟨kD HB15 0, kD HB15 1, kD HB15 2⟩) ?_
      clear hK9 K9
      (try simp only [Act.put, List.setIfInBounds_toArray, List.set_cons_zero, List.set_cons_succ])
      refine seq_op (by kernel_rfl) (by rfl) (fun K9 hK9 => ?_)
      go_simp
      refine (add_any _ _ 1 (h * h) _ HR5.out HR4.out (qs_one.up (by omega)) (HSQ.out.up (by omega))).mono ?_
      rintro e w6 ⟨⟨vx, rfl, hr⟩, hbx⟩
      obtain ⟨g6a, A6a, k6a, c6a, A6b, k6b, c6b, rfl, hr⟩ := hr.open
      replace HB2 := kB HB2 hbx
      replace HB4 := kB HB4 hbx
      replace HB6 := kB HB6 hbx
      replace HB15 := kB HB15 hbx
      replace HB18 := kB HB18 hbx
      have hT := Wd.of_below hbx
      replace HX0 := kW hT HX0
      replace HR4 := kW hT HR4
      replace HR5 := kW hT HR5
      clear hT
      replace HBw := kU HBw hbx
      have HR6 := Lib.hid hr
      clear hr
      clear HR5
      clear hbx
      refine hK9.out _ _ (by exact ⟨kD HB15 0, kD HB15 1, kD HB15 2⟩) ?_
      clear hK9 K9
      (try simp only [Act.put, List.setIfInBounds_toArray, List.set_cons_zero, List.set_cons_succ])
      refine seq_op (by kernel_rfl) (by rfl) (fun K9 hK9 => ?_)
      have HTH19 : Hid (w6.there (w5.heap.size) 0 3) := blk_there HB18.out (Nat.le_of_ble_eq_true rfl)
      refine wp_store_mid 32 _ _ (by rfl) (w5.heap.size) 0 _ (by rfl) (by rfl) (by exact HTH19.out) (by kernel_rfl) (by kernel_rfl) ?_
      obtain ⟨W20, HW20⟩ : ∃ W, Hid (W = w6.setCells (w5.heap.size) 0 [Value.bool g6a, Value.slice A6a k6a c6a, Value.slice A6b k6b c6b]) := ⟨_, rfl⟩
      have hS := kM HW20
      have hT := kN hS HB18 rfl rfl
      replace HX0 := kW hT HX0
      replace HR4 := kW hT HR4
      replace HR6 := kW hT HR6
      clear hT
      replace HB2 := kO hS HB2 HNE_B2_B18.out
      replace HB4 := kO hS HB4 HNE_B4_B18.out
      replace HB6 := kO hS HB6 HNE_B6_B18.out
      replace HB15 := kO hS HB15 HNE_B15_B18.out
      replace HB18 := kP (ds := [Value.bool g6a, Value.slice A6a k6a c6a, Value.slice A6b k6b c6b]) hS HB18 rfl rfl
      replace HBw := kS hS HLE_B18 HBw
      clear hS
      rw [← HW20.out]
      refine hK9.out _ _ (by exact ⟨kD HB15 0, kD HB15 1, kD HB15 2⟩) ?_
      clear hK9 K9 HTH19
      (try simp only [Act.put, List.setIfInBounds_toArray, List.set_cons_zero, List.set_cons_succ])
      refine seq_done (by kernel_rfl) ?_
      go_wp2_with fail
      obtain ⟨W21, hW21⟩ : ∃ W, W = W20.drew := ⟨_, rfl⟩
      have hbx : Below W20.heap.size W20 W21 := by rw [hW21]; exact (Below.refl _ _).drew
      replace HB2 := kB HB2 hbx
      replace HB4 := kB HB4 hbx
      replace HB6 := kB HB6 hbx
      replace HB15 := kB HB15 hbx
      replace HB18 := kB HB18 hbx
      have hT := Wd.of_below hbx
      replace HX0 := kW hT HX0
      replace HR4 := kW hT HR4
      replace HR6 := kW hT HR6
      clear hT
      replace HBw := kU HBw hbx
      clear hbx
      refine seq_start (S := fun w' => w'.cell? ⟨w4.heap.size, 0, none⟩ = some (Value.bool g4a) ∧ w'.cell? ⟨w4.heap.size, 1, none⟩ = some (Value.slice A4a k4a c4a) ∧ w'.cell? ⟨w4.heap.size, 2, none⟩ = some (Value.slice A4b k4b c4b) ∧ w'.cell? ⟨w5.heap.size, 0, none⟩ = some (Value.bool g6a) ∧ w'.cell? ⟨w5.heap.size, 1, none⟩ = some (Value.slice A6a k6a c6a) ∧ w'.cell? ⟨w5.heap.size, 2, none⟩ = some (Value.slice A6b k6b c6b) ∧ w'.cell? ⟨w.heap.size, 0, none⟩ = some (Value.bool gp0a) ∧ w'.cell? ⟨w.heap.size, 1, none⟩ = some (Value.slice Ap0a kp0a cp0a) ∧ w'.cell? ⟨w.heap.size, 2, none⟩ = some (Value.slice Ap0b kp0b cp0b)) (by kernel_rfl) (by kernel_rfl) (by rw [← hW21]; exact ⟨kD HB15 0, kD HB15 1, kD HB15 2, kD HB18 0, kD HB18 1, kD HB18 2, kD HB2 0, kD HB2 1, kD HB2 2⟩) ?_
      rw [← hW21]
      clear hW21
      (refine seq_pull 1 ?_; simp only [places, pull]; (refine seq_take0 (v := ?_) ?_ (fun _ _ _ h => h) (by kernel_rfl) ?_ ?_; rotate_left; (focus rfl); (focus (intro w' hSw; (try dsimp only at hSw); go_simp; (try with_reducible rfl); done)); (try simp only [Act.put, List.setIfInBounds_toArray, List.set_cons_zero, List.set_cons_succ])))
      (refine seq_pull 2 ?_; simp only [places, pull]; (refine seq_take0 (v := ?_) ?_ (fun _ _ _ h => h) (by kernel_rfl) ?_ ?_; rotate_left; (focus rfl); (focus (intro w' hSw; (try dsimp only at hSw); go_simp; (try with_reducible rfl); done)); (try simp only [Act.put, List.setIfInBounds_toArray, List.set_cons_zero, List.set_cons_succ])))
      iterate 2 (refine seq_pull 3 ?_; simp only [places, pull]; (refine seq_take0 (v := ?_) ?_ (fun _ _ _ h => h) (by kernel_rfl) ?_ ?_; rotate_left; (focus rfl); (focus (intro w' hSw; (try dsimp only at hSw); go_simp; (try with_reducible rfl); done)); (try simp only [Act.put, List.setIfInBounds_toArray, List.set_cons_zero, List.set_cons_succ])))
      (refine seq_pull 4 ?_; simp only [places, pull]; (refine seq_take0 (v := ?_) ?_ (fun _ _ _ h => h) (by kernel_rfl) ?_ ?_; rotate_left; (focus rfl); (focus (intro w' hSw; (try dsimp only at hSw); go_simp; (try with_reducible rfl); done)); (try simp only [Act.put, List.setIfInBounds_toArray, List.set_cons_zero, List.set_cons_succ])))
      refine seq_op (by kernel_rfl) (by rfl) (fun K9 hK9 => ?_)
      go_simp
      refine (one_any _).mono ?_
      rintro e w7 ⟨⟨vx, rfl, hr⟩, hbx⟩
      obtain ⟨g7a, A7a, k7a, c7a, A7b, k7b, c7b, rfl, hr⟩ := hr.open
      replace HB2 := kB HB2 hbx
      replace HB4 := kB HB4 hbx
      replace HB6 := kB HB6 hbx
      replace HB15 := kB HB15 hbx
      replace HB18 := kB HB18 hbx
      have hT := Wd.of_below hbx
      replace HX0 := kW hT HX0
      replace HR4 := kW hT HR4
      replace HR6 := kW hT HR6
      clear hT
      replace HBw := kU HBw hbx
      have HR7 := Lib.hid hr
      clear hr
      clear hbx
      refine hK9.out _ _ (by exact ⟨kD HB15 0, kD HB15 1, kD HB15 2, kD HB18 0, kD HB18 1, kD HB18 2, kD HB2 0, kD HB2 1, kD HB2 2⟩) ?_
      clear hK9 K9
      (try simp only [Act.put, List.setIfInBounds_toArray, List.set_cons_zero, List.set_cons_succ])
      refine seq_op (by kernel_rfl) (by rfl) (fun K9 hK9 => ?_)
      go_simp
      refine (sub_any _ _ 1 (h * h) _ HR7.out HR4.out (qs_one.up (by omega)) (HSQ.out.up (by omega))).mono ?_
      rintro e w8 ⟨⟨vx, rfl, hr⟩, hbx⟩
      obtain ⟨g8a, A8a, k8a, c8a, A8b, k8b, c8b, rfl, hr⟩ := hr.open
      replace HB2 := kB HB2 hbx
      replace HB4 := kB HB4 hbx
      replace HB6 := kB HB6 hbx
      replace HB15 := kB HB15 hbx
      replace HB18 := kB HB18 hbx
      have hT := Wd.of_below hbx
      replace HX0 := kW hT HX0
      replace HR4 := kW hT HR4
      replace HR6 := kW hT HR6
      replace HR7 := kW hT HR7
      clear hT
      replace HBw := kU HBw hbx
      have HR8 := Lib.hid hr
      clear hr
      clear HR7
      clear hbx
      refine hK9.out _ _ (by exact ⟨kD HB15 0, kD HB15 1, kD HB15 2, kD HB18 0, kD HB18 1, kD HB18 2, kD HB2 0, kD HB2 1, kD HB2 2⟩) ?_
      clear hK9 K9
      (try simp only [Act.put, List.setIfInBounds_toArray, List.set_cons_zero, List.set_cons_succ])
      refine seq_op (by kernel_rfl) (by rfl) (fun K9 hK9 => ?_)
      go_simp
      refine (ratioB_any _ _ (1 - h * h) (1 + h * h) _ HR8.out HR6.out HNZ.out ((sub_sizes qs_one HSQ.out).up (by omega)) ((sum_sizes qs_one HSQ.out).up (by omega))).mono ?_
      rintro e w9 ⟨⟨vx, rfl, hr⟩, hbx⟩
      obtain ⟨g9a, A9a, k9a, c9a, A9b, k9b, c9b, rfl, hr⟩ := hr.open
      replace HB2 := kB HB2 hbx
      replace HB4 := kB HB4 hbx
      replace HB6 := kB HB6 hbx
      replace HB15 := kB HB15 hbx
      replace HB18 := kB HB18 hbx
      have hT := Wd.of_below hbx
      replace HX0 := kW hT HX0
      replace HR4 := kW hT HR4
      replace HR6 := kW hT HR6
      replace HR8 := kW hT HR8
      clear hT
      replace HBw := kU HBw hbx
      have HR9 := Lib.hid hr
      clear hr
      clear HR8
      clear hbx
      refine hK9.out _ _ (by exact ⟨kD HB15 0, kD HB15 1, kD HB15 2, kD HB18 0, kD HB18 1, kD HB18 2, kD HB2 0, kD HB2 1, kD HB2 2⟩) ?_
      clear hK9 K9
      (try simp only [Act.put, List.setIfInBounds_toArray, List.set_cons_zero, List.set_cons_succ])
      refine seq_op (by kernel_rfl) (by rfl) (fun K9 hK9 => ?_)
      go_simp
      refine (add_any _ _ h h _ HX0.out HX0.out (HQ.out.up (by omega)) (HQ.out.up (by omega))).mono ?_
      rintro e w10 ⟨⟨vx, rfl, hr⟩, hbx⟩
      obtain ⟨g10a, A10a, k10a, c10a, A10b, k10b, c10b, rfl, hr⟩ := hr.open
      replace HB2 := kB HB2 hbx
      replace HB4 := kB HB4 hbx
      replace HB6 := kB HB6 hbx
      replace HB15 := kB HB15 hbx
      replace HB18 := kB HB18 hbx
      have hT := Wd.of_below hbx
      replace HX0 := kW hT HX0
      replace HR4 := kW hT HR4
      replace HR6 := kW hT HR6
      replace HR9 := kW hT HR9
      clear hT
      replace HBw := kU HBw hbx
      have HR10 := Lib.hid hr
      clear hr
      clear hbx
      refine hK9.out _ _ (by exact ⟨kD HB15 0, kD HB15 1, kD HB15 2, kD HB18 0, kD HB18 1, kD HB18 2, kD HB2 0, kD HB2 1, kD HB2 2⟩) ?_
      clear hK9 K9
      (try simp only [Act.put, List.setIfInBounds_toArray, List.set_cons_zero, List.set_cons_succ])
      refine seq_op (by kernel_rfl) (by rfl) (fun K9 hK9 => ?_)
      go_simp
      refine (ratioB_any _ _ (h + h) (1 + h * h) _ HR10.out HR6.out HNZ.out ((sum_sizes HQ.out HQ.out).up (by omega)) ((sum_sizes qs_one HSQ.out).up (by omega))).mono ?_
      rintro e w11 ⟨⟨vx, rfl, hr⟩, hbx⟩
      obtain ⟨g11a, A11a, k11a, c11a, A11b, k11b, c11b, rfl, hr⟩ := hr.open
      replace HB2 := kB HB2 hbx
      replace HB4 := kB HB4 hbx
      replace HB6 := kB HB6 hbx
      replace HB15 := kB HB15 hbx
      replace HB18 := kB HB18 hbx
      have hT := Wd.of_below hbx
      replace HX0 := kW hT HX0
      replace HR4 := kW hT HR4
      replace HR6 := kW hT HR6
      replace HR9 := kW hT HR9
      replace HR10 := kW hT HR10
      clear hT
      replace HBw := kU HBw hbx
      have HR11 := Lib.hid hr
      clear hr
      clear HR10
      clear hbx
      refine hK9.out _ _ (by exact ⟨kD HB15 0, kD HB15 1, kD HB15 2, kD HB18 0, kD HB18 1, kD HB18 2, kD HB2 0, kD HB2 1, kD HB2 2⟩) ?_
      clear hK9 K9
      (try simp only [Act.put, List.setIfInBounds_toArray, List.set_cons_zero, List.set_cons_succ])
      refine seq_op (by kernel_rfl) (by rfl) (fun K9 hK9 => ?_)
      have HTH22 : Hid (w11.there (w.heap.size + 1) 0 3) := blk_there HB4.out (Nat.le_of_ble_eq_true rfl)
      refine wp_store_mid 32 _ _ (by rfl) (w.heap.size + 1) 0 _ (by rfl) (by rfl) (by exact HTH22.out) (by kernel_rfl) (by kernel_rfl) ?_
      obtain ⟨W23, HW23⟩ : ∃ W, Hid (W = w11.setCells (w.heap.size + 1) 0 [Value.bool g9a, Value.slice A9a k9a c9a, Value.slice A9b k9b c9b]) := ⟨_, rfl⟩
      have hS := kM HW23
      have hT := kN hS HB4 rfl rfl
      replace HX0 := kW hT HX0
      replace HR4 := kW hT HR4
      replace HR6 := kW hT HR6
      replace HR9 := kW hT HR9
      replace HR11 := kW hT HR11
      clear hT
      replace HB2 := kO hS HB2 HNE_B2_B4.out
      replace HB4 := kP (ds := [Value.bool g9a, Value.slice A9a k9a c9a, Value.slice A9b k9b c9b]) hS HB4 rfl rfl
      replace HB6 := kO hS HB6 HNE_B4_B6.out.symm
      replace HB15 := kO hS HB15 HNE_B4_B15.out.symm
      replace HB18 := kO hS HB18 HNE_B4_B18.out.symm
      replace HBw := kS hS HLE_B4 HBw
      clear hS
      rw [← HW23.out]
      refine hK9.out _ _ (by exact ⟨kD HB15 0, kD HB15 1, kD HB15 2, kD HB18 0, kD HB18 1, kD HB18 2, kD HB2 0, kD HB2 1, kD HB2 2⟩) ?_
      clear hK9 K9 HTH22
      (try simp only [Act.put, List.setIfInBounds_toArray, List.set_cons_zero, List.set_cons_succ])
      refine seq_op (by kernel_rfl) (by rfl) (fun K9 hK9 => ?_)
      have HTH24 : Hid (W23.there (w.heap.size + 2) 0 3) := blk_there HB6.out (Nat.le_of_ble_eq_true rfl)
      refine wp_store_mid 32 _ _ (by rfl) (w.heap.size + 2) 0 _ (by rfl) (by rfl) (by exact HTH24.out) (by kernel_rfl) (by kernel_rfl) ?_
      obtain ⟨W25, HW25⟩ : ∃ W, Hid (W = W23.setCells (w.heap.size + 2) 0 [Value.bool g11a, Value.slice A11a k11a c11a, Value.slice A11b k11b c11b]) := ⟨_, rfl⟩
      have hS := kM HW25
      have hT := kN hS HB6 rfl rfl
      replace HX0 := kW hT HX0
      replace HR4 := kW hT HR4
      replace HR6 := kW hT HR6
      replace HR9 := kW hT HR9
      replace HR11 := kW hT HR11
      clear hT
      replace HB2 := kO hS HB2 HNE_B2_B6.out
      replace HB4 := kO hS HB4 HNE_B4_B6.out
      replace HB6 := kP (ds := [Value.bool g11a, Value.slice A11a k11a c11a, Value.slice A11b k11b c11b]) hS HB6 rfl rfl
      replace HB15 := kO hS HB15 HNE_B6_B15.out.symm
      replace HB18 := kO hS HB18 HNE_B6_B18.out.symm
      replace HBw := kS hS HLE_B6 HBw
      clear hS
      rw [← HW25.out]
      refine hK9.out _ _ (by exact ⟨kD HB15 0, kD HB15 1, kD HB15 2, kD HB18 0, kD HB18 1, kD HB18 2, kD HB2 0, kD HB2 1, kD HB2 2⟩) ?_
      clear hK9 K9 HTH24
      (try simp only [Act.put, List.setIfInBounds_toArray, List.set_cons_zero, List.set_cons_succ])
      (refine seq_take0 (v := ?_) ?_ (fun _ _ _ h => h) (by kernel_rfl) ?_ ?_; rotate_left; (focus rfl); (focus (intro w' hSw; (try dsimp only at hSw); go_simp; (try with_reducible rfl); done)); (try simp only [Act.put, List.setIfInBounds_toArray, List.set_cons_zero, List.set_cons_succ]))
      refine seq_done (by kernel_rfl) ?_
      go_wp2_with fail
      exact bodyPost_ret (v := .tuple #[.agg #[Value.bool g9a, Value.slice A9a k9a c9a, Value.slice A9b k9b c9b], .agg #[Value.bool g11a, Value.slice A11a k11a c11a, Value.slice A11b k11b c11b], .int .i64 0]) (results_cct rfl (by rfl) (blk_all HB4.out) Tryz.underlying32 rfl (by kernel_rfl) (by rfl) (blk_all HB6.out) Tryz.underlying32 rfl (by kernel_rfl) (by rfl)) rfl ⟨⟨_, _, rfl, HR9.out, HR11.out⟩, HBw.out⟩
    · intro K9 hK9
      go_simp
      refine (add_any _ _ 1 (h * h) _ HR5.out HR4.out (qs_one.up (by omega)) (HSQ.out.up (by omega))).mono ?_
      rintro e w6 ⟨⟨vx, rfl, hr⟩, hbx⟩
      obtain ⟨g6a, A6a, k6a, c6a, A6b, k6b, c6b, rfl, hr⟩ := hr.open
      replace HB2 := kB HB2 hbx
      replace HB4 := kB HB4 hbx
      replace HB6 := kB HB6 hbx
      replace HB15 := kB HB15 hbx
      have hT := Wd.of_below hbx
      replace HX0 := kW hT HX0
      replace HR4 := kW hT HR4
      replace HR5 := kW hT HR5
      clear hT
      replace HBw := kU HBw hbx
      have HR6 := Lib.hid hr
      clear hr
      clear HR5
      clear hbx
      refine hK9.out _ _ (by exact ⟨kD HB15 0, kD HB15 1, kD HB15 2⟩) ?_
      clear hK9 K9
      (try simp only [Act.put, List.setIfInBounds_toArray, List.set_cons_zero, List.set_cons_succ])
      refine seq_op (by kernel_rfl) (by rfl) (fun K9 hK9 => ?_)
      go_simp
      obtain ⟨W17, HW17, HB18, HSZ_W17, hbx⟩ := st_al0 w6 #[Value.bool false, Value.slice none 0 0, Value.slice none 0 0] 32
      have HNE_B2_B18 : Hid (w.heap.size ≠ w6.heap.size) := by show _ ≠ _; have hlt := blk_lt HB2.out; omega
      replace HB2 := kB HB2 hbx
      have HNE_B4_B18 : Hid (w.heap.size + 1 ≠ w6.heap.size) := by show _ ≠ _; have hlt := blk_lt HB4.out; omega
      replace HB4 := kB HB4 hbx
      have HNE_B6_B18 : Hid (w.heap.size + 2 ≠ w6.heap.size) := by show _ ≠ _; have hlt := blk_lt HB6.out; omega
      replace HB6 := kB HB6 hbx
      have HNE_B15_B18 : Hid (w4.heap.size ≠ w6.heap.size) := by show _ ≠ _; have hlt := blk_lt HB15.out; omega
      replace HB15 := kB HB15 hbx
      have HLE_B18 : Hid (w.heap.size ≤ w6.heap.size) := by show _ ≤ _; have hlt := HBw.out.size; omega
      have hT := Wd.of_below hbx
      replace HX0 := kW hT HX0
      replace HR4 := kW hT HR4
      replace HR6 := kW hT HR6
      clear hT
      replace HBw := kU HBw hbx
      clear hbx
      rw [← HW17.out]
      refine hK9.out _ _ (by exact ⟨kD HB15 0, kD HB15 1, kD HB15 2⟩) ?_
      clear hK9 K9
      (try simp only [Act.put, List.setIfInBounds_toArray, List.set_cons_zero, List.set_cons_succ])
      refine seq_op (by kernel_rfl) (by rfl) (fun K9 hK9 => ?_)
      have HTH19 : Hid (W17.there (w6.heap.size) 0 3) := blk_there HB18.out (Nat.le_of_ble_eq_true rfl)
      refine wp_store_mid 32 _ _ (by rfl) (w6.heap.size) 0 _ (by rfl) (by rfl) (by exact HTH19.out) (by kernel_rfl) (by kernel_rfl) ?_
      obtain ⟨W20, HW20⟩ : ∃ W, Hid (W = W17.setCells (w6.heap.size) 0 [Value.bool g6a, Value.slice A6a k6a c6a, Value.slice A6b k6b c6b]) := ⟨_, rfl⟩
      have hS := kM HW20
      have hT := kN hS HB18 rfl rfl
      replace HX0 := kW hT HX0
      replace HR4 := kW hT HR4
      replace HR6 := kW hT HR6
      clear hT
      replace HB2 := kO hS HB2 HNE_B2_B18.out
      replace HB4 := kO hS HB4 HNE_B4_B18.out
      replace HB6 := kO hS HB6 HNE_B6_B18.out
      replace HB15 := kO hS HB15 HNE_B15_B18.out
      replace HB18 := kP (ds := [Value.bool g6a, Value.slice A6a k6a c6a, Value.slice A6b k6b c6b]) hS HB18 rfl rfl
      replace HBw := kS hS HLE_B18 HBw
      clear hS
      rw [← HW20.out]
      refine hK9.out _ _ (by exact ⟨kD HB15 0, kD HB15 1, kD HB15 2⟩) ?_
      clear hK9 K9 HTH19
      (try simp only [Act.put, List.setIfInBounds_toArray, List.set_cons_zero, List.set_cons_succ])
      refine seq_done (by kernel_rfl) ?_
      go_wp2_with fail
      obtain ⟨W21, hW21⟩ : ∃ W, W = W20.drew := ⟨_, rfl⟩
      have hbx : Below W20.heap.size W20 W21 := by rw [hW21]; exact (Below.refl _ _).drew
      replace HB2 := kB HB2 hbx
      replace HB4 := kB HB4 hbx
      replace HB6 := kB HB6 hbx
      replace HB15 := kB HB15 hbx
      replace HB18 := kB HB18 hbx
      have hT := Wd.of_below hbx
      replace HX0 := kW hT HX0
      replace HR4 := kW hT HR4
      replace HR6 := kW hT HR6
      clear hT
      replace HBw := kU HBw hbx
      clear hbx
      refine seq_start (S := fun w' => w'.cell? ⟨w4.heap.size, 0, none⟩ = some (Value.bool g4a) ∧ w'.cell? ⟨w4.heap.size, 1, none⟩ = some (Value.slice A4a k4a c4a) ∧ w'.cell? ⟨w4.heap.size, 2, none⟩ = some (Value.slice A4b k4b c4b) ∧ w'.cell? ⟨w6.heap.size, 0, none⟩ = some (Value.bool g6a) ∧ w'.cell? ⟨w6.heap.size, 1, none⟩ = some (Value.slice A6a k6a c6a) ∧ w'.cell? ⟨w6.heap.size, 2, none⟩ = some (Value.slice A6b k6b c6b) ∧ w'.cell? ⟨w.heap.size, 0, none⟩ = some (Value.bool gp0a) ∧ w'.cell? ⟨w.heap.size, 1, none⟩ = some (Value.slice Ap0a kp0a cp0a) ∧ w'.cell? ⟨w.heap.size, 2, none⟩ = some (Value.slice Ap0b kp0b cp0b)) (by kernel_rfl) (by kernel_rfl) (by rw [← hW21]; exact ⟨kD HB15 0, kD HB15 1, kD HB15 2, kD HB18 0, kD HB18 1, kD HB18 2, kD HB2 0, kD HB2 1, kD HB2 2⟩) ?_
      rw [← hW21]
      clear hW21
      (refine seq_pull 1 ?_; simp only [places, pull]; (refine seq_take0 (v := ?_) ?_ (fun _ _ _ h => h) (by kernel_rfl) ?_ ?_; rotate_left; (focus rfl); (focus (intro w' hSw; (try dsimp only at hSw); go_simp; (try with_reducible rfl); done)); (try simp only [Act.put, List.setIfInBounds_toArray, List.set_cons_zero, List.set_cons_succ])))
      (refine seq_pull 2 ?_; simp only [places, pull]; (refine seq_take0 (v := ?_) ?_ (fun _ _ _ h => h) (by kernel_rfl) ?_ ?_; rotate_left; (focus rfl); (focus (intro w' hSw; (try dsimp only at hSw); go_simp; (try with_reducible rfl); done)); (try simp only [Act.put, List.setIfInBounds_toArray, List.set_cons_zero, List.set_cons_succ])))
      iterate 2 (refine seq_pull 3 ?_; simp only [places, pull]; (refine seq_take0 (v := ?_) ?_ (fun _ _ _ h => h) (by kernel_rfl) ?_ ?_; rotate_left; (focus rfl); (focus (intro w' hSw; (try dsimp only at hSw); go_simp; (try with_reducible rfl); done)); (try simp only [Act.put, List.setIfInBounds_toArray, List.set_cons_zero, List.set_cons_succ])))
      (refine seq_pull 4 ?_; simp only [places, pull]; (refine seq_take0 (v := ?_) ?_ (fun _ _ _ h => h) (by kernel_rfl) ?_ ?_; rotate_left; (focus rfl); (focus (intro w' hSw; (try dsimp only at hSw); go_simp; (try with_reducible rfl); done)); (try simp only [Act.put, List.setIfInBounds_toArray, List.set_cons_zero, List.set_cons_succ])))
      refine seq_op (by kernel_rfl) (by rfl) (fun K9 hK9 => ?_)
      go_simp
      refine (one_any _).mono ?_
      rintro e w7 ⟨⟨vx, rfl, hr⟩, hbx⟩
      obtain ⟨g7a, A7a, k7a, c7a, A7b, k7b, c7b, rfl, hr⟩ := hr.open
      replace HB2 := kB HB2 hbx
      replace HB4 := kB HB4 hbx
      replace HB6 := kB HB6 hbx
      replace HB15 := kB HB15 hbx
      replace HB18 := kB HB18 hbx
      have hT := Wd.of_below hbx
      replace HX0 := kW hT HX0
      replace HR4 := kW hT HR4
      replace HR6 := kW hT HR6
      clear hT
      replace HBw := kU HBw hbx
      have HR7 := Lib.hid hr
      clear hr
      clear hbx
      refine hK9.out _ _ (by exact ⟨kD HB15 0, kD HB15 1, kD HB15 2, kD HB18 0, kD HB18 1, kD HB18 2, kD HB2 0, kD HB2 1, kD HB2 2⟩) ?_
      clear hK9 K9
      (try simp only [Act.put, List.setIfInBounds_toArray, List.set_cons_zero, List.set_cons_succ])
      refine seq_op (by kernel_rfl) (by rfl) (fun K9 hK9 => ?_)
      go_simp
      refine (sub_any _ _ 1 (h * h) _ HR7.out HR4.out (qs_one.up (by omega)) (HSQ.out.up (by omega))).mono ?_
      rintro e w8 ⟨⟨vx, rfl, hr⟩, hbx⟩
      obtain ⟨g8a, A8a, k8a, c8a, A8b, k8b, c8b, rfl, hr⟩ := hr.open
      replace HB2 := kB HB2 hbx
      replace HB4 := kB HB4 hbx
      replace HB6 := kB HB6 hbx
      replace HB15 := kB HB15 hbx
      replace HB18 := kB HB18 hbx
      have hT := Wd.of_below hbx
      replace HX0 := kW hT HX0
      replace HR4 := kW hT HR4
      replace HR6 := kW hT HR6
      replace HR7 := kW hT HR7
      clear hT
      replace HBw := kU HBw hbx
      have HR8 := Lib.hid hr
      clear hr
      clear HR7
      clear hbx
      refine hK9.out _ _ (by exact ⟨kD HB15 0, kD HB15 1, kD HB15 2, kD HB18 0, kD HB18 1, kD HB18 2, kD HB2 0, kD HB2 1, kD HB2 2⟩) ?_
      clear hK9 K9
      (try simp only [Act.put, List.setIfInBounds_toArray, List.set_cons_zero, List.set_cons_succ])
      refine seq_op (by kernel_rfl) (by rfl) (fun K9 hK9 => ?_)
      go_simp
      refine (ratioB_any _ _ (1 - h * h) (1 + h * h) _ HR8.out HR6.out HNZ.out ((sub_sizes qs_one HSQ.out).up (by omega)) ((sum_sizes qs_one HSQ.out).up (by omega))).mono ?_
      rintro e w9 ⟨⟨vx, rfl, hr⟩, hbx⟩
      obtain ⟨g9a, A9a, k9a, c9a, A9b, k9b, c9b, rfl, hr⟩ := hr.open
      replace HB2 := kB HB2 hbx
      replace HB4 := kB HB4 hbx
      replace HB6 := kB HB6 hbx
      replace HB15 := kB HB15 hbx
      replace HB18 := kB HB18 hbx
      have hT := Wd.of_below hbx
      replace HX0 := kW hT HX0
      replace HR4 := kW hT HR4
      replace HR6 := kW hT HR6
      replace HR8 := kW hT HR8
      clear hT
      replace HBw := kU HBw hbx
      have HR9 := Lib.hid hr
      clear hr
      clear HR8
      clear hbx
      refine hK9.out _ _ (by exact ⟨kD HB15 0, kD HB15 1, kD HB15 2, kD HB18 0, kD HB18 1, kD HB18 2, kD HB2 0, kD HB2 1, kD HB2 2⟩) ?_
      clear hK9 K9
      (try simp only [Act.put, List.setIfInBounds_toArray, List.set_cons_zero, List.set_cons_succ])
      refine seq_op (by kernel_rfl) (by rfl) (fun K9 hK9 => ?_)
      go_simp
      refine (add_any _ _ h h _ HX0.out HX0.out (HQ.out.up (by omega)) (HQ.out.up (by omega))).mono ?_
      rintro e w10 ⟨⟨vx, rfl, hr⟩, hbx⟩
      obtain ⟨g10a, A10a, k10a, c10a, A10b, k10b, c10b, rfl, hr⟩ := hr.open
      replace HB2 := kB HB2 hbx
      replace HB4 := kB HB4 hbx
      replace HB6 := kB HB6 hbx
      replace HB15 := kB HB15 hbx
      replace HB18 := kB HB18 hbx
      have hT := Wd.of_below hbx
      replace HX0 := kW hT HX0
      replace HR4 := kW hT HR4
      replace HR6 := kW hT HR6
      replace HR9 := kW hT HR9
      clear hT
      replace HBw := kU HBw hbx
      have HR10 := Lib.hid hr
      clear hr
      clear hbx
      refine hK9.out _ _ (by exact ⟨kD HB15 0, kD HB15 1, kD HB15 2, kD HB18 0, kD HB18 1, kD HB18 2, kD HB2 0, kD HB2 1, kD HB2 2⟩) ?_
      clear hK9 K9
      (try simp only [Act.put, List.setIfInBounds_toArray, List.set_cons_zero, List.set_cons_succ])
      refine seq_op (by kernel_rfl) (by rfl) (fun K9 hK9 => ?_)
      go_simp
      refine (ratioB_any _ _ (h + h) (1 + h * h) _ HR10.out HR6.out HNZ.out ((sum_sizes HQ.out HQ.out).up (by omega)) ((sum_sizes qs_one HSQ.out).up (by omega))).mono ?_
      rintro e w11 ⟨⟨vx, rfl, hr⟩, hbx⟩
      obtain ⟨g11a, A11a, k11a, c11a, A11b, k11b, c11b, rfl, hr⟩ := hr.open
      replace HB2 := kB HB2 hbx
      replace HB4 := kB HB4 hbx
      replace HB6 := kB HB6 hbx
      replace HB15 := kB HB15 hbx
      replace HB18 := kB HB18 hbx
      have hT := Wd.of_below hbx
      replace HX0 := kW hT HX0
      replace HR4 := kW hT HR4
      replace HR6 := kW hT HR6
      replace HR9 := kW hT HR9
      replace HR10 := kW hT HR10
      clear hT
      replace HBw := kU HBw hbx
      have HR11 := Lib.hid hr
      clear hr
      clear HR10
      clear hbx
      refine hK9.out _ _ (by exact ⟨kD HB15 0, kD HB15 1, kD HB15 2, kD HB18 0, kD HB18 1, kD HB18 2, kD HB2 0, kD HB2 1, kD HB2 2⟩) ?_
      clear hK9 K9
      (try simp only [Act.put, List.setIfInBounds_toArray, List.set_cons_zero, List.set_cons_succ])
      refine seq_op (by kernel_rfl) (by rfl) (fun K9 hK9 => ?_)
      have HTH22 : Hid (w11.there (w.heap.size + 1) 0 3) := blk_there HB4.out (Nat.le_of_ble_eq_true rfl)
      refine wp_store_mid 32 _ _ (by rfl) (w.heap.size + 1) 0 _ (by rfl) (by rfl) (by exact HTH22.out) (by kernel_rfl) (by kernel_rfl) ?_
      obtain ⟨W23, HW23⟩ : ∃ W, Hid (W = w11.setCells (w.heap.size + 1) 0 [Value.bool g9a, Value.slice A9a k9a c9a, Value.slice A9b k9b c9b]) := ⟨_, rfl⟩
      have hS := kM HW23
      have hT := kN hS HB4 rfl rfl
      replace HX0 := kW hT HX0
      replace HR4 := kW hT HR4
      replace HR6 := kW hT HR6
      replace HR9 := kW hT HR9
      replace HR11 := kW hT HR11
      clear hT
      replace HB2 := kO hS HB2 HNE_B2_B4.out
      replace HB4 := kP (ds := [Value.bool g9a, Value.slice A9a k9a c9a, Value.slice A9b k9b c9b]) hS HB4 rfl rfl
      replace HB6 := kO hS HB6 HNE_B4_B6.out.symm
      replace HB15 := kO hS HB15 HNE_B4_B15.out.symm
      replace HB18 := kO hS HB18 HNE_B4_B18.out.symm
      replace HBw := kS hS HLE_B4 HBw
      clear hS
      rw [← HW23.out]
      refine hK9.out _ _ (by exact ⟨kD HB15 0, kD HB15 1, kD HB15 2, kD HB18 0, kD HB18 1, kD HB18 2, kD HB2 0, kD HB2 1, kD HB2 2⟩) ?_
      clear hK9 K9 HTH22
      (try simp only [Act.put, List.setIfInBounds_toArray, List.set_cons_zero, List.set_cons_succ])
      refine seq_op (by kernel_rfl) (by rfl) (fun K9 hK9 => ?_)
      have HTH24 : Hid (W23.there (w.heap.size + 2) 0 3) := blk_there HB6.out (Nat.le_of_ble_eq_true rfl)
      refine wp_store_mid 32 _ _ (by rfl) (w.heap.size + 2) 0 _ (by rfl) (by rfl) (by exact HTH24.out) (by kernel_rfl) (by kernel_rfl) ?_
      obtain ⟨W25, HW25⟩ : ∃ W, Hid (W = W23.setCells (w.heap.size + 2) 0 [Value.bool g11a, Value.slice A11a k11a c11a, Value.slice A11b k11b c11b]) := ⟨_, rfl⟩
      have hS := kM HW25
      have hT := kN hS HB6 rfl rfl
      replace HX0 := kW hT HX0
      replace HR4 := kW hT HR4
      replace HR6 := kW hT HR6
      replace HR9 := kW hT HR9
      replace HR11 := kW hT HR11
      clear hT
      replace HB2 := kO hS HB2 HNE_B2_B6.out
      replace HB4 := kO hS HB4 HNE_B4_B6.out
      replace HB6 := kP (ds := [Value.bool g11a, Value.slice A11a k11a c11a, Value.slice A11b k11b c11b]) hS HB6 rfl rfl
      replace HB15 := kO hS HB15 HNE_B6_B15.out.symm
      replace HB18 := kO hS HB18 HNE_B6_B18.out.symm
      replace HBw := kS hS HLE_B6 HBw
      clear hS
      rw [← HW25.out]
      refine hK9.out _ _ (by exact ⟨kD HB15 0, kD HB15 1, kD HB15 2, kD HB18 0, kD HB18 1, kD HB18 2, kD HB2 0, kD HB2 1, kD HB2 2⟩) ?_
      clear hK9 K9 HTH24
      (try simp only [Act.put, List.setIfInBounds_toArray, List.set_cons_zero, List.set_cons_succ])
      (refine seq_take0 (v := ?_) ?_ (fun _ _ _ h => h) (by kernel_rfl) ?_ ?_; rotate_left; (focus rfl); (focus (intro w' hSw; (try dsimp only at hSw); go_simp; (try with_reducible rfl); done)); (try simp only [Act.put, List.setIfInBounds_toArray, List.set_cons_zero, List.set_cons_succ]))
      refine seq_done (by kernel_rfl) ?_
      go_wp2_with fail
      exact bodyPost_ret (v := .tuple #[.agg #[Value.bool g9a, Value.slice A9a k9a c9a, Value.slice A9b k9b c9b], .agg #[Value.bool g11a, Value.slice A11a k11a c11a, Value.slice A11b k11b c11b], .int .i64 0]) (results_cct rfl (by rfl) (blk_all HB4.out) Tryz.underlying32 rfl (by kernel_rfl) (by rfl) (blk_all HB6.out) Tryz.underlying32 rfl (by kernel_rfl) (by rfl)) rfl ⟨⟨_, _, rfl, HR9.out, HR11.out⟩, HBw.out⟩
  · intro K9 hK9
    go_simp
    obtain ⟨W17, HW17, HB18, HSZ_W17, hbx⟩ := st_al0 W16 #[Value.bool false, Value.slice none 0 0, Value.slice none 0 0] 32
    have HNE_B2_B18 : Hid (w.heap.size ≠ W16.heap.size) := by show _ ≠ _; have hlt := blk_lt HB2.out; omega
    replace HB2 := kB HB2 hbx
    have HNE_B4_B18 : Hid (w.heap.size + 1 ≠ W16.heap.size) := by show _ ≠ _; have hlt := blk_lt HB4.out; omega
    replace HB4 := kB HB4 hbx
    have HNE_B6_B18 : Hid (w.heap.size + 2 ≠ W16.heap.size) := by show _ ≠ _; have hlt := blk_lt HB6.out; omega
    replace HB6 := kB HB6 hbx
    have HNE_B15_B18 : Hid (w4.heap.size ≠ W16.heap.size) := by show _ ≠ _; have hlt := blk_lt HB15.out; omega
    replace HB15 := kB HB15 hbx
    have HLE_B18 : Hid (w.heap.size ≤ W16.heap.size) := by show _ ≤ _; have hlt := HBw.out.size; omega
    have hT := Wd.of_below hbx
    replace HX0 := kW hT HX0
    replace HR4 := kW hT HR4
    clear hT
    replace HBw := kU HBw hbx
    clear hbx
    rw [← HW17.out]
    refine hK9.out _ _ (by exact ⟨kD HB15 0, kD HB15 1, kD HB15 2⟩) ?_
    clear hK9 K9
    (try simp only [Act.put, List.setIfInBounds_toArray, List.set_cons_zero, List.set_cons_succ])
    refine seq_op (by kernel_rfl) (by rfl) (fun K9 hK9 => ?_)
    go_simp
    refine (one_any _).mono ?_
    rintro e w5 ⟨⟨vx, rfl, hr⟩, hbx⟩
    obtain ⟨g5a, A5a, k5a, c5a, A5b, k5b, c5b, rfl, hr⟩ := hr.open
    replace HB2 := kB HB2 hbx
    replace HB4 := kB HB4 hbx
    replace HB6 := kB HB6 hbx
    replace HB15 := kB HB15 hbx
    replace HB18 := kB HB18 hbx
    have hT := Wd.of_below hbx
    replace HX0 := kW hT HX0
    replace HR4 := kW hT HR4
    clear hT
    replace HBw := kU HBw hbx
    have HR5 := Lib.hid hr
    clear hr
    clear hbx
    refine hK9.out _ _ (by exact ⟨kD HB15 0, kD HB15 1, kD HB15 2⟩) ?_
    clear hK9 K9
    (try simp only [Act.put, List.setIfInBounds_toArray, List.set_cons_zero, List.set_cons_succ])
    refine seq_op (by kernel_rfl) (by rfl) (fun K9 hK9 => ?_)
    go_simp
    refine (add_any _ _ 1 (h * h) _ HR5.out HR4.out (qs_one.up (by omega)) (HSQ.out.up (by omega))).mono ?_
    rintro e w6 ⟨⟨vx, rfl, hr⟩, hbx⟩
    obtain ⟨g6a, A6a, k6a, c6a, A6b, k6b, c6b, rfl, hr⟩ := hr.open
    replace HB2 := kB HB2 hbx
    replace HB4 := kB HB4 hbx
    replace HB6 := kB HB6 hbx
    replace HB15 := kB HB15 hbx
    replace HB18 := kB HB18 hbx
    have hT := Wd.of_below hbx
    replace HX0 := kW hT HX0
    replace HR4 := kW hT HR4
    replace HR5 := kW hT HR5
    clear hT
    replace HBw := kU HBw hbx
    have HR6 := Lib.hid hr
    clear hr
    clear HR5
    clear hbx
    refine hK9.out _ _ (by exact ⟨kD HB15 0, kD HB15 1, kD HB15 2⟩) ?_
    clear hK9 K9
    (try simp only [Act.put, List.setIfInBounds_toArray, List.set_cons_zero, List.set_cons_succ])
    refine seq_op (by kernel_rfl) (by rfl) (fun K9 hK9 => ?_)
    have HTH19 : Hid (w6.there (W16.heap.size) 0 3) := blk_there HB18.out (Nat.le_of_ble_eq_true rfl)
    refine wp_store_mid 32 _ _ (by rfl) (W16.heap.size) 0 _ (by rfl) (by rfl) (by exact HTH19.out) (by kernel_rfl) (by kernel_rfl) ?_
    obtain ⟨W20, HW20⟩ : ∃ W, Hid (W = w6.setCells (W16.heap.size) 0 [Value.bool g6a, Value.slice A6a k6a c6a, Value.slice A6b k6b c6b]) := ⟨_, rfl⟩
    have hS := kM HW20
    have hT := kN hS HB18 rfl rfl
    replace HX0 := kW hT HX0
    replace HR4 := kW hT HR4
    replace HR6 := kW hT HR6
    clear hT
    replace HB2 := kO hS HB2 HNE_B2_B18.out
    replace HB4 := kO hS HB4 HNE_B4_B18.out
    replace HB6 := kO hS HB6 HNE_B6_B18.out
    replace HB15 := kO hS HB15 HNE_B15_B18.out
    replace HB18 := kP (ds := [Value.bool g6a, Value.slice A6a k6a c6a, Value.slice A6b k6b c6b]) hS HB18 rfl rfl
    replace HBw := kS hS HLE_B18 HBw
    clear hS
    rw [← HW20.out]
    refine hK9.out _ _ (by exact ⟨kD HB15 0, kD HB15 1, kD HB15 2⟩) ?_
    clear hK9 K9 HTH19
    (try simp only [Act.put, List.setIfInBounds_toArray, List.set_cons_zero, List.set_cons_succ])
    refine seq_done (by kernel_rfl) ?_
    go_wp2_with fail
    obtain ⟨W21, hW21⟩ : ∃ W, W = W20.drew := ⟨_, rfl⟩
    have hbx : Below W20.heap.size W20 W21 := by rw [hW21]; exact (Below.refl _ _).drew
    replace HB2 := kB HB2 hbx
    replace HB4 := kB HB4 hbx
    replace HB6 := kB HB6 hbx
    replace HB15 := kB HB15 hbx
    replace HB18 := kB HB18 hbx
    have hT := Wd.of_below hbx
    replace HX0 := kW hT HX0
    replace HR4 := kW hT HR4
    replace HR6 := kW hT HR6
    clear hT
    replace HBw := kU HBw hbx
    clear hbx
    refine seq_start (S := fun w' => w'.cell? ⟨w4.heap.size, 0, none⟩ = some (Value.bool g4a) ∧ w'.cell? ⟨w4.heap.size, 1, none⟩ = some (Value.slice A4a k4a c4a) ∧ w'.cell? ⟨w4.heap.size, 2, none⟩ = some (Value.slice A4b k4b c4b) ∧ w'.cell? ⟨W16.heap.size, 0, none⟩ = some (Value.bool g6a) ∧ w'.cell? ⟨W16.heap.size, 1, none⟩ = some (Value.slice A6a k6a c6a) ∧ w'.cell? ⟨W16.heap.size, 2, none⟩ = some (Value.slice A6b k6b c6b) ∧ w'.cell? ⟨w.heap.size, 0, none⟩ = some (Value.bool gp0a) ∧ w'.cell? ⟨w.heap.size, 1, none⟩ = some (Value.slice Ap0a kp0a cp0a) ∧ w'.cell? ⟨w.heap.size, 2, none⟩ = some (Value.slice Ap0b kp0b cp0b)) (by kernel_rfl) (by kernel_rfl) (by rw [← hW21]; exact ⟨kD HB15 0, kD HB15 1, kD HB15 2, kD HB18 0, kD HB18 1, kD HB18 2, kD HB2 0, kD HB2 1, kD HB2 2⟩) ?_
    rw [← hW21]
    clear hW21
    (refine seq_pull 1 ?_; simp only [places, pull]; (refine seq_take0 (v := ?_) ?_ (fun _ _ _ h => h) (by kernel_rfl) ?_ ?_; rotate_left; (focus rfl); (focus (intro w' hSw; (try dsimp only at hSw); go_simp; (try with_reducible rfl); done)); (try simp only [Act.put, List.setIfInBounds_toArray, List.set_cons_zero, List.set_cons_succ])))
    (refine seq_pull 2 ?_; simp only [places, pull]; (refine seq_take0 (v := ?_) ?_ (fun _ _ _ h => h) (by kernel_rfl) ?_ ?_; rotate_left; (focus rfl); (focus (intro w' hSw; (try dsimp only at hSw); go_simp; (try with_reducible rfl); done)); (try simp only [Act.put, List.setIfInBounds_toArray, List.set_cons_zero, List.set_cons_succ])))
    iterate 2 (refine seq_pull 3 ?_; simp only [places, pull]; (refine seq_take0 (v := ?_) ?_ (fun _ _ _ h => h) (by kernel_rfl) ?_ ?_; rotate_left; (focus rfl); (focus (intro w' hSw; (try dsimp only at hSw); go_simp; (try with_reducible rfl); done)); (try simp only [Act.put, List.setIfInBounds_toArray, List.set_cons_zero, List.set_cons_succ])))
    (refine seq_pull 4 ?_; simp only [places, pull]; (refine seq_take0 (v := ?_) ?_ (fun _ _ _ h => h) (by kernel_rfl) ?_ ?_; rotate_left; (focus rfl); (focus (intro w' hSw; (try dsimp only at hSw); go_simp; (try with_reducible rfl); done)); (try simp only [Act.put, List.setIfInBounds_toArray, List.set_cons_zero, List.set_cons_succ])))
    refine seq_op (by kernel_rfl) (by rfl) (fun K9 hK9 => ?_)
    go_simp
    refine (one_any _).mono ?_
    rintro e w7 ⟨⟨vx, rfl, hr⟩, hbx⟩
    obtain ⟨g7a, A7a, k7a, c7a, A7b, k7b, c7b, rfl, hr⟩ := hr.open
    replace HB2 := kB HB2 hbx
    replace HB4 := kB HB4 hbx
    replace HB6 := kB HB6 hbx
    replace HB15 := kB HB15 hbx
    replace HB18 := kB HB18 hbx
    have hT := Wd.of_below hbx
    replace HX0 := kW hT HX0
    replace HR4 := kW hT HR4
    replace HR6 := kW hT HR6
    clear hT
    replace HBw := kU HBw hbx
    have HR7 := Lib.hid hr
    clear hr
    clear hbx
    refine hK9.out _ _ (by exact ⟨kD HB15 0, kD HB15 1, kD HB15 2, kD HB18 0, kD HB18 1, kD HB18 2, kD HB2 0, kD HB2 1, kD HB2 2⟩) ?_
    clear hK9 K9
    (try simp only [Act.put, List.setIfInBounds_toArray, List.set_cons_zero, List.set_cons_succ])
    refine seq_op (by kernel_rfl) (by rfl) (fun K9 hK9 => ?_)
    go_simp
    refine (sub_any _ _ 1 (h * h) _ HR7.out HR4.out (qs_one.up (by omega)) (HSQ.out.up (by omega))).mono ?_
    rintro e w8 ⟨⟨vx, rfl, hr⟩, hbx⟩
    obtain ⟨g8a, A8a, k8a, c8a, A8b, k8b, c8b, rfl, hr⟩ := hr.open
    replace HB2 := kB HB2 hbx
    replace HB4 := kB HB4 hbx
    replace HB6 := kB HB6 hbx
    replace HB15 := kB HB15 hbx
    replace HB18 := kB HB18 hbx
    have hT := Wd.of_below hbx
    replace HX0 := kW hT HX0
    replace HR4 := kW hT HR4
    replace HR6 := kW hT HR6
    replace HR7 := kW hT HR7
    clear hT
    replace HBw := kU HBw hbx
    have HR8 := Lib.hid hr
    clear hr
    clear HR7
    clear hbx
    refine hK9.out _ _ (by exact ⟨kD HB15 0, kD HB15 1, kD HB15 2, kD HB18 0, kD HB18 1, kD HB18 2, kD HB2 0, kD HB2 1, kD HB2 2⟩) ?_
    clear hK9 K9
    (try simp only [Act.put, List.setIfInBounds_toArray, List.set_cons_zero, List.set_cons_succ])
    refine seq_op (by kernel_rfl) (by rfl) (fun K9 hK9 => ?_)
    go_simp
    refine (ratioB_any _ _ (1 - h * h) (1 + h * h) _ HR8.out HR6.out HNZ.out ((sub_sizes qs_one HSQ.out).up (by omega)) ((sum_sizes qs_one HSQ.out).up (by omega))).mono ?_
    rintro e w9 ⟨⟨vx, rfl, hr⟩, hbx⟩
    obtain ⟨g9a, A9a, k9a, c9a, A9b, k9b, c9b, rfl, hr⟩ := hr.open
    replace HB2 := kB HB2 hbx
    replace HB4 := kB HB4 hbx
    replace HB6 := kB HB6 hbx
    replace HB15 := kB HB15 hbx
    replace HB18 := kB HB18 hbx
    have hT := Wd.of_below hbx
    replace HX0 := kW hT HX0
    replace HR4 := kW hT HR4
    replace HR6 := kW hT HR6
    replace HR8 := kW hT HR8
    clear hT
    replace HBw := kU HBw hbx
    have HR9 := Lib.hid hr
    clear hr
    clear HR8
    clear hbx
    refine hK9.out _ _ (by exact ⟨kD HB15 0, kD HB15 1, kD HB15 2, kD HB18 0, kD HB18 1, kD HB18 2, kD HB2 0, kD HB2 1, kD HB2 2⟩) ?_
    clear hK9 K9
    (try simp only [Act.put, List.setIfInBounds_toArray, List.set_cons_zero, List.set_cons_succ])
    refine seq_op (by kernel_rfl) (by rfl) (fun K9 hK9 => ?_)
    go_simp
    refine (add_any _ _ h h _ HX0.out HX0.out (HQ.out.up (by omega)) (HQ.out.up (by omega))).mono ?_
    rintro e w10 ⟨⟨vx, rfl, hr⟩, hbx⟩
    obtain ⟨g10a, A10a, k10a, c10a, A10b, k10b, c10b, rfl, hr⟩ := hr.open
    replace HB2 := kB HB2 hbx
    replace HB4 := kB HB4 hbx
    replace HB6 := kB HB6 hbx
    replace HB15 := kB HB15 hbx
    replace HB18 := kB HB18 hbx
    have hT := Wd.of_below hbx
    replace HX0 := kW hT HX0
    replace HR4 := kW hT HR4
    replace HR6 := kW hT HR6
    replace HR9 := kW hT HR9
    clear hT
    replace HBw := kU HBw hbx
    have HR10 := Lib.hid hr
    clear hr
    clear hbx
    refine hK9.out _ _ (by exact ⟨kD HB15 0, kD HB15 1, kD HB15 2, kD HB18 0, kD HB18 1, kD HB18 2, kD HB2 0, kD HB2 1, kD HB2 2⟩) ?_
    clear hK9 K9
    (try simp only [Act.put, List.setIfInBounds_toArray, List.set_cons_zero, List.set_cons_succ])
    refine seq_op (by kernel_rfl) (by rfl) (fun K9 hK9 => ?_)
    go_simp
    refine (ratioB_any _ _ (h + h) (1 + h * h) _ HR10.out HR6.out HNZ.out ((sum_sizes HQ.out HQ.out).up (by omega)) ((sum_sizes qs_one HSQ.out).up (by omega))).mono ?_
    rintro e w11 ⟨⟨vx, rfl, hr⟩, hbx⟩
    obtain ⟨g11a, A11a, k11a, c11a, A11b, k11b, c11b, rfl, hr⟩ := hr.open
    replace HB2 := kB HB2 hbx
    replace HB4 := kB HB4 hbx
    replace HB6 := kB HB6 hbx
    replace HB15 := kB HB15 hbx
    replace HB18 := kB HB18 hbx
    have hT := Wd.of_below hbx
    replace HX0 := kW hT HX0
    replace HR4 := kW hT HR4
    replace HR6 := kW hT HR6
    replace HR9 := kW hT HR9
    replace HR10 := kW hT HR10
    clear hT
    replace HBw := kU HBw hbx
    have HR11 := Lib.hid hr
    clear hr
    clear HR10
    clear hbx
    refine hK9.out _ _ (by exact ⟨kD HB15 0, kD HB15 1, kD HB15 2, kD HB18 0, kD HB18 1, kD HB18 2, kD HB2 0, kD HB2 1, kD HB2 2⟩) ?_
    clear hK9 K9
    (try simp only [Act.put, List.setIfInBounds_toArray, List.set_cons_zero, List.set_cons_succ])
    refine seq_op (by kernel_rfl) (by rfl) (fun K9 hK9 => ?_)
    have HTH22 : Hid (w11.there (w.heap.size + 1) 0 3) := blk_there HB4.out (Nat.le_of_ble_eq_true rfl)
    refine wp_store_mid 32 _ _ (by rfl) (w.heap.size + 1) 0 _ (by rfl) (by rfl) (by exact HTH22.out) (by kernel_rfl) (by kernel_rfl) ?_
    obtain ⟨W23, HW23⟩ : ∃ W, Hid (W = w11.setCells (w.heap.size + 1) 0 [Value.bool g9a, Value.slice A9a k9a c9a, Value.slice A9b k9b c9b]) := ⟨_, rfl⟩
    have hS := kM HW23
    have hT := kN hS HB4 rfl rfl
    replace HX0 := kW hT HX0
    replace HR4 := kW hT HR4
    replace HR6 := kW hT HR6
    replace HR9 := kW hT HR9
    replace HR11 := kW hT HR11
    clear hT
    replace HB2 := kO hS HB2 HNE_B2_B4.out
    replace HB4 := kP (ds := [Value.bool g9a, Value.slice A9a k9a c9a, Value.slice A9b k9b c9b]) hS HB4 rfl rfl
    replace HB6 := kO hS HB6 HNE_B4_B6.out.symm
    replace HB15 := kO hS HB15 HNE_B4_B15.out.symm
    replace HB18 := kO hS HB18 HNE_B4_B18.out.symm
    replace HBw := kS hS HLE_B4 HBw
    clear hS
    rw [← HW23.out]
    refine hK9.out _ _ (by exact ⟨kD HB15 0, kD HB15 1, kD HB15 2, kD HB18 0, kD HB18 1, kD HB18 2, kD HB2 0, kD HB2 1, kD HB2 2⟩) ?_
    clear hK9 K9 HTH22
    (try simp only [Act.put, List.setIfInBounds_toArray, List.set_cons_zero, List.set_cons_succ])
    refine seq_op (by kernel_rfl) (by rfl) (fun K9 hK9 => ?_)
    have HTH24 : Hid (W23.there (w.heap.size + 2) 0 3) := blk_there HB6.out (Nat.le_of_ble_eq_true rfl)
    refine wp_store_mid 32 _ _ (by rfl) (w.heap.size + 2) 0 _ (by rfl) (by rfl) (by exact HTH24.out) (by kernel_rfl) (by kernel_rfl) ?_
    obtain ⟨W25, HW25⟩ : ∃ W, Hid (W = W23.setCells (w.heap.size + 2) 0 [Value.bool g11a, Value.slice A11a k11a c11a, Value.slice A11b k11b c11b]) := ⟨_, rfl⟩
    have hS := kM HW25
    have hT := kN hS HB6 rfl rfl
    replace HX0 := kW hT HX0
    replace HR4 := kW hT HR4
    replace HR6 := kW hT HR6
    replace HR9 := kW hT HR9
    replace HR11 := kW hT HR11
    clear hT
    replace HB2 := kO hS HB2 HNE_B2_B6.out
    replace HB4 := kO hS HB4 HNE_B4_B6.out
    replace HB6 := kP (ds := [Value.bool g11a, Value.slice A11a k11a c11a, Value.slice A11b k11b c11b]) hS HB6 rfl rfl
    replace HB15 := kO hS HB15 HNE_B6_B15.out.symm
    replace HB18 := kO hS HB18 HNE_B6_B18.out.symm
    replace HBw := kS hS HLE_B6 HBw
    clear hS
    rw [← HW25.out]
    refine hK9.out _ _ (by exact ⟨kD HB15 0, kD HB15 1, kD HB15 2, kD HB18 0, kD HB18 1, kD HB18 2, kD HB2 0, kD HB2 1, kD HB2 2⟩) ?_
    clear hK9 K9 HTH24
    (try simp only [Act.put, List.setIfInBounds_toArray, List.set_cons_zero, List.set_cons_succ])
    (refine seq_take0 (v := ?_) ?_ (fun _ _ _ h => h) (by kernel_rfl) ?_ ?_; rotate_left; (focus rfl); (focus (intro w' hSw; (try dsimp only at hSw); go_simp; (try with_reducible rfl); done)); (try simp only [Act.put, List.setIfInBounds_toArray, List.set_cons_zero, List.set_cons_succ]))
    refine seq_done (by kernel_rfl) ?_
    go_wp2_with fail
    exact bodyPost_ret (v := .tuple #[.agg #[Value.bool g9a, Value.slice A9a k9a c9a, Value.slice A9b k9b c9b], .agg #[Value.bool g11a, Value.slice A11a k11a c11a, Value.slice A11b k11b c11b], .int .i64 0]) (results_cct rfl (by rfl) (blk_all HB4.out) Tryz.underlying32 rfl (by kernel_rfl) (by rfl) (blk_all HB6.out) Tryz.underlying32 rfl (by kernel_rfl) (by rfl)) rfl ⟨⟨_, _, rfl, HR9.out, HR11.out⟩, HBw.out⟩
end Go.Proofs.YtodckaioeomccaaGreat
