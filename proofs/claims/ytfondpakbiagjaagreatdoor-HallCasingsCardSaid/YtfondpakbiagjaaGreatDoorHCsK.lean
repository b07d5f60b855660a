/- The walks of the reference's checkEvent (printed by chk.py). -/
import Derived.Test.YtfondpakbiagjaaGreatDoorHCsJ
namespace Go.Proofs.YtfondpakbiagjaaGreatDoor
open Go.RowKit
set_option linter.unusedVariables false
set_option linter.unusedSimpArgs false
set_option maxRecDepth 100000
set_option maxHeartbeats 4000000
theorem chk_day1 (v : Value) (xs : List EvD) (k : Nat) (kd d p : Int) (w : World) (h : RdE w v xs) (hk : xs[k]? = some ⟨d, kd, p⟩) (hn : xs.length ≤ 1000) (hd : d < 0) :
    Calls Tryz.prog 49 #[v, .int .i64 (k : Int)] w fun e w' => e = .returned (.int .i64 1) ∧ Below w.heap.size w w' := by
  obtain ⟨A, cap, rfl, hlen, hat⟩ := h.at
  obtain ⟨b, off, rfl, hb, hrg⟩ := hat k _ hk
  have hkl : k < xs.length := (List.getElem?_eq_some_iff.1 hk).1
  obtain ⟨n, hnn⟩ : ∃ n, n = xs.length := ⟨_, rfl⟩
  rw [← hnn] at hkl hn ⊢
  have hL : w.rangeAt b (off + k * 3) [.int .i64 d, .int .i64 kd, .int .i64 p] := hrg
  obtain ⟨hth, W5, HW5, HB5, j5⟩ := box_new w 62 (z := [.int .i64 0, .int .i64 0, .int .i64 0]) (cs := [.int .i64 d, .int .i64 kd, .int .i64 p]) (n := 3) rfl rfl
  have HTH := Lib.hid hth
  have HJ := Lib.hid j5
  have c0 := kC HB5 0 rfl
  have c1 := kC HB5 1 rfl
  have c2 := kC HB5 2 rfl
  have hk0 : (0 : Int) ≤ (k : Int) := by omega
  have hkn : (k : Int) < (n : Int) := by omega
  clear h hat hb hrg hk hnn hth j5
  go_enter Tryz.func49, Tryz.ntmps49
  go_wp2_with (first | (refine wpList_load_mid (by rfl) 62 _ (by rfl) b (off + k * 3) (by rfl) _ _ (by exact hL) Tryz.underlying62 rfl (by kernel_rfl) ?_) | (refine smd 62 w.heap.size 0 (ht := HTH) (h := ?_); rw [← HW5.out]; refine Hid.out ?_))
  refine Lib.hid ?_
  go_wp2_with fail
  go_ret
  exact ⟨rfl, HJ.out⟩
theorem chk_day2 (v : Value) (xs : List EvD) (k : Nat) (kd d p : Int) (w : World) (h : RdE w v xs) (hk : xs[k]? = some ⟨d, kd, p⟩) (hn : xs.length ≤ 1000) (hd : 1000000 < d) :
    Calls Tryz.prog 49 #[v, .int .i64 (k : Int)] w fun e w' => e = .returned (.int .i64 1) ∧ Below w.heap.size w w' := by
  obtain ⟨A, cap, rfl, hlen, hat⟩ := h.at
  obtain ⟨b, off, rfl, hb, hrg⟩ := hat k _ hk
  have hkl : k < xs.length := (List.getElem?_eq_some_iff.1 hk).1
  obtain ⟨n, hnn⟩ : ∃ n, n = xs.length := ⟨_, rfl⟩
  rw [← hnn] at hkl hn ⊢
  have hL : w.rangeAt b (off + k * 3) [.int .i64 d, .int .i64 kd, .int .i64 p] := hrg
  obtain ⟨hth, W5, HW5, HB5, j5⟩ := box_new w 62 (z := [.int .i64 0, .int .i64 0, .int .i64 0]) (cs := [.int .i64 d, .int .i64 kd, .int .i64 p]) (n := 3) rfl rfl
  have HTH := Lib.hid hth
  have HJ := Lib.hid j5
  have c0 := kC HB5 0 rfl
  have c1 := kC HB5 1 rfl
  have c2 := kC HB5 2 rfl
  have hk0 : (0 : Int) ≤ (k : Int) := by omega
  have hkn : (k : Int) < (n : Int) := by omega
  have hd0 : ¬ d < 0 := by omega
  clear h hat hb hrg hk hnn hth j5
  go_enter Tryz.func49, Tryz.ntmps49
  go_wp2_with (first | (refine wpList_load_mid (by rfl) 62 _ (by rfl) b (off + k * 3) (by rfl) _ _ (by exact hL) Tryz.underlying62 rfl (by kernel_rfl) ?_) | (refine smd 62 w.heap.size 0 (ht := HTH) (h := ?_); rw [← HW5.out]; refine Hid.out ?_))
  refine Lib.hid ?_
  go_wp2_with fail
  go_ret
  exact ⟨rfl, HJ.out⟩
theorem chk_kind1 (v : Value) (xs : List EvD) (k : Nat) (kd d p : Int) (w : World) (h : RdE w v xs) (hk : xs[k]? = some ⟨d, kd, p⟩) (hn : xs.length ≤ 1000) (hd : 0 ≤ d ∧ d ≤ 1000000) (hkd : kd < 0) :
    Calls Tryz.prog 49 #[v, .int .i64 (k : Int)] w fun e w' => e = .returned (.int .i64 1) ∧ Below w.heap.size w w' := by
  obtain ⟨A, cap, rfl, hlen, hat⟩ := h.at
  obtain ⟨b, off, rfl, hb, hrg⟩ := hat k _ hk
  have hkl : k < xs.length := (List.getElem?_eq_some_iff.1 hk).1
  obtain ⟨n, hnn⟩ : ∃ n, n = xs.length := ⟨_, rfl⟩
  rw [← hnn] at hkl hn ⊢
  have hL : w.rangeAt b (off + k * 3) [.int .i64 d, .int .i64 kd, .int .i64 p] := hrg
  obtain ⟨hth, W5, HW5, HB5, j5⟩ := box_new w 62 (z := [.int .i64 0, .int .i64 0, .int .i64 0]) (cs := [.int .i64 d, .int .i64 kd, .int .i64 p]) (n := 3) rfl rfl
  have HTH := Lib.hid hth
  have HJ := Lib.hid j5
  have c0 := kC HB5 0 rfl
  have c1 := kC HB5 1 rfl
  have c2 := kC HB5 2 rfl
  have hk0 : (0 : Int) ≤ (k : Int) := by omega
  have hkn : (k : Int) < (n : Int) := by omega
  have hd0 : ¬ d < 0 := by omega
  have hd1 : ¬ 1000000 < d := by omega
  clear h hat hb hrg hk hnn hth j5
  go_enter Tryz.func49, Tryz.ntmps49
  go_wp2_with (first | (refine wpList_load_mid (by rfl) 62 _ (by rfl) b (off + k * 3) (by rfl) _ _ (by exact hL) Tryz.underlying62 rfl (by kernel_rfl) ?_) | (refine smd 62 w.heap.size 0 (ht := HTH) (h := ?_); rw [← HW5.out]; refine Hid.out ?_))
  refine Lib.hid ?_
  go_wp2_with fail
  go_ret
  exact ⟨rfl, HJ.out⟩
theorem chk_kind2 (v : Value) (xs : List EvD) (k : Nat) (kd d p : Int) (w : World) (h : RdE w v xs) (hk : xs[k]? = some ⟨d, kd, p⟩) (hn : xs.length ≤ 1000) (hd : 0 ≤ d ∧ d ≤ 1000000) (hkd : 3 < kd) :
    Calls Tryz.prog 49 #[v, .int .i64 (k : Int)] w fun e w' => e = .returned (.int .i64 1) ∧ Below w.heap.size w w' := by
  obtain ⟨A, cap, rfl, hlen, hat⟩ := h.at
  obtain ⟨b, off, rfl, hb, hrg⟩ := hat k _ hk
  have hkl : k < xs.length := (List.getElem?_eq_some_iff.1 hk).1
  obtain ⟨n, hnn⟩ : ∃ n, n = xs.length := ⟨_, rfl⟩
  rw [← hnn] at hkl hn ⊢
  have hL : w.rangeAt b (off + k * 3) [.int .i64 d, .int .i64 kd, .int .i64 p] := hrg
  obtain ⟨hth, W5, HW5, HB5, j5⟩ := box_new w 62 (z := [.int .i64 0, .int .i64 0, .int .i64 0]) (cs := [.int .i64 d, .int .i64 kd, .int .i64 p]) (n := 3) rfl rfl
  have HTH := Lib.hid hth
  have HJ := Lib.hid j5
  have c0 := kC HB5 0 rfl
  have c1 := kC HB5 1 rfl
  have c2 := kC HB5 2 rfl
  have hk0 : (0 : Int) ≤ (k : Int) := by omega
  have hkn : (k : Int) < (n : Int) := by omega
  have hd0 : ¬ d < 0 := by omega
  have hd1 : ¬ 1000000 < d := by omega
  have hk00 : ¬ kd < 0 := by omega
  clear h hat hb hrg hk hnn hth j5
  go_enter Tryz.func49, Tryz.ntmps49
  go_wp2_with (first | (refine wpList_load_mid (by rfl) 62 _ (by rfl) b (off + k * 3) (by rfl) _ _ (by exact hL) Tryz.underlying62 rfl (by kernel_rfl) ?_) | (refine smd 62 w.heap.size 0 (ht := HTH) (h := ?_); rw [← HW5.out]; refine Hid.out ?_))
  refine Lib.hid ?_
  go_wp2_with fail
  go_ret
  exact ⟨rfl, HJ.out⟩
theorem chk_place (v : Value) (xs : List EvD) (k : Nat) (kd d p : Int) (w : World) (h : RdE w v xs) (hk : xs[k]? = some ⟨d, kd, p⟩) (hn : xs.length ≤ 1000) (hd : 0 ≤ d ∧ d ≤ 1000000) (hkd : 2 ≤ kd ∧ kd ≤ 3) (hp : placeB p = false) :
    Calls Tryz.prog 49 #[v, .int .i64 (k : Int)] w fun e w' => e = .returned (.int .i64 1) ∧ Below w.heap.size w w' := by
  obtain ⟨A, cap, rfl, hlen, hat⟩ := h.at
  obtain ⟨b, off, rfl, hb, hrg⟩ := hat k _ hk
  have hkl : k < xs.length := (List.getElem?_eq_some_iff.1 hk).1
  obtain ⟨n, hnn⟩ : ∃ n, n = xs.length := ⟨_, rfl⟩
  rw [← hnn] at hkl hn ⊢
  have hL : w.rangeAt b (off + k * 3) [.int .i64 d, .int .i64 kd, .int .i64 p] := hrg
  obtain ⟨hth, W5, HW5, HB5, j5⟩ := box_new w 62 (z := [.int .i64 0, .int .i64 0, .int .i64 0]) (cs := [.int .i64 d, .int .i64 kd, .int .i64 p]) (n := 3) rfl rfl
  have HTH := Lib.hid hth
  have HJ := Lib.hid j5
  have c0 := kC HB5 0 rfl
  have c1 := kC HB5 1 rfl
  have c2 := kC HB5 2 rfl
  have hk0 : (0 : Int) ≤ (k : Int) := by omega
  have hkn : (k : Int) < (n : Int) := by omega
  have HPL := Lib.hid (rplace_any p W5)
  rw [hp] at HPL
  have hd0 : ¬ d < 0 := by omega
  have hd1 : ¬ 1000000 < d := by omega
  have hk00 : ¬ kd < 0 := by omega
  have hk33 : ¬ 3 < kd := by omega
  have hk22 : ¬ kd < 2 := by omega
  have hk2d : (2 : Int) ≤ kd := by omega
  clear h hat hb hrg hk hnn hth j5 hp
  go_enter Tryz.func49, Tryz.ntmps49
  go_wp2_with (first | (refine wpList_load_mid (by rfl) 62 _ (by rfl) b (off + k * 3) (by rfl) _ _ (by exact hL) Tryz.underlying62 rfl (by kernel_rfl) ?_) | (refine smd 62 w.heap.size 0 (ht := HTH) (h := ?_); rw [← HW5.out]; refine Hid.out ?_))
  refine Lib.hid ?_
  go_wp2_with fail
  refine HPL.out.mono ?_
  rintro e w1 ⟨rfl, hw⟩
  obtain rfl := hw.symm
  clear hw HPL
  go_wp2_with fail
  go_ret
  exact ⟨rfl, HJ.out⟩
theorem chk_first0 (v : Value) (xs : List EvD) (d p : Int) (w : World) (h : RdE w v xs) (hk : xs[0]? = some ⟨d, 0, p⟩) (hn : xs.length ≤ 1000) (hd : 0 ≤ d ∧ d ≤ 1000000) :
    Calls Tryz.prog 49 #[v, .int .i64 0] w fun e w' => e = .returned (.int .i64 0) ∧ Below w.heap.size w w' := by
  obtain ⟨A, cap, rfl, hlen, hat⟩ := h.at
  obtain ⟨b, off, rfl, hb, hrg⟩ := hat 0 _ hk
  have hkl : 0 < xs.length := (List.getElem?_eq_some_iff.1 hk).1
  obtain ⟨n, hnn⟩ : ∃ n, n = xs.length := ⟨_, rfl⟩
  rw [← hnn] at hkl hn ⊢
  have hL : w.rangeAt b (off + 0 * 3) [.int .i64 d, .int .i64 0, .int .i64 p] := hrg
  obtain ⟨hth, W5, HW5, HB5, j5⟩ := box_new w 62 (z := [.int .i64 0, .int .i64 0, .int .i64 0]) (cs := [.int .i64 d, .int .i64 0, .int .i64 p]) (n := 3) rfl rfl
  have HTH := Lib.hid hth
  have HJ := Lib.hid j5
  have c0 := kC HB5 0 rfl
  have c1 := kC HB5 1 rfl
  have c2 := kC HB5 2 rfl
  have hkn : (0 : Int) < (n : Int) := by omega
  have hd0 : ¬ d < 0 := by omega
  have hd1 : ¬ 1000000 < d := by omega
  clear h hat hb hrg hk hnn hth j5
  go_enter Tryz.func49, Tryz.ntmps49
  go_wp2_with (first | (refine wpList_load_mid (by rfl) 62 _ (by rfl) b (off + 0 * 3) (by rfl) _ _ (by exact hL) Tryz.underlying62 rfl (by kernel_rfl) ?_) | (refine smd 62 w.heap.size 0 (ht := HTH) (h := ?_); rw [← HW5.out]; refine Hid.out ?_))
  refine Lib.hid ?_
  go_wp2_with fail
  refine seq_start (S := fun w' => w'.cell? ⟨w.heap.size, 0, none⟩ = some (.int .i64 d) ∧ w'.cell? ⟨w.heap.size, 1, none⟩ = some (.int .i64 0)) (by kernel_rfl) (by kernel_rfl) (by exact ⟨c0, c1⟩) ?_
  repeat (first | refine tk0 (h := ?_) | refine tkG (h := ?_) | refine skG (h := ?_))
  refine seq_done (by kernel_rfl) ?_
  go_wp2_with fail
  go_ret
  exact ⟨rfl, HJ.out.drew⟩
theorem chk_early0 (v : Value) (xs : List EvD) (m : Nat) (d p : Int) (w : World) (h : RdE w v xs) (hk : xs[(m + 1)]? = some ⟨d, 0, p⟩) (e0 : EvD) (h0 : xs[m]? = some e0) (hn : xs.length ≤ 1000) (hd : 0 ≤ d ∧ d ≤ 1000000) (he : d < e0.day) :
    Calls Tryz.prog 49 #[v, .int .i64 ((m : Int) + 1)] w fun e w' => e = .returned (.int .i64 7) ∧ Below w.heap.size w w' := by
  obtain ⟨A, cap, rfl, hlen, hat⟩ := h.at
  obtain ⟨b, off, rfl, hb, hrg⟩ := hat (m + 1) _ hk
  have hkl : (m + 1) < xs.length := (List.getElem?_eq_some_iff.1 hk).1
  obtain ⟨b', off', hbo, -, hr0⟩ := hat m _ h0
  injection hbo with hbo
  injection hbo with hb1 hb2
  subst hb1 hb2
  have hp0 : w.cell? ⟨b, off + m * 3, none⟩ = some (.int .i64 e0.day) := hr0 0 _ rfl
  obtain ⟨n, hnn⟩ : ∃ n, n = xs.length := ⟨_, rfl⟩
  rw [← hnn] at hkl hn ⊢
  have hL : w.rangeAt b (off + (m + 1) * 3) [.int .i64 d, .int .i64 0, .int .i64 p] := hrg
  obtain ⟨hth, W5, HW5, HB5, j5⟩ := box_new w 62 (z := [.int .i64 0, .int .i64 0, .int .i64 0]) (cs := [.int .i64 d, .int .i64 0, .int .i64 p]) (n := 3) rfl rfl
  have HTH := Lib.hid hth
  have HJ := Lib.hid j5
  have c0 := kC HB5 0 rfl
  have c1 := kC HB5 1 rfl
  have c2 := kC HB5 2 rfl
  have hk0 : (0 : Int) ≤ (m : Int) + 1 := by omega
  have hkn : (m : Int) + 1 < (n : Int) := by omega
  have hk1 : (0 : Int) < (m : Int) + 1 := by omega
  have hkz : ¬ (m : Int) + 1 = 0 := by omega
  have hkb : ((m : Int) + 1 == 0) = false := beq_false_of_ne hkz
  have hm0 : (0 : Int) ≤ (m : Int) := by omega
  have hmn : (m : Int) < (n : Int) := by omega
  have hwm : IntKind.i64.wrap ((m : Int) + 1 - 1) = (m : Int) := by rw [IntWalk.i64_in _ (by omega)]; omega
  have hwm2 : IntKind.i64.wrap (m : Int) = (m : Int) := IntWalk.i64_in _ (by omega)
  have hp5 : W5.cell? ⟨b, off + m * 3, none⟩ = some (.int .i64 e0.day) := (j5.cell (p := ⟨b, off + m * 3, none⟩) hb).trans hp0
  have hd0 : ¬ d < 0 := by omega
  have hd1 : ¬ 1000000 < d := by omega
  clear h hat hb hrg hk hnn hth j5 hp0 h0 hr0
  go_enter Tryz.func49, Tryz.ntmps49
  go_wp2_with (first | (refine wpList_load_mid (by rfl) 62 _ (by rfl) b (off + (m + 1) * 3) (by rfl) _ _ (by exact hL) Tryz.underlying62 rfl (by kernel_rfl) ?_) | (refine smd 62 w.heap.size 0 (ht := HTH) (h := ?_); rw [← HW5.out]; refine Hid.out ?_))
  refine Lib.hid ?_
  go_wp2_with fail
  refine seq_start (S := fun w' => w'.cell? ⟨w.heap.size, 0, none⟩ = some (.int .i64 d) ∧ w'.cell? ⟨w.heap.size, 1, none⟩ = some (.int .i64 0) ∧ w'.cell? ⟨b, off + m * 3, none⟩ = some (.int .i64 e0.day)) (by kernel_rfl) (by kernel_rfl) (by exact ⟨c0, c1, hp5⟩) ?_
  repeat (first | refine tk0 (h := ?_) | refine tkG (h := ?_) | refine skG (h := ?_))
  refine seq_done (by kernel_rfl) ?_
  go_wp2_with fail
  go_ret
  exact ⟨rfl, HJ.out.drew⟩
theorem chk_late0 (v : Value) (xs : List EvD) (m : Nat) (d p : Int) (w : World) (h : RdE w v xs) (hk : xs[(m + 1)]? = some ⟨d, 0, p⟩) (e0 : EvD) (h0 : xs[m]? = some e0) (hn : xs.length ≤ 1000) (hd : 0 ≤ d ∧ d ≤ 1000000) (he : ¬ d < e0.day) :
    Calls Tryz.prog 49 #[v, .int .i64 ((m : Int) + 1)] w fun e w' => e = .returned (.int .i64 7) ∧ Below w.heap.size w w' := by
  obtain ⟨A, cap, rfl, hlen, hat⟩ := h.at
  obtain ⟨b, off, rfl, hb, hrg⟩ := hat (m + 1) _ hk
  have hkl : (m + 1) < xs.length := (List.getElem?_eq_some_iff.1 hk).1
  obtain ⟨b', off', hbo, -, hr0⟩ := hat m _ h0
  injection hbo with hbo
  injection hbo with hb1 hb2
  subst hb1 hb2
  have hp0 : w.cell? ⟨b, off + m * 3, none⟩ = some (.int .i64 e0.day) := hr0 0 _ rfl
  obtain ⟨n, hnn⟩ : ∃ n, n = xs.length := ⟨_, rfl⟩
  rw [← hnn] at hkl hn ⊢
  have hL : w.rangeAt b (off + (m + 1) * 3) [.int .i64 d, .int .i64 0, .int .i64 p] := hrg
  obtain ⟨hth, W5, HW5, HB5, j5⟩ := box_new w 62 (z := [.int .i64 0, .int .i64 0, .int .i64 0]) (cs := [.int .i64 d, .int .i64 0, .int .i64 p]) (n := 3) rfl rfl
  have HTH := Lib.hid hth
  have HJ := Lib.hid j5
  have c0 := kC HB5 0 rfl
  have c1 := kC HB5 1 rfl
  have c2 := kC HB5 2 rfl
  have hk0 : (0 : Int) ≤ (m : Int) + 1 := by omega
  have hkn : (m : Int) + 1 < (n : Int) := by omega
  have hk1 : (0 : Int) < (m : Int) + 1 := by omega
  have hkz : ¬ (m : Int) + 1 = 0 := by omega
  have hkb : ((m : Int) + 1 == 0) = false := beq_false_of_ne hkz
  have hm0 : (0 : Int) ≤ (m : Int) := by omega
  have hmn : (m : Int) < (n : Int) := by omega
  have hwm : IntKind.i64.wrap ((m : Int) + 1 - 1) = (m : Int) := by rw [IntWalk.i64_in _ (by omega)]; omega
  have hwm2 : IntKind.i64.wrap (m : Int) = (m : Int) := IntWalk.i64_in _ (by omega)
  have hp5 : W5.cell? ⟨b, off + m * 3, none⟩ = some (.int .i64 e0.day) := (j5.cell (p := ⟨b, off + m * 3, none⟩) hb).trans hp0
  have hd0 : ¬ d < 0 := by omega
  have hd1 : ¬ 1000000 < d := by omega
  have heb : decide (d < e0.day) = false := decide_eq_false he
  clear h hat hb hrg hk hnn hth j5 hp0 h0 hr0
  go_enter Tryz.func49, Tryz.ntmps49
  go_wp2_with (first | (refine wpList_load_mid (by rfl) 62 _ (by rfl) b (off + (m + 1) * 3) (by rfl) _ _ (by exact hL) Tryz.underlying62 rfl (by kernel_rfl) ?_) | (refine smd 62 w.heap.size 0 (ht := HTH) (h := ?_); rw [← HW5.out]; refine Hid.out ?_))
  refine Lib.hid ?_
  go_wp2_with fail
  refine seq_start (S := fun w' => w'.cell? ⟨w.heap.size, 0, none⟩ = some (.int .i64 d) ∧ w'.cell? ⟨w.heap.size, 1, none⟩ = some (.int .i64 0) ∧ w'.cell? ⟨b, off + m * 3, none⟩ = some (.int .i64 e0.day)) (by kernel_rfl) (by kernel_rfl) (by exact ⟨c0, c1, hp5⟩) ?_
  repeat (first | refine tk0 (h := ?_) | refine tkG (h := ?_) | refine skG (h := ?_))
  refine seq_done (by kernel_rfl) ?_
  go_wp2_with fail
  go_ret
  exact ⟨rfl, HJ.out.drew⟩
theorem chk_first1 (v : Value) (xs : List EvD) (d p : Int) (w : World) (h : RdE w v xs) (hk : xs[0]? = some ⟨d, 1, p⟩) (hn : xs.length ≤ 1000) (hd : 0 ≤ d ∧ d ≤ 1000000) :
    Calls Tryz.prog 49 #[v, .int .i64 0] w fun e w' => e = .returned (.int .i64 7) ∧ Below w.heap.size w w' := by
  obtain ⟨A, cap, rfl, hlen, hat⟩ := h.at
  obtain ⟨b, off, rfl, hb, hrg⟩ := hat 0 _ hk
  have hkl : 0 < xs.length := (List.getElem?_eq_some_iff.1 hk).1
  obtain ⟨n, hnn⟩ : ∃ n, n = xs.length := ⟨_, rfl⟩
  rw [← hnn] at hkl hn ⊢
  have hL : w.rangeAt b (off + 0 * 3) [.int .i64 d, .int .i64 1, .int .i64 p] := hrg
  obtain ⟨hth, W5, HW5, HB5, j5⟩ := box_new w 62 (z := [.int .i64 0, .int .i64 0, .int .i64 0]) (cs := [.int .i64 d, .int .i64 1, .int .i64 p]) (n := 3) rfl rfl
  have HTH := Lib.hid hth
  have HJ := Lib.hid j5
  have c0 := kC HB5 0 rfl
  have c1 := kC HB5 1 rfl
  have c2 := kC HB5 2 rfl
  have hkn : (0 : Int) < (n : Int) := by omega
  have hd0 : ¬ d < 0 := by omega
  have hd1 : ¬ 1000000 < d := by omega
  clear h hat hb hrg hk hnn hth j5
  go_enter Tryz.func49, Tryz.ntmps49
  go_wp2_with (first | (refine wpList_load_mid (by rfl) 62 _ (by rfl) b (off + 0 * 3) (by rfl) _ _ (by exact hL) Tryz.underlying62 rfl (by kernel_rfl) ?_) | (refine smd 62 w.heap.size 0 (ht := HTH) (h := ?_); rw [← HW5.out]; refine Hid.out ?_))
  refine Lib.hid ?_
  go_wp2_with fail
  refine seq_start (S := fun w' => w'.cell? ⟨w.heap.size, 0, none⟩ = some (.int .i64 d) ∧ w'.cell? ⟨w.heap.size, 1, none⟩ = some (.int .i64 1)) (by kernel_rfl) (by kernel_rfl) (by exact ⟨c0, c1⟩) ?_
  repeat (first | refine tk0 (h := ?_) | refine tkG (h := ?_) | refine skG (h := ?_))
  refine seq_done (by kernel_rfl) ?_
  go_wp2_with fail
  go_ret
  exact ⟨rfl, HJ.out.drew⟩
theorem chk_early1 (v : Value) (xs : List EvD) (m : Nat) (d p : Int) (w : World) (h : RdE w v xs) (hk : xs[(m + 1)]? = some ⟨d, 1, p⟩) (e0 : EvD) (h0 : xs[m]? = some e0) (hn : xs.length ≤ 1000) (hd : 0 ≤ d ∧ d ≤ 1000000) (he : d < e0.day) :
    Calls Tryz.prog 49 #[v, .int .i64 ((m : Int) + 1)] w fun e w' => e = .returned (.int .i64 7) ∧ Below w.heap.size w w' := by
  obtain ⟨A, cap, rfl, hlen, hat⟩ := h.at
  obtain ⟨b, off, rfl, hb, hrg⟩ := hat (m + 1) _ hk
  have hkl : (m + 1) < xs.length := (List.getElem?_eq_some_iff.1 hk).1
  obtain ⟨b', off', hbo, -, hr0⟩ := hat m _ h0
  injection hbo with hbo
  injection hbo with hb1 hb2
  subst hb1 hb2
  have hp0 : w.cell? ⟨b, off + m * 3, none⟩ = some (.int .i64 e0.day) := hr0 0 _ rfl
  obtain ⟨n, hnn⟩ : ∃ n, n = xs.length := ⟨_, rfl⟩
  rw [← hnn] at hkl hn ⊢
  have hL : w.rangeAt b (off + (m + 1) * 3) [.int .i64 d, .int .i64 1, .int .i64 p] := hrg
  obtain ⟨hth, W5, HW5, HB5, j5⟩ := box_new w 62 (z := [.int .i64 0, .int .i64 0, .int .i64 0]) (cs := [.int .i64 d, .int .i64 1, .int .i64 p]) (n := 3) rfl rfl
  have HTH := Lib.hid hth
  have HJ := Lib.hid j5
  have c0 := kC HB5 0 rfl
  have c1 := kC HB5 1 rfl
  have c2 := kC HB5 2 rfl
  have hk0 : (0 : Int) ≤ (m : Int) + 1 := by omega
  have hkn : (m : Int) + 1 < (n : Int) := by omega
  have hk1 : (0 : Int) < (m : Int) + 1 := by omega
  have hkz : ¬ (m : Int) + 1 = 0 := by omega
  have hkb : ((m : Int) + 1 == 0) = false := beq_false_of_ne hkz
  have hm0 : (0 : Int) ≤ (m : Int) := by omega
  have hmn : (m : Int) < (n : Int) := by omega
  have hwm : IntKind.i64.wrap ((m : Int) + 1 - 1) = (m : Int) := by rw [IntWalk.i64_in _ (by omega)]; omega
  have hwm2 : IntKind.i64.wrap (m : Int) = (m : Int) := IntWalk.i64_in _ (by omega)
  have hp5 : W5.cell? ⟨b, off + m * 3, none⟩ = some (.int .i64 e0.day) := (j5.cell (p := ⟨b, off + m * 3, none⟩) hb).trans hp0
  have hd0 : ¬ d < 0 := by omega
  have hd1 : ¬ 1000000 < d := by omega
  clear h hat hb hrg hk hnn hth j5 hp0 h0 hr0
  go_enter Tryz.func49, Tryz.ntmps49
  go_wp2_with (first | (refine wpList_load_mid (by rfl) 62 _ (by rfl) b (off + (m + 1) * 3) (by rfl) _ _ (by exact hL) Tryz.underlying62 rfl (by kernel_rfl) ?_) | (refine smd 62 w.heap.size 0 (ht := HTH) (h := ?_); rw [← HW5.out]; refine Hid.out ?_))
  refine Lib.hid ?_
  go_wp2_with fail
  refine seq_start (S := fun w' => w'.cell? ⟨w.heap.size, 0, none⟩ = some (.int .i64 d) ∧ w'.cell? ⟨w.heap.size, 1, none⟩ = some (.int .i64 1) ∧ w'.cell? ⟨b, off + m * 3, none⟩ = some (.int .i64 e0.day)) (by kernel_rfl) (by kernel_rfl) (by exact ⟨c0, c1, hp5⟩) ?_
  repeat (first | refine tk0 (h := ?_) | refine tkG (h := ?_) | refine skG (h := ?_))
  refine seq_done (by kernel_rfl) ?_
  go_wp2_with fail
  go_ret
  exact ⟨rfl, HJ.out.drew⟩
theorem chk_late1 (v : Value) (xs : List EvD) (m : Nat) (d p : Int) (w : World) (h : RdE w v xs) (hk : xs[(m + 1)]? = some ⟨d, 1, p⟩) (e0 : EvD) (h0 : xs[m]? = some e0) (hn : xs.length ≤ 1000) (hd : 0 ≤ d ∧ d ≤ 1000000) (he : ¬ d < e0.day) :
    Calls Tryz.prog 49 #[v, .int .i64 ((m : Int) + 1)] w fun e w' => e = .returned (.int .i64 0) ∧ Below w.heap.size w w' := by
  obtain ⟨A, cap, rfl, hlen, hat⟩ := h.at
  obtain ⟨b, off, rfl, hb, hrg⟩ := hat (m + 1) _ hk
  have hkl : (m + 1) < xs.length := (List.getElem?_eq_some_iff.1 hk).1
  obtain ⟨b', off', hbo, -, hr0⟩ := hat m _ h0
  injection hbo with hbo
  injection hbo with hb1 hb2
  subst hb1 hb2
  have hp0 : w.cell? ⟨b, off + m * 3, none⟩ = some (.int .i64 e0.day) := hr0 0 _ rfl
  obtain ⟨n, hnn⟩ : ∃ n, n = xs.length := ⟨_, rfl⟩
  rw [← hnn] at hkl hn ⊢
  have hL : w.rangeAt b (off + (m + 1) * 3) [.int .i64 d, .int .i64 1, .int .i64 p] := hrg
  obtain ⟨hth, W5, HW5, HB5, j5⟩ := box_new w 62 (z := [.int .i64 0, .int .i64 0, .int .i64 0]) (cs := [.int .i64 d, .int .i64 1, .int .i64 p]) (n := 3) rfl rfl
  have HTH := Lib.hid hth
  have HJ := Lib.hid j5
  have c0 := kC HB5 0 rfl
  have c1 := kC HB5 1 rfl
  have c2 := kC HB5 2 rfl
  have hk0 : (0 : Int) ≤ (m : Int) + 1 := by omega
  have hkn : (m : Int) + 1 < (n : Int) := by omega
  have hk1 : (0 : Int) < (m : Int) + 1 := by omega
  have hkz : ¬ (m : Int) + 1 = 0 := by omega
  have hkb : ((m : Int) + 1 == 0) = false := beq_false_of_ne hkz
  have hm0 : (0 : Int) ≤ (m : Int) := by omega
  have hmn : (m : Int) < (n : Int) := by omega
  have hwm : IntKind.i64.wrap ((m : Int) + 1 - 1) = (m : Int) := by rw [IntWalk.i64_in _ (by omega)]; omega
  have hwm2 : IntKind.i64.wrap (m : Int) = (m : Int) := IntWalk.i64_in _ (by omega)
  have hp5 : W5.cell? ⟨b, off + m * 3, none⟩ = some (.int .i64 e0.day) := (j5.cell (p := ⟨b, off + m * 3, none⟩) hb).trans hp0
  have hd0 : ¬ d < 0 := by omega
  have hd1 : ¬ 1000000 < d := by omega
  have heb : decide (d < e0.day) = false := decide_eq_false he
  clear h hat hb hrg hk hnn hth j5 hp0 h0 hr0
  go_enter Tryz.func49, Tryz.ntmps49
  go_wp2_with (first | (refine wpList_load_mid (by rfl) 62 _ (by rfl) b (off + (m + 1) * 3) (by rfl) _ _ (by exact hL) Tryz.underlying62 rfl (by kernel_rfl) ?_) | (refine smd 62 w.heap.size 0 (ht := HTH) (h := ?_); rw [← HW5.out]; refine Hid.out ?_))
  refine Lib.hid ?_
  go_wp2_with fail
  refine seq_start (S := fun w' => w'.cell? ⟨w.heap.size, 0, none⟩ = some (.int .i64 d) ∧ w'.cell? ⟨w.heap.size, 1, none⟩ = some (.int .i64 1) ∧ w'.cell? ⟨b, off + m * 3, none⟩ = some (.int .i64 e0.day)) (by kernel_rfl) (by kernel_rfl) (by exact ⟨c0, c1, hp5⟩) ?_
  repeat (first | refine tk0 (h := ?_) | refine tkG (h := ?_) | refine skG (h := ?_))
  refine seq_done (by kernel_rfl) ?_
  go_wp2_with fail
  go_ret
  exact ⟨rfl, HJ.out.drew⟩
theorem chk_first2 (v : Value) (xs : List EvD) (d p : Int) (w : World) (h : RdE w v xs) (hk : xs[0]? = some ⟨d, 2, p⟩) (hn : xs.length ≤ 1000) (hd : 0 ≤ d ∧ d ≤ 1000000) (hp : placeB p = true) :
    Calls Tryz.prog 49 #[v, .int .i64 0] w fun e w' => e = .returned (.int .i64 7) ∧ Below w.heap.size w w' := by
  obtain ⟨A, cap, rfl, hlen, hat⟩ := h.at
  obtain ⟨b, off, rfl, hb, hrg⟩ := hat 0 _ hk
  have hkl : 0 < xs.length := (List.getElem?_eq_some_iff.1 hk).1
  obtain ⟨n, hnn⟩ : ∃ n, n = xs.length := ⟨_, rfl⟩
  rw [← hnn] at hkl hn ⊢
  have hL : w.rangeAt b (off + 0 * 3) [.int .i64 d, .int .i64 2, .int .i64 p] := hrg
  obtain ⟨hth, W5, HW5, HB5, j5⟩ := box_new w 62 (z := [.int .i64 0, .int .i64 0, .int .i64 0]) (cs := [.int .i64 d, .int .i64 2, .int .i64 p]) (n := 3) rfl rfl
  have HTH := Lib.hid hth
  have HJ := Lib.hid j5
  have c0 := kC HB5 0 rfl
  have c1 := kC HB5 1 rfl
  have c2 := kC HB5 2 rfl
  have hkn : (0 : Int) < (n : Int) := by omega
  have HPL := Lib.hid (rplace_any p W5)
  rw [hp] at HPL
  have hd0 : ¬ d < 0 := by omega
  have hd1 : ¬ 1000000 < d := by omega
  clear h hat hb hrg hk hnn hth j5 hp
  go_enter Tryz.func49, Tryz.ntmps49
  go_wp2_with (first | (refine wpList_load_mid (by rfl) 62 _ (by rfl) b (off + 0 * 3) (by rfl) _ _ (by exact hL) Tryz.underlying62 rfl (by kernel_rfl) ?_) | (refine smd 62 w.heap.size 0 (ht := HTH) (h := ?_); rw [← HW5.out]; refine Hid.out ?_))
  refine Lib.hid ?_
  go_wp2_with fail
  refine HPL.out.mono ?_
  rintro e w1 ⟨rfl, hw⟩
  obtain rfl := hw.symm
  clear hw HPL
  go_wp2_with fail
  refine seq_start (S := fun w' => w'.cell? ⟨w.heap.size, 0, none⟩ = some (.int .i64 d) ∧ w'.cell? ⟨w.heap.size, 1, none⟩ = some (.int .i64 2)) (by kernel_rfl) (by kernel_rfl) (by exact ⟨c0, c1⟩) ?_
  repeat (first | refine tk0 (h := ?_) | refine tkG (h := ?_) | refine skG (h := ?_))
  refine seq_done (by kernel_rfl) ?_
  go_wp2_with fail
  go_ret
  exact ⟨rfl, HJ.out.drew⟩
theorem chk_early2 (v : Value) (xs : List EvD) (m : Nat) (d p : Int) (w : World) (h : RdE w v xs) (hk : xs[(m + 1)]? = some ⟨d, 2, p⟩) (e0 : EvD) (h0 : xs[m]? = some e0) (hn : xs.length ≤ 1000) (hd : 0 ≤ d ∧ d ≤ 1000000) (hp : placeB p = true) (he : d < e0.day) :
    Calls Tryz.prog 49 #[v, .int .i64 ((m : Int) + 1)] w fun e w' => e = .returned (.int .i64 7) ∧ Below w.heap.size w w' := by
  obtain ⟨A, cap, rfl, hlen, hat⟩ := h.at
  obtain ⟨b, off, rfl, hb, hrg⟩ := hat (m + 1) _ hk
  have hkl : (m + 1) < xs.length := (List.getElem?_eq_some_iff.1 hk).1
  obtain ⟨b', off', hbo, -, hr0⟩ := hat m _ h0
  injection hbo with hbo
  injection hbo with hb1 hb2
  subst hb1 hb2
  have hp0 : w.cell? ⟨b, off + m * 3, none⟩ = some (.int .i64 e0.day) := hr0 0 _ rfl
  obtain ⟨n, hnn⟩ : ∃ n, n = xs.length := ⟨_, rfl⟩
  rw [← hnn] at hkl hn ⊢
  have hL : w.rangeAt b (off + (m + 1) * 3) [.int .i64 d, .int .i64 2, .int .i64 p] := hrg
  obtain ⟨hth, W5, HW5, HB5, j5⟩ := box_new w 62 (z := [.int .i64 0, .int .i64 0, .int .i64 0]) (cs := [.int .i64 d, .int .i64 2, .int .i64 p]) (n := 3) rfl rfl
  have HTH := Lib.hid hth
  have HJ := Lib.hid j5
  have c0 := kC HB5 0 rfl
  have c1 := kC HB5 1 rfl
  have c2 := kC HB5 2 rfl
  have hk0 : (0 : Int) ≤ (m : Int) + 1 := by omega
  have hkn : (m : Int) + 1 < (n : Int) := by omega
  have hk1 : (0 : Int) < (m : Int) + 1 := by omega
  have hkz : ¬ (m : Int) + 1 = 0 := by omega
  have hkb : ((m : Int) + 1 == 0) = false := beq_false_of_ne hkz
  have hm0 : (0 : Int) ≤ (m : Int) := by omega
  have hmn : (m : Int) < (n : Int) := by omega
  have hwm : IntKind.i64.wrap ((m : Int) + 1 - 1) = (m : Int) := by rw [IntWalk.i64_in _ (by omega)]; omega
  have hwm2 : IntKind.i64.wrap (m : Int) = (m : Int) := IntWalk.i64_in _ (by omega)
  have hp5 : W5.cell? ⟨b, off + m * 3, none⟩ = some (.int .i64 e0.day) := (j5.cell (p := ⟨b, off + m * 3, none⟩) hb).trans hp0
  have HPL := Lib.hid (rplace_any p W5)
  rw [hp] at HPL
  have hd0 : ¬ d < 0 := by omega
  have hd1 : ¬ 1000000 < d := by omega
  clear h hat hb hrg hk hnn hth j5 hp hp0 h0 hr0
  go_enter Tryz.func49, Tryz.ntmps49
  go_wp2_with (first | (refine wpList_load_mid (by rfl) 62 _ (by rfl) b (off + (m + 1) * 3) (by rfl) _ _ (by exact hL) Tryz.underlying62 rfl (by kernel_rfl) ?_) | (refine smd 62 w.heap.size 0 (ht := HTH) (h := ?_); rw [← HW5.out]; refine Hid.out ?_))
  refine Lib.hid ?_
  go_wp2_with fail
  refine HPL.out.mono ?_
  rintro e w1 ⟨rfl, hw⟩
  obtain rfl := hw.symm
  clear hw HPL
  go_wp2_with fail
  refine seq_start (S := fun w' => w'.cell? ⟨w.heap.size, 0, none⟩ = some (.int .i64 d) ∧ w'.cell? ⟨w.heap.size, 1, none⟩ = some (.int .i64 2) ∧ w'.cell? ⟨b, off + m * 3, none⟩ = some (.int .i64 e0.day)) (by kernel_rfl) (by kernel_rfl) (by exact ⟨c0, c1, hp5⟩) ?_
  repeat (first | refine tk0 (h := ?_) | refine tkG (h := ?_) | refine skG (h := ?_))
  refine seq_done (by kernel_rfl) ?_
  go_wp2_with fail
  go_ret
  exact ⟨rfl, HJ.out.drew⟩
theorem chk_late2 (v : Value) (xs : List EvD) (m : Nat) (d p : Int) (w : World) (h : RdE w v xs) (hk : xs[(m + 1)]? = some ⟨d, 2, p⟩) (e0 : EvD) (h0 : xs[m]? = some e0) (hn : xs.length ≤ 1000) (hd : 0 ≤ d ∧ d ≤ 1000000) (hp : placeB p = true) (he : ¬ d < e0.day) :
    Calls Tryz.prog 49 #[v, .int .i64 ((m : Int) + 1)] w fun e w' => e = .returned (.int .i64 0) ∧ Below w.heap.size w w' := by
  obtain ⟨A, cap, rfl, hlen, hat⟩ := h.at
  obtain ⟨b, off, rfl, hb, hrg⟩ := hat (m + 1) _ hk
  have hkl : (m + 1) < xs.length := (List.getElem?_eq_some_iff.1 hk).1
  obtain ⟨b', off', hbo, -, hr0⟩ := hat m _ h0
  injection hbo with hbo
  injection hbo with hb1 hb2
  subst hb1 hb2
  have hp0 : w.cell? ⟨b, off + m * 3, none⟩ = some (.int .i64 e0.day) := hr0 0 _ rfl
  obtain ⟨n, hnn⟩ : ∃ n, n = xs.length := ⟨_, rfl⟩
  rw [← hnn] at hkl hn ⊢
  have hL : w.rangeAt b (off + (m + 1) * 3) [.int .i64 d, .int .i64 2, .int .i64 p] := hrg
  obtain ⟨hth, W5, HW5, HB5, j5⟩ := box_new w 62 (z := [.int .i64 0, .int .i64 0, .int .i64 0]) (cs := [.int .i64 d, .int .i64 2, .int .i64 p]) (n := 3) rfl rfl
  have HTH := Lib.hid hth
  have HJ := Lib.hid j5
  have c0 := kC HB5 0 rfl
  have c1 := kC HB5 1 rfl
  have c2 := kC HB5 2 rfl
  have hk0 : (0 : Int) ≤ (m : Int) + 1 := by omega
  have hkn : (m : Int) + 1 < (n : Int) := by omega
  have hk1 : (0 : Int) < (m : Int) + 1 := by omega
  have hkz : ¬ (m : Int) + 1 = 0 := by omega
  have hkb : ((m : Int) + 1 == 0) = false := beq_false_of_ne hkz
  have hm0 : (0 : Int) ≤ (m : Int) := by omega
  have hmn : (m : Int) < (n : Int) := by omega
  have hwm : IntKind.i64.wrap ((m : Int) + 1 - 1) = (m : Int) := by rw [IntWalk.i64_in _ (by omega)]; omega
  have hwm2 : IntKind.i64.wrap (m : Int) = (m : Int) := IntWalk.i64_in _ (by omega)
  have hp5 : W5.cell? ⟨b, off + m * 3, none⟩ = some (.int .i64 e0.day) := (j5.cell (p := ⟨b, off + m * 3, none⟩) hb).trans hp0
  have HPL := Lib.hid (rplace_any p W5)
  rw [hp] at HPL
  have hd0 : ¬ d < 0 := by omega
  have hd1 : ¬ 1000000 < d := by omega
  have heb : decide (d < e0.day) = false := decide_eq_false he
  clear h hat hb hrg hk hnn hth j5 hp hp0 h0 hr0
  go_enter Tryz.func49, Tryz.ntmps49
  go_wp2_with (first | (refine wpList_load_mid (by rfl) 62 _ (by rfl) b (off + (m + 1) * 3) (by rfl) _ _ (by exact hL) Tryz.underlying62 rfl (by kernel_rfl) ?_) | (refine smd 62 w.heap.size 0 (ht := HTH) (h := ?_); rw [← HW5.out]; refine Hid.out ?_))
  refine Lib.hid ?_
  go_wp2_with fail
  refine HPL.out.mono ?_
  rintro e w1 ⟨rfl, hw⟩
  obtain rfl := hw.symm
  clear hw HPL
  go_wp2_with fail
  refine seq_start (S := fun w' => w'.cell? ⟨w.heap.size, 0, none⟩ = some (.int .i64 d) ∧ w'.cell? ⟨w.heap.size, 1, none⟩ = some (.int .i64 2) ∧ w'.cell? ⟨b, off + m * 3, none⟩ = some (.int .i64 e0.day)) (by kernel_rfl) (by kernel_rfl) (by exact ⟨c0, c1, hp5⟩) ?_
  repeat (first | refine tk0 (h := ?_) | refine tkG (h := ?_) | refine skG (h := ?_))
  refine seq_done (by kernel_rfl) ?_
  go_wp2_with fail
  go_ret
  exact ⟨rfl, HJ.out.drew⟩
theorem chk_first3 (v : Value) (xs : List EvD) (d p : Int) (w : World) (h : RdE w v xs) (hk : xs[0]? = some ⟨d, 3, p⟩) (hn : xs.length ≤ 1000) (hd : 0 ≤ d ∧ d ≤ 1000000) (hp : placeB p = true) :
    Calls Tryz.prog 49 #[v, .int .i64 0] w fun e w' => e = .returned (.int .i64 7) ∧ Below w.heap.size w w' := by
  obtain ⟨A, cap, rfl, hlen, hat⟩ := h.at
  obtain ⟨b, off, rfl, hb, hrg⟩ := hat 0 _ hk
  have hkl : 0 < xs.length := (List.getElem?_eq_some_iff.1 hk).1
  obtain ⟨n, hnn⟩ : ∃ n, n = xs.length := ⟨_, rfl⟩
  rw [← hnn] at hkl hn ⊢
  have hL : w.rangeAt b (off + 0 * 3) [.int .i64 d, .int .i64 3, .int .i64 p] := hrg
  obtain ⟨hth, W5, HW5, HB5, j5⟩ := box_new w 62 (z := [.int .i64 0, .int .i64 0, .int .i64 0]) (cs := [.int .i64 d, .int .i64 3, .int .i64 p]) (n := 3) rfl rfl
  have HTH := Lib.hid hth
  have HJ := Lib.hid j5
  have c0 := kC HB5 0 rfl
  have c1 := kC HB5 1 rfl
  have c2 := kC HB5 2 rfl
  have hkn : (0 : Int) < (n : Int) := by omega
  have HPL := Lib.hid (rplace_any p W5)
  rw [hp] at HPL
  have hd0 : ¬ d < 0 := by omega
  have hd1 : ¬ 1000000 < d := by omega
  clear h hat hb hrg hk hnn hth j5 hp
  go_enter Tryz.func49, Tryz.ntmps49
  go_wp2_with (first | (refine wpList_load_mid (by rfl) 62 _ (by rfl) b (off + 0 * 3) (by rfl) _ _ (by exact hL) Tryz.underlying62 rfl (by kernel_rfl) ?_) | (refine smd 62 w.heap.size 0 (ht := HTH) (h := ?_); rw [← HW5.out]; refine Hid.out ?_))
  refine Lib.hid ?_
  go_wp2_with fail
  refine HPL.out.mono ?_
  rintro e w1 ⟨rfl, hw⟩
  obtain rfl := hw.symm
  clear hw HPL
  go_wp2_with fail
  refine seq_start (S := fun w' => w'.cell? ⟨w.heap.size, 0, none⟩ = some (.int .i64 d) ∧ w'.cell? ⟨w.heap.size, 1, none⟩ = some (.int .i64 3)) (by kernel_rfl) (by kernel_rfl) (by exact ⟨c0, c1⟩) ?_
  repeat (first | refine tk0 (h := ?_) | refine tkG (h := ?_) | refine skG (h := ?_))
  refine seq_done (by kernel_rfl) ?_
  go_wp2_with fail
  go_ret
  exact ⟨rfl, HJ.out.drew⟩
theorem chk_early3 (v : Value) (xs : List EvD) (m : Nat) (d p : Int) (w : World) (h : RdE w v xs) (hk : xs[(m + 1)]? = some ⟨d, 3, p⟩) (e0 : EvD) (h0 : xs[m]? = some e0) (hn : xs.length ≤ 1000) (hd : 0 ≤ d ∧ d ≤ 1000000) (hp : placeB p = true) (he : d < e0.day) :
    Calls Tryz.prog 49 #[v, .int .i64 ((m : Int) + 1)] w fun e w' => e = .returned (.int .i64 7) ∧ Below w.heap.size w w' := by
  obtain ⟨A, cap, rfl, hlen, hat⟩ := h.at
  obtain ⟨b, off, rfl, hb, hrg⟩ := hat (m + 1) _ hk
  have hkl : (m + 1) < xs.length := (List.getElem?_eq_some_iff.1 hk).1
  obtain ⟨b', off', hbo, -, hr0⟩ := hat m _ h0
  injection hbo with hbo
  injection hbo with hb1 hb2
  subst hb1 hb2
  have hp0 : w.cell? ⟨b, off + m * 3, none⟩ = some (.int .i64 e0.day) := hr0 0 _ rfl
  obtain ⟨n, hnn⟩ : ∃ n, n = xs.length := ⟨_, rfl⟩
  rw [← hnn] at hkl hn ⊢
  have hL : w.rangeAt b (off + (m + 1) * 3) [.int .i64 d, .int .i64 3, .int .i64 p] := hrg
  obtain ⟨hth, W5, HW5, HB5, j5⟩ := box_new w 62 (z := [.int .i64 0, .int .i64 0, .int .i64 0]) (cs := [.int .i64 d, .int .i64 3, .int .i64 p]) (n := 3) rfl rfl
  have HTH := Lib.hid hth
  have HJ := Lib.hid j5
  have c0 := kC HB5 0 rfl
  have c1 := kC HB5 1 rfl
  have c2 := kC HB5 2 rfl
  have hk0 : (0 : Int) ≤ (m : Int) + 1 := by omega
  have hkn : (m : Int) + 1 < (n : Int) := by omega
  have hk1 : (0 : Int) < (m : Int) + 1 := by omega
  have hkz : ¬ (m : Int) + 1 = 0 := by omega
  have hkb : ((m : Int) + 1 == 0) = false := beq_false_of_ne hkz
  have hm0 : (0 : Int) ≤ (m : Int) := by omega
  have hmn : (m : Int) < (n : Int) := by omega
  have hwm : IntKind.i64.wrap ((m : Int) + 1 - 1) = (m : Int) := by rw [IntWalk.i64_in _ (by omega)]; omega
  have hwm2 : IntKind.i64.wrap (m : Int) = (m : Int) := IntWalk.i64_in _ (by omega)
  have hp5 : W5.cell? ⟨b, off + m * 3, none⟩ = some (.int .i64 e0.day) := (j5.cell (p := ⟨b, off + m * 3, none⟩) hb).trans hp0
  have HPL := Lib.hid (rplace_any p W5)
  rw [hp] at HPL
  have hd0 : ¬ d < 0 := by omega
  have hd1 : ¬ 1000000 < d := by omega
  clear h hat hb hrg hk hnn hth j5 hp hp0 h0 hr0
  go_enter Tryz.func49, Tryz.ntmps49
  go_wp2_with (first | (refine wpList_load_mid (by rfl) 62 _ (by rfl) b (off + (m + 1) * 3) (by rfl) _ _ (by exact hL) Tryz.underlying62 rfl (by kernel_rfl) ?_) | (refine smd 62 w.heap.size 0 (ht := HTH) (h := ?_); rw [← HW5.out]; refine Hid.out ?_))
  refine Lib.hid ?_
  go_wp2_with fail
  refine HPL.out.mono ?_
  rintro e w1 ⟨rfl, hw⟩
  obtain rfl := hw.symm
  clear hw HPL
  go_wp2_with fail
  refine seq_start (S := fun w' => w'.cell? ⟨w.heap.size, 0, none⟩ = some (.int .i64 d) ∧ w'.cell? ⟨w.heap.size, 1, none⟩ = some (.int .i64 3) ∧ w'.cell? ⟨b, off + m * 3, none⟩ = some (.int .i64 e0.day)) (by kernel_rfl) (by kernel_rfl) (by exact ⟨c0, c1, hp5⟩) ?_
  repeat (first | refine tk0 (h := ?_) | refine tkG (h := ?_) | refine skG (h := ?_))
  refine seq_done (by kernel_rfl) ?_
  go_wp2_with fail
  go_ret
  exact ⟨rfl, HJ.out.drew⟩
theorem chk_late3 (v : Value) (xs : List EvD) (m : Nat) (d p : Int) (w : World) (h : RdE w v xs) (hk : xs[(m + 1)]? = some ⟨d, 3, p⟩) (e0 : EvD) (h0 : xs[m]? = some e0) (hn : xs.length ≤ 1000) (hd : 0 ≤ d ∧ d ≤ 1000000) (hp : placeB p = true) (he : ¬ d < e0.day) :
    Calls Tryz.prog 49 #[v, .int .i64 ((m : Int) + 1)] w fun e w' => e = .returned (.int .i64 0) ∧ Below w.heap.size w w' := by
  obtain ⟨A, cap, rfl, hlen, hat⟩ := h.at
  obtain ⟨b, off, rfl, hb, hrg⟩ := hat (m + 1) _ hk
  have hkl : (m + 1) < xs.length := (List.getElem?_eq_some_iff.1 hk).1
  obtain ⟨b', off', hbo, -, hr0⟩ := hat m _ h0
  injection hbo with hbo
  injection hbo with hb1 hb2
  subst hb1 hb2
  have hp0 : w.cell? ⟨b, off + m * 3, none⟩ = some (.int .i64 e0.day) := hr0 0 _ rfl
  obtain ⟨n, hnn⟩ : ∃ n, n = xs.length := ⟨_, rfl⟩
  rw [← hnn] at hkl hn ⊢
  have hL : w.rangeAt b (off + (m + 1) * 3) [.int .i64 d, .int .i64 3, .int .i64 p] := hrg
  obtain ⟨hth, W5, HW5, HB5, j5⟩ := box_new w 62 (z := [.int .i64 0, .int .i64 0, .int .i64 0]) (cs := [.int .i64 d, .int .i64 3, .int .i64 p]) (n := 3) rfl rfl
  have HTH := Lib.hid hth
  have HJ := Lib.hid j5
  have c0 := kC HB5 0 rfl
  have c1 := kC HB5 1 rfl
  have c2 := kC HB5 2 rfl
  have hk0 : (0 : Int) ≤ (m : Int) + 1 := by omega
  have hkn : (m : Int) + 1 < (n : Int) := by omega
  have hk1 : (0 : Int) < (m : Int) + 1 := by omega
  have hkz : ¬ (m : Int) + 1 = 0 := by omega
  have hkb : ((m : Int) + 1 == 0) = false := beq_false_of_ne hkz
  have hm0 : (0 : Int) ≤ (m : Int) := by omega
  have hmn : (m : Int) < (n : Int) := by omega
  have hwm : IntKind.i64.wrap ((m : Int) + 1 - 1) = (m : Int) := by rw [IntWalk.i64_in _ (by omega)]; omega
  have hwm2 : IntKind.i64.wrap (m : Int) = (m : Int) := IntWalk.i64_in _ (by omega)
  have hp5 : W5.cell? ⟨b, off + m * 3, none⟩ = some (.int .i64 e0.day) := (j5.cell (p := ⟨b, off + m * 3, none⟩) hb).trans hp0
  have HPL := Lib.hid (rplace_any p W5)
  rw [hp] at HPL
  have hd0 : ¬ d < 0 := by omega
  have hd1 : ¬ 1000000 < d := by omega
  have heb : decide (d < e0.day) = false := decide_eq_false he
  clear h hat hb hrg hk hnn hth j5 hp hp0 h0 hr0
  go_enter Tryz.func49, Tryz.ntmps49
  go_wp2_with (first | (refine wpList_load_mid (by rfl) 62 _ (by rfl) b (off + (m + 1) * 3) (by rfl) _ _ (by exact hL) Tryz.underlying62 rfl (by kernel_rfl) ?_) | (refine smd 62 w.heap.size 0 (ht := HTH) (h := ?_); rw [← HW5.out]; refine Hid.out ?_))
  refine Lib.hid ?_
  go_wp2_with fail
  refine HPL.out.mono ?_
  rintro e w1 ⟨rfl, hw⟩
  obtain rfl := hw.symm
  clear hw HPL
  go_wp2_with fail
  refine seq_start (S := fun w' => w'.cell? ⟨w.heap.size, 0, none⟩ = some (.int .i64 d) ∧ w'.cell? ⟨w.heap.size, 1, none⟩ = some (.int .i64 3) ∧ w'.cell? ⟨b, off + m * 3, none⟩ = some (.int .i64 e0.day)) (by kernel_rfl) (by kernel_rfl) (by exact ⟨c0, c1, hp5⟩) ?_
  repeat (first | refine tk0 (h := ?_) | refine tkG (h := ?_) | refine skG (h := ?_))
  refine seq_done (by kernel_rfl) ?_
  go_wp2_with fail
  go_ret
  exact ⟨rfl, HJ.out.drew⟩
end Go.Proofs.YtfondpakbiagjaaGreatDoor
