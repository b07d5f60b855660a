/- Walks of the reference's text of a fraction and of the law's comparison. -/
import Derived.Test.YtogccnngdfancaaGreatPart42
namespace Go.Proofs.YtogccnngdfancaaGreat
open Go.RowKit
set_option linter.unusedVariables false
set_option linter.unusedSimpArgs false
theorem decS_len32 (n : Nat) (h : dm n ≤ 1800000) : (decS n).length ≤ 18000000 := by
  unfold decS
  split
  · simp
  · have := dec_len_dm n; omega
set_option maxRecDepth 100000 in
set_option maxHeartbeats 4000000 in
theorem rrtext_any (v : Value) (x : Rat) (w : World) (h : RdF w v x) (h6 : QM 1800000 x) : Calls Tryz.prog 40 #[v] w fun e w' => e = .returned (strV (ratS x)) ∧ Below w.heap.size w w' := by
  obtain ⟨hl1, hl2⟩ := h6
  have HZR := Lib.hid (fun w' (hb' : Below w.heap.size w w') => rzero_any v x w' (h.below hb'))
  have HUN := Lib.hid (fun w' (hb' : Below w.heap.size w w') => runder_any v x w' (h.below hb'))
  obtain ⟨Aa, ka, ca, Ab, kb, cb, rfl, ha, hb⟩ := h.parts
  have L1 := decS_len32 _ hl1
  have L2 := decS_len32 _ hl2
  have HT1 := Lib.hid (fun w' (hb' : Below w.heap.size w w') => rdigits_any _ x.num.natAbs w' (ha.below hb') hl1)
  have HT2 := Lib.hid (fun w' (hb' : Below w.heap.size w w') => rdigits_any _ x.den w' (hb.below hb') hl2)
  obtain ⟨ng, hng⟩ : ∃ b, b = decide (x.num < 0) := ⟨_, rfl⟩
  rw [← hng] at HZR HUN ⊢
  obtain ⟨S1, hS1⟩ : ∃ S : ByteArray, S = ⟨(decS x.num.natAbs).toArray⟩ := ⟨_, rfl⟩
  obtain ⟨W2, hW2⟩ : ∃ W2, W2 = w.alloc (.cells #[.bool ng, .slice Aa ka ca, .slice Ab kb cb] 56) := ⟨_, rfl⟩
  have HW2 : Hid (Below w.heap.size w W2) := by rw [hW2]; exact (Below.refl _ w).alloc (Nat.le_refl _) _
  have HRS : Hid (∀ w', Below W2.heap.size W2 w' → _) := fun w' h => res3 (c0 := .bool ng) (c1 := .slice Aa ka ca) (c2 := .slice Ab kb cb) (b := w.heap.size) (t := 56) (by rw [hW2]; exact heap_alloc_new w _) h
  have HE := Lib.hid hW2
  unfold strV at HT1 HT2 ⊢
  rw [← hS1] at HT1
  obtain ⟨S2, hS2⟩ : ∃ S : ByteArray, S = ⟨((if x.num < 0 then [45] else []) ++ decS x.num.natAbs).toArray⟩ := ⟨_, rfl⟩
  obtain ⟨S3, hS3⟩ : ∃ S : ByteArray, S = ⟨(decS x.den).toArray⟩ := ⟨_, rfl⟩
  rw [← hS3] at HT2
  obtain ⟨S4, hS4⟩ : ∃ S : ByteArray, S = ⟨((if x.num < 0 then [45] else []) ++ decS x.num.natAbs ++ [47]).toArray⟩ := ⟨_, rfl⟩
  obtain ⟨S5, hS5⟩ : ∃ S : ByteArray, S = ⟨((if x.num < 0 then [45] else []) ++ decS x.num.natAbs ++ [47] ++ decS x.den).toArray⟩ := ⟨_, rfl⟩
  have HA1 : Hid (ng = true → ∀ w', (Op.stringOp .add ⟨#[45]⟩ S1).run Tryz.prog w' = .ok (.string S2) w') := fun hn w' => by
    rw [hS1]; exact add_str [45] _ (by simp) (by omega) S2 (by rw [hS2, if_pos (by rw [hn] at hng; simpa using hng.symm)]) w'
  have HA0 : Hid (ng = false → S2 = S1) := fun hn => by rw [hS1, hS2, if_neg (by rw [hn] at hng; simpa using hng.symm)]; simp
  have hif : (if x.num < 0 then [45] else [] : List UInt8).length ≤ 1 := by split <;> simp
  have HA2 : Hid (∀ w', (Op.stringOp .add S2 ⟨#[47]⟩).run Tryz.prog w' = .ok (.string S4) w') := fun w' => by
    rw [hS2]; exact add_str _ [47] (by rw [List.length_append]; omega) (by simp) S4 (by rw [hS4]) w'
  have HA3 : Hid (∀ w', (Op.stringOp .add S4 S3).run Tryz.prog w' = .ok (.string S5) w') := fun w' => by
    rw [hS4, hS3]; exact add_str _ _ (by rw [List.length_append, List.length_append, List.length_singleton]; omega) (by omega) S5 (by rw [hS5]) w'
  have HF1 : Hid (x.den = 1 → S2 = ⟨(ratS x).toArray⟩) := fun hd => by rw [hS2]; unfold ratS; rw [if_pos hd, List.append_nil]
  have HF2 : Hid (x.den ≠ 1 → S5 = ⟨(ratS x).toArray⟩) := fun hd => by rw [hS5]; unfold ratS; rw [if_neg hd, List.append_assoc, List.append_assoc, List.append_assoc]; rfl
  have HX0 : Hid (ng = true → decide (x = 0) = false) := fun hn => decide_eq_false fun e => by
    rw [hn, e] at hng
    exact absurd hng (by decide)
  have HORD := Lib.hid (fun v1 v2 w' (h1 : RdM w' v1 x.den) (h2 : RdM w' v2 1) => rorder_any v1 v2 x.den 1 w' h1 h2)
  have HC1 : Hid (x.den = 1 → cmpN x.den 1 = 0) := fun h => by rw [h]; rfl
  have HC2 : Hid (x.den ≠ 1 → cmpN x.den 1 = 1) := fun h => by
    have := x.den_nz
    unfold cmpN
    rw [if_neg (by omega), if_pos (by omega)]
  clear hng hS1 hS2 hS3 hS4 hS5 ha hb h hl1 hl2 L1 L2 hW2 hif
  cases ng
  · by_cases hk : x.den = 1
    · have HS2 : Hid (S2 = S1) := HA0.out rfl
      have HF : Hid (S2 = ⟨(ratS x).toArray⟩) := HF1.out hk
      rw [HC1.out hk] at HORD
      clear HF1 HF2 HA0 HA1 HA2 HA3 HX0 HC1 HC2 hk
      go_enter Tryz.func40, Tryz.ntmps40
      go_wp2_with fail
      rw [← HE.out]
      refine (HT1.out _ HW2.out).mono ?_
      rintro e w3 ⟨rfl, hb3⟩
      have HBW3 : Hid (Below w.heap.size w w3) := HW2.out.trans (hb3.mono HW2.out.size)
      have HB3 : Hid (Below W2.heap.size W2 w3) := hb3
      obtain ⟨q0, q1, q2, -, -, -⟩ := HRS.out _ hb3
      clear hb3
      go_wp2_with fail
      refine (HUN.out _ HBW3.out).mono ?_
      rintro e w5 ⟨⟨v5, rfl, hr5⟩, hb5⟩
      have HR5 := Lib.hid hr5
      have HB5 : Hid (Below W2.heap.size W2 w5) := HB3.out.trans (hb5.mono HB3.out.size)
      have HB6 : Hid (Below W2.heap.size W2 (w5.alloc (.cells #[.int .u32 1] 119))) := HB5.out.alloc HB5.out.size _
      have HR56 := Lib.hid (HR5.out.below ((Below.refl _ w5).alloc (Nat.le_refl _) (.cells #[.int .u32 1] 119)))
      have HONE := Lib.hid (RdM.one_new w5)
      clear hb5 hr5 q0 q1 q2
      go_wp2_with fail
      refine (HORD.out _ _ _ HR56.out HONE.out).mono ?_
      rintro e w6 ⟨rfl, hb6⟩
      have HB7 : Hid (Below W2.heap.size W2 w6) := HB6.out.trans (hb6.mono HB6.out.size)
      have HBW7 : Hid (Below w.heap.size w w6) := HW2.out.trans (HB7.out.mono HW2.out.size)
      clear hb6
      obtain ⟨q0, q1, q2, -, -, -⟩ := HRS.out _ HB7.out
      go_wp2_with fail
      go_ret
      exact ⟨by rw [← HF.out]; rw [HS2.out]; rfl, HBW7.out⟩
    · have HS2 : Hid (S2 = S1) := HA0.out rfl
      have HF : Hid (S5 = ⟨(ratS x).toArray⟩) := HF2.out hk
      rw [HC2.out hk] at HORD
      have hadd2 := HA2.out
      have hadd3 := HA3.out
      rw [HS2.out] at hadd2
      clear HF1 HF2 HA0 HA1 HA2 HA3 HX0 HC1 HC2 hk
      go_enter Tryz.func40, Tryz.ntmps40
      go_wp2_with fail
      rw [← HE.out]
      refine (HT1.out _ HW2.out).mono ?_
      rintro e w3 ⟨rfl, hb3⟩
      have HBW3 : Hid (Below w.heap.size w w3) := HW2.out.trans (hb3.mono HW2.out.size)
      have HB3 : Hid (Below W2.heap.size W2 w3) := hb3
      obtain ⟨q0, q1, q2, -, -, -⟩ := HRS.out _ hb3
      clear hb3
      go_wp2_with fail
      refine (HUN.out _ HBW3.out).mono ?_
      rintro e w5 ⟨⟨v5, rfl, hr5⟩, hb5⟩
      have HR5 := Lib.hid hr5
      have HB5 : Hid (Below W2.heap.size W2 w5) := HB3.out.trans (hb5.mono HB3.out.size)
      have HB6 : Hid (Below W2.heap.size W2 (w5.alloc (.cells #[.int .u32 1] 119))) := HB5.out.alloc HB5.out.size _
      have HR56 := Lib.hid (HR5.out.below ((Below.refl _ w5).alloc (Nat.le_refl _) (.cells #[.int .u32 1] 119)))
      have HONE := Lib.hid (RdM.one_new w5)
      clear hb5 hr5 q0 q1 q2
      go_wp2_with fail
      refine (HORD.out _ _ _ HR56.out HONE.out).mono ?_
      rintro e w6 ⟨rfl, hb6⟩
      have HB7 : Hid (Below W2.heap.size W2 w6) := HB6.out.trans (hb6.mono HB6.out.size)
      have HBW7 : Hid (Below w.heap.size w w6) := HW2.out.trans (HB7.out.mono HW2.out.size)
      clear hb6
      obtain ⟨q0, q1, q2, -, -, -⟩ := HRS.out _ HB7.out
      go_wp2_with fail
      refine (HT2.out _ HBW7.out).mono ?_
      rintro e w8 ⟨rfl, hb8⟩
      have HB8 := Lib.hid hb8
      clear hb8 q0 q1 q2
      go_wp2_with fail
      go_ret
      exact ⟨by rw [← HF.out]; rfl, HBW7.out.trans (HB8.out.mono HBW7.out.size)⟩
  · by_cases hk : x.den = 1
    · have hadd1 := HA1.out rfl
      have HX := Lib.hid (HX0.out rfl)
      rw [HX.out] at HZR
      have HF : Hid (S2 = ⟨(ratS x).toArray⟩) := HF1.out hk
      rw [HC1.out hk] at HORD
      clear HF1 HF2 HA0 HA1 HA2 HA3 HX0 HC1 HC2 hk
      go_enter Tryz.func40, Tryz.ntmps40
      go_wp2_with fail
      rw [← HE.out]
      refine (HT1.out _ HW2.out).mono ?_
      rintro e w3 ⟨rfl, hb3⟩
      have HBW3 : Hid (Below w.heap.size w w3) := HW2.out.trans (hb3.mono HW2.out.size)
      have HB3 : Hid (Below W2.heap.size W2 w3) := hb3
      obtain ⟨q0, q1, q2, -, -, -⟩ := HRS.out _ hb3
      clear hb3
      go_wp2_with fail
      refine (HZR.out _ HBW3.out).mono ?_
      rintro e w4 ⟨rfl, hb4⟩
      have HB4 : Hid (Below W2.heap.size W2 w4) := HB3.out.trans (hb4.mono HB3.out.size)
      have HBW4 : Hid (Below w.heap.size w w4) := HW2.out.trans (HB4.out.mono HW2.out.size)
      clear hb4 q0 q1 q2
      obtain ⟨q0, q1, q2, -, -, -⟩ := HRS.out _ HB4.out
      go_wp2_with fail
      refine (HUN.out _ HBW4.out).mono ?_
      rintro e w5 ⟨⟨v5, rfl, hr5⟩, hb5⟩
      have HR5 := Lib.hid hr5
      have HB5 : Hid (Below W2.heap.size W2 w5) := HB4.out.trans (hb5.mono HB4.out.size)
      have HB6 : Hid (Below W2.heap.size W2 (w5.alloc (.cells #[.int .u32 1] 119))) := HB5.out.alloc HB5.out.size _
      have HR56 := Lib.hid (HR5.out.below ((Below.refl _ w5).alloc (Nat.le_refl _) (.cells #[.int .u32 1] 119)))
      have HONE := Lib.hid (RdM.one_new w5)
      clear hb5 hr5 q0 q1 q2
      go_wp2_with fail
      refine (HORD.out _ _ _ HR56.out HONE.out).mono ?_
      rintro e w6 ⟨rfl, hb6⟩
      have HB7 : Hid (Below W2.heap.size W2 w6) := HB6.out.trans (hb6.mono HB6.out.size)
      have HBW7 : Hid (Below w.heap.size w w6) := HW2.out.trans (HB7.out.mono HW2.out.size)
      clear hb6
      obtain ⟨q0, q1, q2, -, -, -⟩ := HRS.out _ HB7.out
      go_wp2_with fail
      go_ret
      exact ⟨by rw [← HF.out]; rfl, HBW7.out⟩
    · have hadd1 := HA1.out rfl
      have HX := Lib.hid (HX0.out rfl)
      rw [HX.out] at HZR
      have HF : Hid (S5 = ⟨(ratS x).toArray⟩) := HF2.out hk
      rw [HC2.out hk] at HORD
      have hadd2 := HA2.out
      have hadd3 := HA3.out
      clear HF1 HF2 HA0 HA1 HA2 HA3 HX0 HC1 HC2 hk
      go_enter Tryz.func40, Tryz.ntmps40
      go_wp2_with fail
      rw [← HE.out]
      refine (HT1.out _ HW2.out).mono ?_
      rintro e w3 ⟨rfl, hb3⟩
      have HBW3 : Hid (Below w.heap.size w w3) := HW2.out.trans (hb3.mono HW2.out.size)
      have HB3 : Hid (Below W2.heap.size W2 w3) := hb3
      obtain ⟨q0, q1, q2, -, -, -⟩ := HRS.out _ hb3
      clear hb3
      go_wp2_with fail
      refine (HZR.out _ HBW3.out).mono ?_
      rintro e w4 ⟨rfl, hb4⟩
      have HB4 : Hid (Below W2.heap.size W2 w4) := HB3.out.trans (hb4.mono HB3.out.size)
      have HBW4 : Hid (Below w.heap.size w w4) := HW2.out.trans (HB4.out.mono HW2.out.size)
      clear hb4 q0 q1 q2
      obtain ⟨q0, q1, q2, -, -, -⟩ := HRS.out _ HB4.out
      go_wp2_with fail
      refine (HUN.out _ HBW4.out).mono ?_
      rintro e w5 ⟨⟨v5, rfl, hr5⟩, hb5⟩
      have HR5 := Lib.hid hr5
      have HB5 : Hid (Below W2.heap.size W2 w5) := HB4.out.trans (hb5.mono HB4.out.size)
      have HB6 : Hid (Below W2.heap.size W2 (w5.alloc (.cells #[.int .u32 1] 119))) := HB5.out.alloc HB5.out.size _
      have HR56 := Lib.hid (HR5.out.below ((Below.refl _ w5).alloc (Nat.le_refl _) (.cells #[.int .u32 1] 119)))
      have HONE := Lib.hid (RdM.one_new w5)
      clear hb5 hr5 q0 q1 q2
      go_wp2_with fail
      refine (HORD.out _ _ _ HR56.out HONE.out).mono ?_
      rintro e w6 ⟨rfl, hb6⟩
      have HB7 : Hid (Below W2.heap.size W2 w6) := HB6.out.trans (hb6.mono HB6.out.size)
      have HBW7 : Hid (Below w.heap.size w w6) := HW2.out.trans (HB7.out.mono HW2.out.size)
      clear hb6
      obtain ⟨q0, q1, q2, -, -, -⟩ := HRS.out _ HB7.out
      go_wp2_with fail
      refine (HT2.out _ HBW7.out).mono ?_
      rintro e w8 ⟨rfl, hb8⟩
      have HB8 := Lib.hid hb8
      clear hb8 q0 q1 q2
      go_wp2_with fail
      go_ret
      exact ⟨by rw [← HF.out]; rfl, HBW7.out.trans (HB8.out.mono HBW7.out.size)⟩
set_option maxRecDepth 100000 in
set_option maxHeartbeats 4000000 in
/-- The law's comparison says of the program's and the reference's fractions of one value that they are one. -/
theorem is_any (v u : Value) (x : Rat) (w : World) (hv : RdQ w v x) (hu : RdF w u x) (h6 : QS 900000 x) :
    Calls Tryz.prog 17 #[v, u] w fun e w' => e = .returned (.bool true) ∧ Below w.heap.size w w' := by
  have h7 : QM 1800000 x := ⟨Nat.le_trans (dm_dl _) (by have := h6.1; omega), Nat.le_trans (dm_dl _) (by have := h6.2; omega)⟩
  have HT1 := Lib.hid (fun w' (hb' : Below w.heap.size w w') => rtext_any v x w' (hv.below hb') h6)
  have HT2 := Lib.hid (fun w' (hb' : Below w.heap.size w w') => rrtext_any u x w' (hu.below hb') h7)
  obtain ⟨Aa, ka, ca, Ab, kb, cb, rfl, ha, hb⟩ := hv.parts
  obtain ⟨Ac, kc, cc, Ad, kd, cd, rfl, hc, hd⟩ := hu.parts
  obtain ⟨ng, hng⟩ : ∃ b, b = decide (x.num < 0) := ⟨_, rfl⟩
  rw [← hng] at HT1 HT2 ⊢
  unfold strV at HT1 HT2
  obtain ⟨S, hS⟩ : ∃ S : ByteArray, S = ⟨(ratS x).toArray⟩ := ⟨_, rfl⟩
  rw [← hS] at HT1 HT2
  clear hng hS ha hb hc hd hv hu h6 h7
  obtain ⟨W2, hW2⟩ : ∃ W2, W2 = ((w.alloc (Obj.cells #[Value.bool ng, Value.slice Aa ka ca, Value.slice Ab kb cb] 52)).alloc (Obj.cells #[Value.bool ng, Value.slice Ac kc cc, Value.slice Ad kd cd] 56)) := ⟨_, rfl⟩
  have hb2w : Below w.heap.size w W2 := by rw [hW2]; exact ((Below.refl _ w).alloc (by simp <;> omega) _).alloc (by simp <;> omega) _
  have hsz2 : w.heap.size + 2 ≤ W2.heap.size := by rw [hW2]; simp
  have HARG0 : Hid (∀ w', Below W2.heap.size W2 w' → _) := fun w' h => resL (cs := #[Value.bool ng, Value.slice Aa ka ca, Value.slice Ab kb cb]) (b := w.heap.size) (t := 52) (by rw [hW2, Below.heap_alloc _ _ _ (by simp <;> omega)]; have hx := heap_alloc_new w (.cells #[Value.bool ng, Value.slice Aa ka ca, Value.slice Ab kb cb] 52); simpa using hx) h
  have HARG1 : Hid (∀ w', Below W2.heap.size W2 w' → _) := fun w' h => resL (cs := #[Value.bool ng, Value.slice Ac kc cc, Value.slice Ad kd cd]) (b := w.heap.size + 1) (t := 56) (by rw [hW2]; have hx := heap_alloc_new (w.alloc (Obj.cells #[Value.bool ng, Value.slice Aa ka ca, Value.slice Ab kb cb] 52)) (.cells #[Value.bool ng, Value.slice Ac kc cc, Value.slice Ad kd cd] 56); simpa using hx) h
  have HB2W := Lib.hid hb2w
  have HSZ2 := Lib.hid hsz2
  have HW2 := Lib.hid hW2
  have HBs : Hid (Below W2.heap.size W2 W2) := Below.refl _ _
  clear hW2 hb2w hsz2
  go_enter Tryz.func17, Tryz.ntmps17
  go_wp2_with fail
  rw [← HW2.out]
  have HBD1 : Hid (Below W2.heap.size W2 W2.drew) := HBs.out.drew
  have dd0 := HARG0.out _ HBD1.out
  have dd1 := HARG1.out _ HBD1.out
  refine seq_start (S := fun w' => w'.cell? ⟨w.heap.size, 0, none⟩ = some (Value.bool ng) ∧ w'.cell? ⟨w.heap.size, 1, none⟩ = some (Value.slice Aa ka ca) ∧ w'.cell? ⟨w.heap.size, 2, none⟩ = some (Value.slice Ab kb cb) ∧ w'.cell? ⟨w.heap.size + 1, 0, none⟩ = some (Value.bool ng) ∧ w'.cell? ⟨w.heap.size + 1, 1, none⟩ = some (Value.slice Ac kc cc) ∧ w'.cell? ⟨w.heap.size + 1, 2, none⟩ = some (Value.slice Ad kd cd)) (by kernel_rfl) (by kernel_rfl) (by exact ⟨(dd0 0).1, (dd0 1).1, (dd0 2).1, (dd1 0).1, (dd1 1).1, (dd1 2).1⟩) ?_
  clear dd0 dd1
  repeat (first
    | (refine seq_take0 (v := ?_) ?_ (fun _ _ _ h => h) (by kernel_rfl) ?_ ?_; rotate_left; (focus rfl); (focus (intro w' hSw; (try dsimp only at hSw); go_simp; (try with_reducible rfl); done)); (try simp only [Act.put, List.setIfInBounds_toArray, List.set_cons_zero, List.set_cons_succ]))
    | (refine seq_takeG (v := ?_) (g := ?_) (d := ?_) (b := ?_) (u := ?_) ?_ ?_ ?_ ?_ (fun _ _ _ h => h) (by kernel_rfl) ?_ ?_; rotate_left 5; (focus rfl); (focus rfl); (focus rfl); (focus (first | rfl | (go_simp; done))); (focus (intro w' hSw; (try dsimp only at hSw); go_simp; (try with_reducible rfl); done)); (try simp only [Act.put, List.setIfInBounds_toArray, List.set_cons_zero, List.set_cons_succ]))
    | (refine seq_skipG (g := ?_) (d := ?_) (b := ?_) (u := ?_) ?_ ?_ ?_ ?_ (fun _ _ _ h => h) (by kernel_rfl) ?_; rotate_left 4; (focus rfl); (focus rfl); (focus rfl); (focus (first | rfl | (go_simp; done))); (try simp only [Act.put, List.setIfInBounds_toArray, List.set_cons_zero, List.set_cons_succ])))
  refine seq_pull 1 ?_
  simp only [places, pull]
  (first
    | (refine seq_take0 (v := ?_) ?_ (fun _ _ _ h => h) (by kernel_rfl) ?_ ?_; rotate_left; (focus rfl); (focus (intro w' hSw; (try dsimp only at hSw); go_simp; (try with_reducible rfl); done)); (try simp only [Act.put, List.setIfInBounds_toArray, List.set_cons_zero, List.set_cons_succ]))
    | (refine seq_takeG (v := ?_) (g := ?_) (d := ?_) (b := ?_) (u := ?_) ?_ ?_ ?_ ?_ (fun _ _ _ h => h) (by kernel_rfl) ?_ ?_; rotate_left 5; (focus rfl); (focus rfl); (focus rfl); (focus (first | rfl | (go_simp; done))); (focus (intro w' hSw; (try dsimp only at hSw); go_simp; (try with_reducible rfl); done)); (try simp only [Act.put, List.setIfInBounds_toArray, List.set_cons_zero, List.set_cons_succ]))
    | (refine seq_skipG (g := ?_) (d := ?_) (b := ?_) (u := ?_) ?_ ?_ ?_ ?_ (fun _ _ _ h => h) (by kernel_rfl) ?_; rotate_left 4; (focus rfl); (focus rfl); (focus rfl); (focus (first | rfl | (go_simp; done))); (try simp only [Act.put, List.setIfInBounds_toArray, List.set_cons_zero, List.set_cons_succ])))
  refine seq_op (by kernel_rfl) (by rfl) (fun K hK => ?_)
  go_simp
  refine (HT1.out _ (HB2W.out.trans (HBD1.out.mono HB2W.out.size))).mono ?_
  rintro e w3 ⟨rfl, hbx⟩
  have HB_w3 : Hid (Below W2.heap.size W2 w3) := HBD1.out.trans (hbx.mono HBD1.out.size)
  have dd0 := HARG0.out _ HB_w3.out
  have dd1 := HARG1.out _ HB_w3.out
  refine hK.out _ _ (by exact ⟨(dd0 0).1, (dd0 1).1, (dd0 2).1, (dd1 0).1, (dd1 1).1, (dd1 2).1⟩) ?_
  clear hK K dd0 dd1 hbx 
  repeat (first
    | (refine seq_take0 (v := ?_) ?_ (fun _ _ _ h => h) (by kernel_rfl) ?_ ?_; rotate_left; (focus rfl); (focus (intro w' hSw; (try dsimp only at hSw); go_simp; (try with_reducible rfl); done)); (try simp only [Act.put, List.setIfInBounds_toArray, List.set_cons_zero, List.set_cons_succ]))
    | (refine seq_takeG (v := ?_) (g := ?_) (d := ?_) (b := ?_) (u := ?_) ?_ ?_ ?_ ?_ (fun _ _ _ h => h) (by kernel_rfl) ?_ ?_; rotate_left 5; (focus rfl); (focus rfl); (focus rfl); (focus (first | rfl | (go_simp; done))); (focus (intro w' hSw; (try dsimp only at hSw); go_simp; (try with_reducible rfl); done)); (try simp only [Act.put, List.setIfInBounds_toArray, List.set_cons_zero, List.set_cons_succ]))
    | (refine seq_skipG (g := ?_) (d := ?_) (b := ?_) (u := ?_) ?_ ?_ ?_ ?_ (fun _ _ _ h => h) (by kernel_rfl) ?_; rotate_left 4; (focus rfl); (focus rfl); (focus rfl); (focus (first | rfl | (go_simp; done))); (try simp only [Act.put, List.setIfInBounds_toArray, List.set_cons_zero, List.set_cons_succ])))
  refine seq_op (by kernel_rfl) (by rfl) (fun K hK => ?_)
  go_simp
  refine (HT2.out _ (HB2W.out.trans (HB_w3.out.mono HB2W.out.size))).mono ?_
  rintro e w4 ⟨rfl, hbx⟩
  have HB_w4 : Hid (Below W2.heap.size W2 w4) := HB_w3.out.trans (hbx.mono HB_w3.out.size)
  have dd0 := HARG0.out _ HB_w4.out
  have dd1 := HARG1.out _ HB_w4.out
  refine hK.out _ _ (by exact ⟨(dd0 0).1, (dd0 1).1, (dd0 2).1, (dd1 0).1, (dd1 1).1, (dd1 2).1⟩) ?_
  clear hK K dd0 dd1 hbx 
  repeat (first
    | (refine seq_take0 (v := ?_) ?_ (fun _ _ _ h => h) (by kernel_rfl) ?_ ?_; rotate_left; (focus rfl); (focus (intro w' hSw; (try dsimp only at hSw); go_simp; (try with_reducible rfl); done)); (try simp only [Act.put, List.setIfInBounds_toArray, List.set_cons_zero, List.set_cons_succ]))
    | (refine seq_takeG (v := ?_) (g := ?_) (d := ?_) (b := ?_) (u := ?_) ?_ ?_ ?_ ?_ (fun _ _ _ h => h) (by kernel_rfl) ?_ ?_; rotate_left 5; (focus rfl); (focus rfl); (focus rfl); (focus (first | rfl | (go_simp; done))); (focus (intro w' hSw; (try dsimp only at hSw); go_simp; (try with_reducible rfl); done)); (try simp only [Act.put, List.setIfInBounds_toArray, List.set_cons_zero, List.set_cons_succ]))
    | (refine seq_skipG (g := ?_) (d := ?_) (b := ?_) (u := ?_) ?_ ?_ ?_ ?_ (fun _ _ _ h => h) (by kernel_rfl) ?_; rotate_left 4; (focus rfl); (focus rfl); (focus rfl); (focus (first | rfl | (go_simp; done))); (try simp only [Act.put, List.setIfInBounds_toArray, List.set_cons_zero, List.set_cons_succ])))
  refine seq_done (by kernel_rfl) ?_
  go_wp2_with fail
  go_ret
  exact ⟨by first | rfl | simp, HB2W.out.trans (HB_w4.out.mono HB2W.out.size)⟩
end Go.Proofs.YtogccnngdfancaaGreat
