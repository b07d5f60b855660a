/- Walk of the reference's decimal digits. Walks of the reference's text of a fraction and of the law's comparison. -/
import Derived.Test.YtodckaioeomccaaGreatPart26
import Derived.Test.YtodckaioeomccaaGreatPart32
import Derived.Test.YtodckaioeomccaaGreatPart03
namespace Go.Proofs.YtodckaioeomccaaGreat
open Go.RowKit
set_option linter.unusedVariables false
set_option linter.unusedSimpArgs false
theorem pad_front : ∀ (k r : Nat), pad (k + 1) r = UInt8.ofNat (48 + r / 10 ^ k % 10) :: pad k r
 | 0, r => by simp [pad]
 | k + 1, r => by
  rw [pad, pad_front k (r / 10), Nat.div_div_eq_div_mul, ← Nat.pow_succ', pad]
  rfl
theorem dec_len_dm (n : Nat) : (dec n).length ≤ 10 * dm n := by
 refine dec_le n _ ?_
 have h1 := lt_len B32_2 n
 have h2 : B32 ^ (digs B32 n).length ≤ (10 ^ 10) ^ (digs B32 n).length := Nat.pow_le_pow_left (by unfold B32; decide) _
 rw [← Nat.pow_mul] at h2
 unfold dm
 omega
def digits10 : ByteArray := ⟨#[48, 49, 50, 51, 52, 53, 54, 55, 56, 57]⟩
theorem digit_at : ∀ d, d < 10 → digits10.extract d (d + 1) = ⟨[UInt8.ofNat (48 + d)].toArray⟩ := by decide
set_option maxRecDepth 100000 in
set_option maxHeartbeats 8000000 in
theorem rdigits_any (va : Value) (N : Nat) (w : World) (hP : RdM w va N) (h6 : dm N ≤ 1800000) : Calls Tryz.prog 189 #[va] w fun e w' => e = .returned (strV (decS N)) ∧ Below w.heap.size w w' := by
 have HP := h0d hP
 have HN6 := h0d h6
 have HDN : Hid ((dec N).length ≤ 18000000) := by
  show _ ≤ _
  have := dec_len_dm N
  omega
 clear hP h6
 go_enter Tryz.func189, Tryz.ntmps189
 go_wp2_with fail
 go_loopg [0, 3] N (fun n av sv wr => ∃ (S : ByteArray) (s0 : List UInt8), sv = .string S ∧ Hid (S = ⟨s0.toArray⟩) ∧ Hid (RdM wr av n) ∧ Hid (Below w.heap.size w wr) ∧ Hid (dec N = dec n ++ s0) ∧ Hid (dm n ≤ 1800000))
 case atStart => exact ⟨_, [], rfl, rfl, HP.out, Below.refl _ _, by show _ = _; simp, HN6.out⟩
 case round =>
  obtain ⟨S, s0, rfl, HS, HA, HBEL, HD, HL6⟩ := hrel
  obtain ⟨A1, k1, c1, rfl, e1, hk1, -, hm1, -⟩ := RdV.open_ HA.out
  by_cases h0 : gk = 0
  ·have hDF : dec N = s0 := by have := HD.out; rw [h0, dec_zero, List.nil_append] at this; exact this
   rw [h0, digs_zero] at e1
   obtain rfl : k1 = 0 := by simpa using e1.symm
   by_cases hN : N = 0
   ·have hs : S = ⟨#[]⟩ := by rw [HS.out, ← hDF, hN, dec_zero]
    have HR : Hid (decS N = [48]) := by show _ = _; unfold decS; rw [if_pos hN]
    subst hs
    clear e1 h0 hDF hN
    go_wp2_with fail
    go_ret
    exact ⟨by rw [HR.out]; rfl, HBEL.out⟩
   ·have hse : S.toList.isEmpty = false := by
     rw [ByteArray.toList_eq, HS.out, ← hDF]
     show (dec N).isEmpty = false
     cases h : dec N with
     | nil => exact absurd h (dec_ne hN)
     | cons => rfl
    have HR : Hid (S = ⟨(decS N).toArray⟩) := by show _ = _; unfold decS; rw [if_neg hN, hDF]; exact HS.out
    clear e1 h0 hDF hN
    go_wp2_with fail
    go_ret
    exact ⟨by rw [HR.out]; rfl, HBEL.out⟩
  ·have hk1p : 0 < k1 := by have := dm_pos h0; unfold dm at this; omega
   have hkp : (0 : Int) < (k1 : Int) := by omega
   obtain ⟨q, hq⟩ : ∃ q, q = gk / 1000000000 := ⟨_, rfl⟩
   obtain ⟨r, hr⟩ : ∃ r, r = gk % 1000000000 := ⟨_, rfl⟩
   have HBY := h0d (rbyWord_any _ gk 1000000000 wr HA.out (by omega) (by unfold B32; omega) (by have := HL6.out; omega))
   rw [← hq, ← hr] at HBY
   have hr9 : r < 1000000000 := by rw [hr]; exact Nat.mod_lt _ (by omega)
   have HQN : Hid (q < gk) := by show _ < _; omega
   have HLQ : Hid (dm q ≤ 1800000) := by show _ ≤ _; have := dm_mono (show q ≤ gk by omega); have := HL6.out; omega
   have HSL : Hid (s0.length ≤ 18000000) := by
    have h1 := congrArg List.length HD.out
    rw [List.length_append] at h1
    have := HDN.out
    show _ ≤ _; omega
   have hgk : gk = q * 10 ^ 9 + r := by
    rw [hq, hr]
    have := Nat.div_add_mod gk 1000000000
    omega
   have HDQ : Hid (q ≠ 0 → dec N = dec q ++ (pad 9 r ++ s0)) := fun h => by
    rw [HD.out, hgk, dec_split 9 q r h (by omega), List.append_assoc]
   have HDZ : Hid (q = 0 → dec N = dec q ++ (dec r ++ s0)) := fun h => by
    rw [HD.out, hgk, h, dec_zero, List.nil_append]; simp
   clear e1 h0 hq hr hgk HD HDN
   go_upto_block 2 with (go_at_call 246; refine HBY.out.mono ?_; rintro e w3 ⟨⟨v3, rfl, hr3⟩, hb3⟩; have HR3 := h0d hr3; have HB3 := h0d hb3; clear hr3 hb3; obtain ⟨A3, n3, c3, rfl, e3, -, -, -, -⟩ := RdV.open_ HR3.out; have HE3 := h0d e3; clear e3)
   go_cut [3, 5, 6] (fun sv rv kv wx => ∃ (S' : ByteArray) (s1 : List UInt8), sv = .string S' ∧ Hid (S' = ⟨s1.toArray⟩) ∧ Hid (wx = w3) ∧ Hid (dec N = dec q ++ s1))
   case first =>
    have HNZ : Hid (n3 = 0 ↔ q = 0) := by
     have := HE3.out
     constructor
     ·intro h; exact (digs_nil B32_2).1 (List.length_eq_zero_iff.1 (by omega))
     ·rintro rfl; rw [digs_zero] at this; simpa using this.symm
    go_wp2_with fail
    go_loop [3, 5, 6] (fun sv rv kv => ∃ (S' : ByteArray) (k r' : Nat) (P : List UInt8), sv = .string S' ∧ rv = .int .u32 (r' : Int) ∧ kv = .int .i64 (k : Int) ∧ k ≤ 9 ∧ r' < 1000000000 ∧ Hid (r' = r / 10 ^ k) ∧ Hid (P = pad k r) ∧ Hid (S' = ⟨(P ++ s0).toArray⟩) ∧ Hid (q = 0 → dec r = dec r' ++ P)) (fun _ _ kv => 9 - (intOf kv).toNat)
    case atStart => exact ⟨S, 0, r, [], rfl, rfl, rfl, Nat.zero_le _, hr9, by show _ = _; simp, rfl, by show _ = _; rw [HS.out]; rfl, fun _ => by simp⟩
    case round =>
     obtain ⟨S', k, r', P, rfl, rfl, rfl, hk, hr', HR', HPP, HS', HZ⟩ := hrel
     by_cases hk9 : k = 9
     ·have HF : Hid (dec N = dec q ++ (P ++ s0)) := by
       by_cases hq0 : q = 0
       ·have h1 := HZ.out hq0
        rw [HR'.out, hk9, Nat.div_eq_of_lt hr9, dec_zero, List.nil_append] at h1
        show _ = _
        rw [← h1]; exact HDZ.out hq0
       ·show _ = _
        rw [HPP.out, hk9]; exact HDQ.out hq0
      subst hk9
      go_wp2_with fail
      go_meet
      case rel => exact ⟨S', P ++ s0, rfl, HS'.out, rfl, HF.out⟩
     ·have hk8 : k < 9 := by omega
      have hki : (k : Int) < 9 := by omega
      by_cases hz : q = 0 ∧ r' = 0
      ·obtain ⟨hq0, hr0⟩ := hz
       have HF : Hid (dec N = dec q ++ (P ++ s0)) := by
        have h1 := HZ.out hq0
        rw [hr0, dec_zero, List.nil_append] at h1
        show _ = _
        rw [← h1]; exact HDZ.out hq0
       have hn0 : n3 = 0 := HNZ.out.2 hq0
       subst hr0
       subst hn0
       clear hq0
       go_wp2_with fail
       go_meet
       case rel => exact ⟨S', P ++ s0, rfl, HS'.out, rfl, HF.out⟩
      ·obtain ⟨d, hd⟩ : ∃ d, d = r' % 10 := ⟨_, rfl⟩
       obtain ⟨r1, hr1⟩ : ∃ x, x = r' / 10 := ⟨_, rfl⟩
       have hd10 : d < 10 := by omega
       obtain ⟨D1, hD1⟩ : ∃ B, B = digits10.extract d (d + 1) := ⟨_, rfl⟩
       obtain ⟨S2, hS2⟩ : ∃ B : ByteArray, B = ⟨([UInt8.ofNat (48 + d)] ++ (P ++ s0)).toArray⟩ := ⟨_, rfl⟩
       have hPl : (P ++ s0).length ≤ 50000000 := by rw [List.length_append, HPP.out, pad_length]; have := HSL.out; omega
       have hadd : ∀ w', (Op.stringOp .add D1 S').run Tryz.prog w' = .ok (.string S2) w' := fun w' => by
        rw [hD1, digit_at d hd10, HS'.out]
        exact add_str _ _ (by simp) (by omega) S2 hS2 w'
       have hext : (⟨#[48, 49, 50, 51, 52, 53, 54, 55, 56, 57]⟩ : ByteArray).extract d (d + 1) = D1 := hD1.symm
       have hdI : (r' : Int) % 10 = (d : Int) := by omega
       have hd1I : IntKind.u32.wrap ((d : Int) + 1) = (d : Int) + 1 := by rw [IntKind.wrap_u32]; omega
       have hqI : (r' : Int) / 10 = (r1 : Int) := by omega
       have hdle : (d : Int) + 1 ≤ 10 := by omega
       have HR1 : Hid (r1 = r / 10 ^ (k + 1)) := by show _ = _; rw [hr1, HR'.out, Nat.div_div_eq_div_mul, ← Nat.pow_succ]
       have HP1 : Hid (UInt8.ofNat (48 + d) :: P = pad (k + 1) r) := by show _ = _; rw [pad_front, ← HR'.out, ← hd, HPP.out]
       have HS1 : Hid (S2 = ⟨((UInt8.ofNat (48 + d) :: P) ++ s0).toArray⟩) := by show _ = _; rw [hS2]; simp
       have HZ1 : Hid (q = 0 → dec r = dec r1 ++ (UInt8.ofNat (48 + d) :: P)) := fun h => by
        rw [HZ.out h, dec_pos (fun e => hz ⟨h, e⟩), ← hd, ← hr1, List.append_assoc]; rfl
       have hr1l : r1 < 1000000000 := by omega
       have hz2 : 0 < n3 ∨ 0 < r' := by
        rcases Nat.eq_zero_or_pos r' with h | h
        ·rcases Nat.eq_zero_or_pos n3 with h2 | h2
         ·exact absurd ⟨HNZ.out.1 h2, h⟩ hz
         ·exact .inl h2
        ·exact .inr h
       have HADD := h0d hadd
       have HEXT := h0d hext
       clear hz hd hr1 hD1 hS2 hPl HR' HPP HZ hadd hext
       by_cases hn3 : 0 < n3
       ·clear hz2
        have hadd := HADD.out
        have hext := HEXT.out
        go_wp2_with fail
        go_round
        case rel => exact ⟨S2, k + 1, r1, UInt8.ofNat (48 + d) :: P, rfl, by first | rfl | exact val_int hqI, by go_num, by omega, hr1l, HR1.out, HP1.out, HS1.out, HZ1.out⟩
        case measure => simp [intOf]; omega
       ·have hrp : 0 < r' := by rcases hz2 with h | h; exact absurd h hn3; exact h
        have hn0 : n3 = 0 := by omega
        have hrpi : (0 : Int) < (r' : Int) := by omega
        clear hz2 hn3
        subst hn0
        have hadd := HADD.out
        have hext := HEXT.out
        go_wp2_with fail
        go_round
        case rel => exact ⟨S2, k + 1, r1, UInt8.ofNat (48 + d) :: P, rfl, by first | rfl | exact val_int hqI, by go_num, by omega, hr1l, HR1.out, HP1.out, HS1.out, HZ1.out⟩
        case measure => simp [intOf]; omega
   case rest =>
    obtain ⟨S', s1, rfl, HS', HWX, HDF⟩ := hcut
    have HR4 : Hid (RdM wc (.slice A3 n3 c3) q) := by rw [HWX.out]; exact HR3.out
    have HB4 : Hid (Below w.heap.size w wc) := by rw [HWX.out]; exact HBEL.out.trans (HB3.out.mono HBEL.out.size)
    go_wp2_with fail
    go_roundg q
    case measure => exact HQN.out
    case rel => exact ⟨S', s1, rfl, HS'.out, HR4.out, HB4.out, HDF.out, HLQ.out⟩
end Go.Proofs.YtodckaioeomccaaGreat
namespace Go.Proofs.YtodckaioeomccaaGreat
open Go.RowKit
set_option linter.unusedVariables false
set_option linter.unusedSimpArgs false
theorem decS_len32 (n : Nat) (h : dm n ≤ 1800000) : (decS n).length ≤ 18000000 := by
 unfold decS
 split
 ·simp
 ·have := dec_len_dm n; omega
set_option maxRecDepth 100000 in
set_option maxHeartbeats 4000000 in
theorem rrtext_any (v : Value) (x : Rat) (w : World) (h : RdF w v x) (h6 : QM 1800000 x) : Calls Tryz.prog 106 #[v] w fun e w' => e = .returned (strV (ratS x)) ∧ Below w.heap.size w w' := by
 obtain ⟨hl1, hl2⟩ := h6
 have HZR := h0d (fun w' (hb' : Below w.heap.size w w') => rzero_any v x w' (h.below hb'))
 have HUN := h0d (fun w' (hb' : Below w.heap.size w w') => runder_any v x w' (h.below hb'))
 obtain ⟨Aa, ka, ca, Ab, kb, cb, rfl, ha, hb⟩ := h.parts
 have L1 := decS_len32 _ hl1
 have L2 := decS_len32 _ hl2
 have HT1 := h0d (fun w' (hb' : Below w.heap.size w w') => rdigits_any _ x.num.natAbs w' (ha.below hb') hl1)
 have HT2 := h0d (fun w' (hb' : Below w.heap.size w w') => rdigits_any _ x.den w' (hb.below hb') hl2)
 obtain ⟨ng, hng⟩ : ∃ b, b = decide (x.num < 0) := ⟨_, rfl⟩
 rw [← hng] at HZR HUN ⊢
 obtain ⟨S1, hS1⟩ : ∃ S : ByteArray, S = ⟨(decS x.num.natAbs).toArray⟩ := ⟨_, rfl⟩
 obtain ⟨W2, hW2⟩ : ∃ W2, W2 = w.alloc (.cells #[.bool ng, .slice Aa ka ca, .slice Ab kb cb] 40) := ⟨_, rfl⟩
 have HW2 : Hid (Below w.heap.size w W2) := by rw [hW2]; exact (Below.refl _ w).alloc (Nat.le_refl _) _
 have HRS : Hid (∀ w', Below W2.heap.size W2 w' → _) := fun w' h => res3 (c0 := .bool ng) (c1 := .slice Aa ka ca) (c2 := .slice Ab kb cb) (b := w.heap.size) (t := 40) (by rw [hW2]; exact heap_alloc_new w _) h
 have HE := h0d hW2
 unfold strV at HT1 HT2 ⊢
 rw [← hS1] at HT1
 obtain ⟨S2, hS2⟩ : ∃ S : ByteArray, S = ⟨((if x.num < 0 then [45] else []) ++ decS x.num.natAbs).toArray⟩ := ⟨_, rfl⟩
 obtain ⟨S3, hS3⟩ : ∃ S : ByteArray, S = ⟨(decS x.den).toArray⟩ := ⟨_, rfl⟩
 rw [← hS3] at HT2
 obtain ⟨S4, hS4⟩ : ∃ S : ByteArray, S = ⟨((if x.num < 0 then [45] else []) ++ decS x.num.natAbs ++ [47]).toArray⟩ := ⟨_, rfl⟩
 obtain ⟨S5, hS5⟩ : ∃ S : ByteArray, S = ⟨((if x.num < 0 then [45] else []) ++ decS x.num.natAbs ++ [47] ++ decS x.den).toArray⟩ := ⟨_, rfl⟩
 have HA1 : Hid (ng = true → ∀ w', (Op.stringOp .add ⟨#[45]⟩ S1).run Tryz.prog w' = .ok (.string S2) w') := fun hn w' => by
  rw [hS1]; exact add_str [45] _ (by simp) (by omega) S2 (by rw [hS2, if_pos (by rw [hn] at hng; simpa using hng.symm)]) w'
 have HA0 : Hid (ng = false → S2 = S1) := fun hn => by rw [hS1, hS2, if_neg (by rw [hn] at hng; simpa using hng.symm)]; simp
 have hif : (if x.num < 0 then [45] else [] : List UInt8).length ≤ 1 := by split <;> simp
 have HA2 : Hid (∀ w', (Op.stringOp .add S2 ⟨#[47]⟩).run Tryz.prog w' = .ok (.string S4) w') := fun w' => by
  rw [hS2]; exact add_str _ [47] (by rw [List.length_append]; omega) (by simp) S4 (by rw [hS4]) w'
 have HA3 : Hid (∀ w', (Op.stringOp .add S4 S3).run Tryz.prog w' = .ok (.string S5) w') := fun w' => by
  rw [hS4, hS3]; exact add_str _ _ (by rw [List.length_append, List.length_append, List.length_singleton]; omega) (by omega) S5 (by rw [hS5]) w'
 have HF1 : Hid (x.den = 1 → S2 = ⟨(ratS x).toArray⟩) := fun hd => by rw [hS2]; unfold ratS; rw [if_pos hd, List.append_nil]
 have HF2 : Hid (x.den ≠ 1 → S5 = ⟨(ratS x).toArray⟩) := fun hd => by rw [hS5]; unfold ratS; rw [if_neg hd, List.append_assoc, List.append_assoc, List.append_assoc]; rfl
 have HX0 : Hid (ng = true → decide (x = 0) = false) := fun hn => decide_eq_false fun e => by
  rw [hn, e] at hng
  exact absurd hng (by decide)
 have HORD := h0d (fun v1 v2 w' (h1 : RdM w' v1 x.den) (h2 : RdM w' v2 1) => rorder_any v1 v2 x.den 1 w' h1 h2)
 have HC1 : Hid (x.den = 1 → cmpN x.den 1 = 0) := fun h => by rw [h]; rfl
 have HC2 : Hid (x.den ≠ 1 → cmpN x.den 1 = 1) := fun h => by
  have := x.den_nz
  unfold cmpN
  rw [if_neg (by omega), if_pos (by omega)]
 clear hng hS1 hS2 hS3 hS4 hS5 ha hb h hl1 hl2 L1 L2 hW2 hif
 cases ng
 ·by_cases hk : x.den = 1
  ·have HS2 : Hid (S2 = S1) := HA0.out rfl
   have HF : Hid (S2 = ⟨(ratS x).toArray⟩) := HF1.out hk
   rw [HC1.out hk] at HORD
   clear HF1 HF2 HA0 HA1 HA2 HA3 HX0 HC1 HC2 hk
   go_enter Tryz.func106, Tryz.ntmps106
   go_wp2_with fail
   rw [← HE.out]
   refine (HT1.out _ HW2.out).mono ?_
   rintro e w3 ⟨rfl, hb3⟩
   have HBW3 : Hid (Below w.heap.size w w3) := HW2.out.trans (hb3.mono HW2.out.size)
   have HB3 : Hid (Below W2.heap.size W2 w3) := hb3
   obtain ⟨q0, q1, q2, -, -, -⟩ := HRS.out _ hb3
   clear hb3
   go_wp2_with fail
   refine (HUN.out _ HBW3.out).mono ?_
   rintro e w5 ⟨⟨v5, rfl, hr5⟩, hb5⟩
   have HR5 := h0d hr5
   have HB5 : Hid (Below W2.heap.size W2 w5) := HB3.out.trans (hb5.mono HB3.out.size)
   have HB6 : Hid (Below W2.heap.size W2 (w5.alloc (.cells #[.int .u32 1] 271))) := HB5.out.alloc HB5.out.size _
   have HR56 := h0d (HR5.out.below ((Below.refl _ w5).alloc (Nat.le_refl _) (.cells #[.int .u32 1] 271)))
   have HONE := h0d (RdM.one_new w5)
   clear hb5 hr5 q0 q1 q2
   go_wp2_with fail
   refine (HORD.out _ _ _ HR56.out HONE.out).mono ?_
   rintro e w6 ⟨rfl, hb6⟩
   have HB7 : Hid (Below W2.heap.size W2 w6) := HB6.out.trans (hb6.mono HB6.out.size)
   have HBW7 : Hid (Below w.heap.size w w6) := HW2.out.trans (HB7.out.mono HW2.out.size)
   clear hb6
   obtain ⟨q0, q1, q2, -, -, -⟩ := HRS.out _ HB7.out
   go_wp2_with fail
   go_ret
   exact ⟨by rw [← HF.out]; rw [HS2.out]; rfl, HBW7.out⟩
  ·have HS2 : Hid (S2 = S1) := HA0.out rfl
   have HF : Hid (S5 = ⟨(ratS x).toArray⟩) := HF2.out hk
   rw [HC2.out hk] at HORD
   have hadd2 := HA2.out
   have hadd3 := HA3.out
   rw [HS2.out] at hadd2
   clear HF1 HF2 HA0 HA1 HA2 HA3 HX0 HC1 HC2 hk
   go_enter Tryz.func106, Tryz.ntmps106
   go_wp2_with fail
   rw [← HE.out]
   refine (HT1.out _ HW2.out).mono ?_
   rintro e w3 ⟨rfl, hb3⟩
   have HBW3 : Hid (Below w.heap.size w w3) := HW2.out.trans (hb3.mono HW2.out.size)
   have HB3 : Hid (Below W2.heap.size W2 w3) := hb3
   obtain ⟨q0, q1, q2, -, -, -⟩ := HRS.out _ hb3
   clear hb3
   go_wp2_with fail
   refine (HUN.out _ HBW3.out).mono ?_
   rintro e w5 ⟨⟨v5, rfl, hr5⟩, hb5⟩
   have HR5 := h0d hr5
   have HB5 : Hid (Below W2.heap.size W2 w5) := HB3.out.trans (hb5.mono HB3.out.size)
   have HB6 : Hid (Below W2.heap.size W2 (w5.alloc (.cells #[.int .u32 1] 271))) := HB5.out.alloc HB5.out.size _
   have HR56 := h0d (HR5.out.below ((Below.refl _ w5).alloc (Nat.le_refl _) (.cells #[.int .u32 1] 271)))
   have HONE := h0d (RdM.one_new w5)
   clear hb5 hr5 q0 q1 q2
   go_wp2_with fail
   refine (HORD.out _ _ _ HR56.out HONE.out).mono ?_
   rintro e w6 ⟨rfl, hb6⟩
   have HB7 : Hid (Below W2.heap.size W2 w6) := HB6.out.trans (hb6.mono HB6.out.size)
   have HBW7 : Hid (Below w.heap.size w w6) := HW2.out.trans (HB7.out.mono HW2.out.size)
   clear hb6
   obtain ⟨q0, q1, q2, -, -, -⟩ := HRS.out _ HB7.out
   go_wp2_with fail
   refine (HT2.out _ HBW7.out).mono ?_
   rintro e w8 ⟨rfl, hb8⟩
   have HB8 := h0d hb8
   clear hb8 q0 q1 q2
   go_wp2_with fail
   go_ret
   exact ⟨by rw [← HF.out]; rfl, HBW7.out.trans (HB8.out.mono HBW7.out.size)⟩
 ·by_cases hk : x.den = 1
  ·have hadd1 := HA1.out rfl
   have HX := h0d (HX0.out rfl)
   rw [HX.out] at HZR
   have HF : Hid (S2 = ⟨(ratS x).toArray⟩) := HF1.out hk
   rw [HC1.out hk] at HORD
   clear HF1 HF2 HA0 HA1 HA2 HA3 HX0 HC1 HC2 hk
   go_enter Tryz.func106, Tryz.ntmps106
   go_wp2_with fail
   rw [← HE.out]
   refine (HT1.out _ HW2.out).mono ?_
   rintro e w3 ⟨rfl, hb3⟩
   have HBW3 : Hid (Below w.heap.size w w3) := HW2.out.trans (hb3.mono HW2.out.size)
   have HB3 : Hid (Below W2.heap.size W2 w3) := hb3
   obtain ⟨q0, q1, q2, -, -, -⟩ := HRS.out _ hb3
   clear hb3
   go_wp2_with fail
   refine (HZR.out _ HBW3.out).mono ?_
   rintro e w4 ⟨rfl, hb4⟩
   have HB4 : Hid (Below W2.heap.size W2 w4) := HB3.out.trans (hb4.mono HB3.out.size)
   have HBW4 : Hid (Below w.heap.size w w4) := HW2.out.trans (HB4.out.mono HW2.out.size)
   clear hb4 q0 q1 q2
   obtain ⟨q0, q1, q2, -, -, -⟩ := HRS.out _ HB4.out
   go_wp2_with fail
   refine (HUN.out _ HBW4.out).mono ?_
   rintro e w5 ⟨⟨v5, rfl, hr5⟩, hb5⟩
   have HR5 := h0d hr5
   have HB5 : Hid (Below W2.heap.size W2 w5) := HB4.out.trans (hb5.mono HB4.out.size)
   have HB6 : Hid (Below W2.heap.size W2 (w5.alloc (.cells #[.int .u32 1] 271))) := HB5.out.alloc HB5.out.size _
   have HR56 := h0d (HR5.out.below ((Below.refl _ w5).alloc (Nat.le_refl _) (.cells #[.int .u32 1] 271)))
   have HONE := h0d (RdM.one_new w5)
   clear hb5 hr5 q0 q1 q2
   go_wp2_with fail
   refine (HORD.out _ _ _ HR56.out HONE.out).mono ?_
   rintro e w6 ⟨rfl, hb6⟩
   have HB7 : Hid (Below W2.heap.size W2 w6) := HB6.out.trans (hb6.mono HB6.out.size)
   have HBW7 : Hid (Below w.heap.size w w6) := HW2.out.trans (HB7.out.mono HW2.out.size)
   clear hb6
   obtain ⟨q0, q1, q2, -, -, -⟩ := HRS.out _ HB7.out
   go_wp2_with fail
   go_ret
   exact ⟨by rw [← HF.out]; rfl, HBW7.out⟩
  ·have hadd1 := HA1.out rfl
   have HX := h0d (HX0.out rfl)
   rw [HX.out] at HZR
   have HF : Hid (S5 = ⟨(ratS x).toArray⟩) := HF2.out hk
   rw [HC2.out hk] at HORD
   have hadd2 := HA2.out
   have hadd3 := HA3.out
   clear HF1 HF2 HA0 HA1 HA2 HA3 HX0 HC1 HC2 hk
   go_enter Tryz.func106, Tryz.ntmps106
   go_wp2_with fail
   rw [← HE.out]
   refine (HT1.out _ HW2.out).mono ?_
   rintro e w3 ⟨rfl, hb3⟩
   have HBW3 : Hid (Below w.heap.size w w3) := HW2.out.trans (hb3.mono HW2.out.size)
   have HB3 : Hid (Below W2.heap.size W2 w3) := hb3
   obtain ⟨q0, q1, q2, -, -, -⟩ := HRS.out _ hb3
   clear hb3
   go_wp2_with fail
   refine (HZR.out _ HBW3.out).mono ?_
   rintro e w4 ⟨rfl, hb4⟩
   have HB4 : Hid (Below W2.heap.size W2 w4) := HB3.out.trans (hb4.mono HB3.out.size)
   have HBW4 : Hid (Below w.heap.size w w4) := HW2.out.trans (HB4.out.mono HW2.out.size)
   clear hb4 q0 q1 q2
   obtain ⟨q0, q1, q2, -, -, -⟩ := HRS.out _ HB4.out
   go_wp2_with fail
   refine (HUN.out _ HBW4.out).mono ?_
   rintro e w5 ⟨⟨v5, rfl, hr5⟩, hb5⟩
   have HR5 := h0d hr5
   have HB5 : Hid (Below W2.heap.size W2 w5) := HB4.out.trans (hb5.mono HB4.out.size)
   have HB6 : Hid (Below W2.heap.size W2 (w5.alloc (.cells #[.int .u32 1] 271))) := HB5.out.alloc HB5.out.size _
   have HR56 := h0d (HR5.out.below ((Below.refl _ w5).alloc (Nat.le_refl _) (.cells #[.int .u32 1] 271)))
   have HONE := h0d (RdM.one_new w5)
   clear hb5 hr5 q0 q1 q2
   go_wp2_with fail
   refine (HORD.out _ _ _ HR56.out HONE.out).mono ?_
   rintro e w6 ⟨rfl, hb6⟩
   have HB7 : Hid (Below W2.heap.size W2 w6) := HB6.out.trans (hb6.mono HB6.out.size)
   have HBW7 : Hid (Below w.heap.size w w6) := HW2.out.trans (HB7.out.mono HW2.out.size)
   clear hb6
   obtain ⟨q0, q1, q2, -, -, -⟩ := HRS.out _ HB7.out
   go_wp2_with fail
   refine (HT2.out _ HBW7.out).mono ?_
   rintro e w8 ⟨rfl, hb8⟩
   have HB8 := h0d hb8
   clear hb8 q0 q1 q2
   go_wp2_with fail
   go_ret
   exact ⟨by rw [← HF.out]; rfl, HBW7.out.trans (HB8.out.mono HBW7.out.size)⟩
set_option maxRecDepth 100000 in
set_option maxHeartbeats 4000000 in
theorem is_any (v u : Value) (x : Rat) (w : World) (hv : RdQ w v x) (hu : RdF w u x) (h6 : QS 900000 x) :
  Calls Tryz.prog 23 #[v, u] w fun e w' => e = .returned (.bool true) ∧ Below w.heap.size w w' := by
 have h7 : QM 1800000 x := ⟨Nat.le_trans (dm_dl _) (by have := h6.1; omega), Nat.le_trans (dm_dl _) (by have := h6.2; omega)⟩
 have HT1 := h0d (fun w' (hb' : Below w.heap.size w w') => rtext_any v x w' (hv.below hb') h6)
 have HT2 := h0d (fun w' (hb' : Below w.heap.size w w') => rrtext_any u x w' (hu.below hb') h7)
 obtain ⟨Aa, ka, ca, Ab, kb, cb, rfl, ha, hb⟩ := hv.parts
 obtain ⟨Ac, kc, cc, Ad, kd, cd, rfl, hc, hd⟩ := hu.parts
 obtain ⟨ng, hng⟩ : ∃ b, b = decide (x.num < 0) := ⟨_, rfl⟩
 rw [← hng] at HT1 HT2 ⊢
 unfold strV at HT1 HT2
 obtain ⟨S, hS⟩ : ∃ S : ByteArray, S = ⟨(ratS x).toArray⟩ := ⟨_, rfl⟩
 rw [← hS] at HT1 HT2
 clear hng hS ha hb hc hd hv hu h6 h7
 obtain ⟨W2, hW2⟩ : ∃ W2, W2 = ((w.alloc (Obj.cells #[Value.bool ng, Value.slice Aa ka ca, Value.slice Ab kb cb] 32)).alloc (Obj.cells #[Value.bool ng, Value.slice Ac kc cc, Value.slice Ad kd cd] 40)) := ⟨_, rfl⟩
 have hb2w : Below w.heap.size w W2 := by rw [hW2]; exact ((Below.refl _ w).alloc (by simp <;> omega) _).alloc (by simp <;> omega) _
 have hsz2 : w.heap.size + 2 ≤ W2.heap.size := by rw [hW2]; simp
 have HARG0 : Hid (∀ w', Below W2.heap.size W2 w' → _) := fun w' h => resL (cs := #[Value.bool ng, Value.slice Aa ka ca, Value.slice Ab kb cb]) (b := w.heap.size) (t := 32) (by rw [hW2, Below.heap_alloc _ _ _ (by simp <;> omega)]; have hx := heap_alloc_new w (.cells #[Value.bool ng, Value.slice Aa ka ca, Value.slice Ab kb cb] 32); simpa using hx) h
 have HARG1 : Hid (∀ w', Below W2.heap.size W2 w' → _) := fun w' h => resL (cs := #[Value.bool ng, Value.slice Ac kc cc, Value.slice Ad kd cd]) (b := w.heap.size + 1) (t := 40) (by rw [hW2]; have hx := heap_alloc_new (w.alloc (Obj.cells #[Value.bool ng, Value.slice Aa ka ca, Value.slice Ab kb cb] 32)) (.cells #[Value.bool ng, Value.slice Ac kc cc, Value.slice Ad kd cd] 40); simpa using hx) h
 have HB2W := h0d hb2w
 have HSZ2 := h0d hsz2
 have HW2 := h0d hW2
 have HBs : Hid (Below W2.heap.size W2 W2) := Below.refl _ _
 clear hW2 hb2w hsz2
 go_enter Tryz.func23, Tryz.ntmps23
 go_wp2_with fail
 rw [← HW2.out]
 have HBD1 : Hid (Below W2.heap.size W2 W2.drew) := HBs.out.drew
 have dd0 := HARG0.out _ HBD1.out
 have dd1 := HARG1.out _ HBD1.out
 refine seq_start (S := fun w' => w'.cell? ⟨w.heap.size, 0, none⟩ = some (Value.bool ng) ∧ w'.cell? ⟨w.heap.size, 1, none⟩ = some (Value.slice Aa ka ca) ∧ w'.cell? ⟨w.heap.size, 2, none⟩ = some (Value.slice Ab kb cb) ∧ w'.cell? ⟨w.heap.size + 1, 0, none⟩ = some (Value.bool ng) ∧ w'.cell? ⟨w.heap.size + 1, 1, none⟩ = some (Value.slice Ac kc cc) ∧ w'.cell? ⟨w.heap.size + 1, 2, none⟩ = some (Value.slice Ad kd cd)) (by kernel_rfl) (by kernel_rfl) (by exact ⟨(dd0 0).1, (dd0 1).1, (dd0 2).1, (dd1 0).1, (dd1 1).1, (dd1 2).1⟩) ?_
 clear dd0 dd1
 repeat (first | refine tk0 (h := ?_) | refine tkG (h := ?_) | refine skG (h := ?_))
 refine seq_pull 1 ?_
 simp only [places, pull]
 (first
  | refine tk0 (h := ?_)
  | refine tkG (h := ?_)
  | refine skG (h := ?_))
 refine seq_op (by kernel_rfl) (by rfl) (fun K hK => ?_)
 go_simp
 refine (HT1.out _ (HB2W.out.trans (HBD1.out.mono HB2W.out.size))).mono ?_
 rintro e w3 ⟨rfl, hbx⟩
 have HB_w3 : Hid (Below W2.heap.size W2 w3) := HBD1.out.trans (hbx.mono HBD1.out.size)
 have dd0 := HARG0.out _ HB_w3.out
 have dd1 := HARG1.out _ HB_w3.out
 refine hK.out _ _ (by exact ⟨(dd0 0).1, (dd0 1).1, (dd0 2).1, (dd1 0).1, (dd1 1).1, (dd1 2).1⟩) ?_
 clear hK K dd0 dd1 hbx
 repeat (first | refine tk0 (h := ?_) | refine tkG (h := ?_) | refine skG (h := ?_))
 refine seq_op (by kernel_rfl) (by rfl) (fun K hK => ?_)
 go_simp
 refine (HT2.out _ (HB2W.out.trans (HB_w3.out.mono HB2W.out.size))).mono ?_
 rintro e w4 ⟨rfl, hbx⟩
 have HB_w4 : Hid (Below W2.heap.size W2 w4) := HB_w3.out.trans (hbx.mono HB_w3.out.size)
 have dd0 := HARG0.out _ HB_w4.out
 have dd1 := HARG1.out _ HB_w4.out
 refine hK.out _ _ (by exact ⟨(dd0 0).1, (dd0 1).1, (dd0 2).1, (dd1 0).1, (dd1 1).1, (dd1 2).1⟩) ?_
 clear hK K dd0 dd1 hbx
 repeat (first | refine tk0 (h := ?_) | refine tkG (h := ?_) | refine skG (h := ?_))
 refine seq_done (by kernel_rfl) ?_
 go_wp2_with fail
 go_ret
 exact ⟨by first | rfl | simp, HB2W.out.trans (HB_w4.out.mono HB2W.out.size)⟩
end Go.Proofs.YtodckaioeomccaaGreat
