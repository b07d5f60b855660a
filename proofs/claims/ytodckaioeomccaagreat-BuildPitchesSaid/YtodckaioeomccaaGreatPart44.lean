/- The walk of a Surd's text. -/
import Derived.Test.YtodckaioeomccaaGreatPart34
import Derived.Test.YtodckaioeomccaaGreatPart39
import Derived.Test.YtodckaioeomccaaGreatPart26
namespace Go.Proofs.YtodckaioeomccaaGreat
open Go.RowKit Go.Proofs.S4P
set_option linter.unusedVariables false
set_option linter.unusedSimpArgs false
def markL : Nat → List UInt8
 | 0 => []
 | 1 => [114, 50]
 | 2 => [114, 51]
 | _ => [114, 54]
set_option maxRecDepth 100000 in
theorem marks_any (w : World) : Calls Tryz.prog 176 #[] w fun e w' => e = .returned (.agg #[.string ⟨#[]⟩, .string ⟨#[114, 50]⟩, .string ⟨#[114, 51]⟩, .string ⟨#[114, 54]⟩]) ∧ Below w.heap.size w w' := by
 go_enter Tryz.func176, Tryz.ntmps176
 go_wp2_with fail
 exact bodyPost_ret (v := (.agg #[.string ⟨#[]⟩, .string ⟨#[114, 50]⟩, .string ⟨#[114, 51]⟩, .string ⟨#[114, 54]⟩])) (by simp [results, Tryz.results176, go_sem]) rfl ⟨rfl, (Below.refl _ w).alloc (Nat.le_refl _) _⟩
def partN (x : S4) : Nat → Rat
 | 0 => x.a
 | 1 => x.b
 | 2 => x.c
 | _ => x.e
def txtN (x : S4) : Nat → List UInt8
 | 0 => []
 | k + 1 => if partN x k = 0 then txtN x k else txtN x k ++ ((if txtN x k ≠ [] ∧ 0 < partN x k then [43] else []) ++ (ratS (partN x k) ++ markL k))
def surS (x : S4) : List UInt8 := if txtN x 4 = [] then [48] else txtN x 4
theorem str_some (l : List UInt8) (h : l ≠ []) : (⟨l.toArray⟩ : ByteArray).toList.isEmpty = false := by
 cases l with
 | nil => exact absurd rfl h
 | cons a l => simp
theorem ratS_len {x : Rat} {K : Nat} (h : QS K x) (hK : K ≤ 100000) : (ratS x).length ≤ 5000000 := by
 have h1 := decS_len x.num.natAbs (show dl _ ≤ 900000 by have := h.1; omega)
 have h2 := decS_len x.den (show dl _ ≤ 900000 by have := h.2; omega)
 have d1 := dec_len_dl x.num.natAbs
 have d2 := dec_len_dl x.den
 have e : ∀ n, (decS n).length ≤ (dec n).length + 1 := fun n => by unfold decS; split <;> simp
 have e1 := e x.num.natAbs
 have e2 := e x.den
 have := h.1; have := h.2
 unfold ratS
 rw [List.length_append, List.length_append]
 have l1 : (if x.num < 0 then [45] else [] : List UInt8).length ≤ 1 := by split <;> simp
 have l2 : (if x.den = 1 then [] else 47 :: decS x.den : List UInt8).length ≤ (decS x.den).length + 1 := by split <;> simp
 omega
theorem txt_len {x : S4} {K : Nat} (hK : K ≤ 100000) (h : ∀ k, QS K (partN x k)) : ∀ k, (txtN x k).length ≤ 5000010 * k
 | 0 => by simp [txtN]
 | k + 1 => by
  have h1 := txt_len hK h k
  have h2 := ratS_len (h k) hK
  have h3 : (markL k).length ≤ 2 := by unfold markL; split <;> simp
  unfold txtN
  split
  ·omega
  ·rw [List.length_append, List.length_append, List.length_append]
   have : (if txtN x k ≠ [] ∧ 0 < partN x k then [43] else [] : List UInt8).length ≤ 1 := by split <;> simp
   omega
theorem txt_skip {x : S4} {k : Nat} (h : partN x k = 0) : txtN x (k + 1) = txtN x k := by show (if _ then _ else _) = _; rw [if_pos h]
theorem txt_first {x : S4} {k : Nat} (h : partN x k ≠ 0) (ht : txtN x k = []) : txtN x (k + 1) = txtN x k ++ (ratS (partN x k) ++ markL k) := by
 show (if _ then _ else _) = _; rw [if_neg h, if_neg (fun e => e.1 ht)]; rfl
theorem txt_pos {x : S4} {k : Nat} (h : 0 < partN x k) (ht : txtN x k ≠ []) : txtN x (k + 1) = (txtN x k ++ [43]) ++ (ratS (partN x k) ++ markL k) := by
 show (if _ then _ else _) = _; rw [if_neg (by grind), if_pos ⟨ht, h⟩, List.append_assoc]
theorem txt_neg {x : S4} {k : Nat} (h : partN x k < 0) : txtN x (k + 1) = txtN x k ++ (ratS (partN x k) ++ markL k) := by
 show (if _ then _ else _) = _; rw [if_neg (by grind), if_neg (fun e => by grind)]; rfl
theorem tri_rat (x : Rat) (h : x ≠ 0) : 0 < x ∨ x < 0 := by
 rcases Rat.le_total (a := 0) (b := x) with h1 | h1
 ·exact .inl (by grind)
 ·exact .inr (by grind)
theorem part_sizes {w : World} {v : Value} {x : S4} {K : Nat} (h : RdS w v x K) : ∀ k, QS K (partN x k) := fun k => by
 obtain ⟨n0, n1, n2, n3, d, -, hd, ⟨a, b, c, e⟩, ⟨p, q, r, s⟩, t⟩ := h
 have key : ∀ (y : Rat) (n : Int), y * d = n → dl n.natAbs ≤ K → QS K y := fun y n h1 h2 => by
  have e := mk_part hd h1
  have h3 := mk_sizes (z := n) hd
  rw [e] at h3
  exact ⟨Nat.le_trans (dl_mono h3.1) h2, Nat.le_trans (dl_mono h3.2) t⟩
 match k with
 | 0 => exact key _ _ a p
 | 1 => exact key _ _ b q
 | 2 => exact key _ _ c r
 | _ + 3 => exact key _ _ e s
set_option maxRecDepth 100000 in
theorem RdR.at {w : World} {v : Value} {x : S4} (h : RdR w v x.a x.b x.c x.e) : ∃ cs : List Value, v = .agg cs.toArray ∧ ∀ k, k < 4 → ∃ g A n c B m d, RdQ w (.agg #[.bool g, .slice A n c, .slice B m d]) (partN x k) ∧
  ∀ w', (Instr.index 255 (.agg cs.toArray) (.int .i64 (k : Int))).run Tryz.prog w' = .ok (.agg #[.bool g, .slice A n c, .slice B m d]) w' := by
 obtain ⟨g0, A0, k0, c0, B0, l0, d0, g1, A1, k1, c1, B1, l1, d1, g2, A2, k2, c2, B2, l2, d2, g3, A3, k3, c3, B3, l3, d3, rfl, h⟩ := h.open
 refine ⟨_, rfl, fun k hk => ?_⟩
 match k, hk with
 | 0, _ => exact ⟨_, _, _, _, _, _, _, h.q0, fun _ => by kernel_rfl⟩
 | 1, _ => exact ⟨_, _, _, _, _, _, _, h.q1, fun _ => by kernel_rfl⟩
 | 2, _ => exact ⟨_, _, _, _, _, _, _, h.q2, fun _ => by kernel_rfl⟩
 | 3, _ => exact ⟨_, _, _, _, _, _, _, h.q3, fun _ => by kernel_rfl⟩
set_option maxRecDepth 100000 in
theorem marks_ix {k : Nat} (hk : k < 4) : ∀ w', (Instr.index 257 (.agg #[.string ⟨#[]⟩, .string ⟨#[114, 50]⟩, .string ⟨#[114, 51]⟩, .string ⟨#[114, 54]⟩]) (.int .i64 (k : Int))).run Tryz.prog w' = .ok (.string ⟨(markL k).toArray⟩) w' := by
 match k, hk with
 | 0, _ => exact fun _ => by kernel_rfl
 | 1, _ => exact fun _ => by kernel_rfl
 | 2, _ => exact fun _ => by kernel_rfl
 | 3, _ => exact fun _ => by kernel_rfl
set_option maxRecDepth 100000 in
set_option maxHeartbeats 8000000 in
theorem stext_any (v : Value) (x : S4) (Ks : Nat) (w : World) (hv : RdS w v x Ks) (hK : Ks ≤ 100000) : Calls Tryz.prog 89 #[v] w fun e w' => e = .returned (strV (surS x)) ∧ Below w.heap.size w w' := by
 have HQS : Hid (∀ k, QS Ks (partN x k)) := part_sizes hv
 obtain ⟨gpa, Apa, kpa, cpa, gpb, Apb, kpb, cpb, gpc, Apc, kpc, cpc, gpd, Apd, kpd, cpd, Ape, kpe, cpe, rfl, hv⟩ := hv.open
 obtain ⟨W1, HW1, HB1, HS1, j1⟩ := st_al0 w #[.bool gpa, .slice Apa kpa cpa, .bool gpb, .slice Apb kpb cpb, .bool gpc, .slice Apc kpc cpc, .bool gpd, .slice Apd kpd cpd, .slice Ape kpe cpe] 30
 have HX0 := h0d (hv.wd (Wd.of_below j1))
 have HJ := h0d j1
 have HLN := h0d (txt_len hK HQS.out)
 have HRL := h0d (fun k => ratS_len (HQS.out k) hK)
 have HRT : Hid (∀ k W {u : Value}, RdQ W u (partN x k) → Calls Tryz.prog 90 #[u] W fun e w'' => e = .returned (.string ⟨(ratS (partN x k)).toArray⟩) ∧ Below W.heap.size W w'') := fun k W u hu =>
  rtext_any u (partN x k) W hu (QS.up (HQS.out k) (by omega))
 clear hv j1 HB1 HS1
 go_enter Tryz.func89, Tryz.ntmps89
 go_wp2_with fail
 rw [← HW1.out]
 refine (parts_any _ x Ks _ HX0.out (by omega)).mono ?_
 rintro e w2 ⟨⟨vx, rfl, hr⟩, j⟩
 obtain ⟨cs, rfl, hat⟩ := hr.at
 have HA := h0d hat
 replace HJ := kU HJ j
 clear hr j hat HX0 HW1 hK HQS
 go_wp2_with fail
 go_loopw [3, 4, 5, 8] (fun sv _ _ iv wr => ∃ (k : Nat) (S : ByteArray), k ≤ 4 ∧ iv = .int .i64 (k : Int) ∧ sv = .string S ∧ Hid (S = ⟨(txtN x k).toArray⟩) ∧ Hid (Below w2.heap.size w2 wr)) (fun _ _ _ iv _ => 4 - (intOf iv).toNat)
 case atStart => exact ⟨0, ⟨#[]⟩, by omega, rfl, rfl, rfl, Below.refl _ _⟩
 case round =>
  obtain ⟨k, S, hk, rfl, rfl, HS, HK⟩ := hrel
  by_cases hlt : k < 4
  ·obtain ⟨g, A, n, c, B, m, d, hr, ix⟩ := HA.out k hlt
   have HRX := h0d (fun W (hb : Below w2.heap.size w2 W) => RdQ.below hr hb)
   obtain ⟨M, hM⟩ : ∃ M : ByteArray, M = ⟨(markL k).toArray⟩ := ⟨_, rfl⟩
   have mx := marks_ix hlt
   rw [← hM] at mx
   obtain ⟨W3, HW3, HB3, HS3, j3⟩ := st_al0 wr #[.bool g, .slice A n c, .slice B m d] 32
   have HK3 := kU HK j3
   clear hr HS3 j3 HK
   by_cases hq : partN x k = 0
   ·have HS1 : Hid (S = ⟨(txtN x (k + 1)).toArray⟩) := by show _ = _; rw [txt_skip hq]; exact HS.out
    have HZ := h0d hq
    clear hq hM mx
    go_wp2_with fail
    rw [← HW3.out]
    refine mV (zero_yes _ (partN x k) _ (HRX.out _ HK3.out) HZ.out) fun w4 j4 => ?_
    replace HK3 := kU HK3 j4
    clear HZ HB3 HW3 j4 ix
    go_wp2_with fail
    go_roundw
    case rel => exact ⟨k + 1, _, by omega, by go_num, rfl, HS1, HK3.out⟩
    case measure => simp [intOf]; omega
   ·have HNZ := h0d hq
    obtain ⟨R, hR⟩ : ∃ R : ByteArray, R = ⟨(ratS (partN x k)).toArray⟩ := ⟨_, rfl⟩
    have HRT1 : Hid (∀ W {u : Value}, RdQ W u (partN x k) → Calls Tryz.prog 90 #[u] W fun e w'' => e = .returned (.string R) ∧ Below W.heap.size W w'') := fun W u hu => by rw [hR]; exact HRT.out k W hu
    have hl := HLN.out k
    have hl2 := HRL.out k
    have hm : (markL k).length ≤ 2 := by unfold markL; split <;> simp
    obtain ⟨RM, hRM⟩ : ∃ R : ByteArray, R = ⟨(ratS (partN x k) ++ markL k).toArray⟩ := ⟨_, rfl⟩
    have ha1 : ∀ w', (Op.stringOp .add R M).run Tryz.prog w' = .ok (.string RM) w' := fun w' => by rw [hR, hM]; exact add_str _ _ (by omega) (by omega) RM hRM w'
    by_cases htn : txtN x k = []
    ·have hSe : S = ⟨#[]⟩ := by rw [HS.out, htn]
     subst hSe
     obtain ⟨S2, hS2⟩ : ∃ S : ByteArray, S = ⟨(txtN x k ++ (ratS (partN x k) ++ markL k)).toArray⟩ := ⟨_, rfl⟩
     have ha2 : ∀ w', (Op.stringOp .add ⟨#[]⟩ RM).run Tryz.prog w' = .ok (.string S2) w' := fun w' => by rw [show (⟨#[]⟩ : ByteArray) = ⟨(txtN x k).toArray⟩ by rw [htn], hRM]; exact add_str _ _ (by first | omega | (simp; omega)) (by simp only [List.length_append]; omega) S2 hS2 w'
     have HS2 : Hid (S2 = ⟨(txtN x (k + 1)).toArray⟩) := by show _ = _; rw [hS2, txt_first hq htn]
     clear hq hM hR hRM hl hl2 hm htn hS2
     go_wp2_with fail
     rw [← HW3.out]
     refine mV (zero_no _ (partN x k) _ (HRX.out _ HK3.out) HNZ.out) fun w4 j4 => ?_
     replace HB3 := kB HB3 j4
     replace HK3 := kU HK3 j4
     have c4 := kC HB3 0 rfl
     have c5 := kC HB3 1 rfl
     have c6 := kC HB3 2 rfl
     clear HW3 HNZ j4 ix
     go_wp2_with fail
     clear c4 c5 c6
     refine mV (HRT1.out _ (HRX.out _ HK3.out)) fun w6 j6 => ?_
     replace HK3 := kU HK3 j6
     clear j6
     go_wp2_with fail
     refine mV (marks_any _) fun w7 j7 => ?_
     replace HK3 := kU HK3 j7
     clear j7
     go_wp2_with fail
     go_roundw
     case rel => exact ⟨k + 1, _, by omega, by go_num, rfl, HS2, HK3.out⟩
     case measure => simp [intOf]; omega
    ·have hne := str_some (txtN x k) htn
     rw [← HS.out] at hne
     rcases tri_rat (partN x k) hq with hpos | hneg
     ·have HSG : Hid (Int.sign (partN x k).num = 1) := (num_sign _).1.2 hpos
      obtain ⟨SP, hSP⟩ : ∃ S2 : ByteArray, S2 = ⟨(txtN x k ++ [43]).toArray⟩ := ⟨_, rfl⟩
      have ha0 : ∀ w', (Op.stringOp .add S ⟨#[43]⟩).run Tryz.prog w' = .ok (.string SP) w' := fun w' => by rw [HS.out]; exact add_str _ [43] (by omega) (by decide) SP hSP w'
      obtain ⟨S2, hS2⟩ : ∃ S : ByteArray, S = ⟨((txtN x k ++ [43]) ++ (ratS (partN x k) ++ markL k)).toArray⟩ := ⟨_, rfl⟩
      have ha2 : ∀ w', (Op.stringOp .add SP RM).run Tryz.prog w' = .ok (.string S2) w' := fun w' => by rw [hSP, hRM]; exact add_str _ _ (by first | omega | (simp; omega)) (by simp only [List.length_append]; omega) S2 hS2 w'
      have HS2 : Hid (S2 = ⟨(txtN x (k + 1)).toArray⟩) := by show _ = _; rw [hS2, txt_pos hpos htn]
      clear hq hM hR hRM hl hl2 hm htn hS2 hSP hpos
      go_wp2_with fail
      rw [← HW3.out]
      refine mV (zero_no _ (partN x k) _ (HRX.out _ HK3.out) HNZ.out) fun w4 j4 => ?_
      replace HB3 := kB HB3 j4
      replace HK3 := kU HK3 j4
      have c4 := kC HB3 0 rfl
      have c5 := kC HB3 1 rfl
      have c6 := kC HB3 2 rfl
      clear HW3 HNZ j4 ix
      go_wp2_with fail
      clear c4 c5 c6
      refine mV (sign_is _ (partN x k) 1 _ (HRX.out _ HK3.out) HSG.out) fun w5 j5 => ?_
      replace HB3 := kB HB3 j5
      replace HK3 := kU HK3 j5
      have c4 := kC HB3 0 rfl
      have c5 := kC HB3 1 rfl
      have c6 := kC HB3 2 rfl
      clear HSG j5
      go_wp2_with fail
      clear c4 c5 c6
      refine mV (HRT1.out _ (HRX.out _ HK3.out)) fun w6 j6 => ?_
      replace HK3 := kU HK3 j6
      clear j6
      go_wp2_with fail
      refine mV (marks_any _) fun w7 j7 => ?_
      replace HK3 := kU HK3 j7
      clear j7
      go_wp2_with fail
      go_roundw
      case rel => exact ⟨k + 1, _, by omega, by go_num, rfl, HS2, HK3.out⟩
      case measure => simp [intOf]; omega
     ·have HSG : Hid (Int.sign (partN x k).num = -1) := (num_sign _).2.2.2 hneg
      obtain ⟨S2, hS2⟩ : ∃ S : ByteArray, S = ⟨(txtN x k ++ (ratS (partN x k) ++ markL k)).toArray⟩ := ⟨_, rfl⟩
      have ha2 : ∀ w', (Op.stringOp .add S RM).run Tryz.prog w' = .ok (.string S2) w' := fun w' => by rw [HS.out, hRM]; exact add_str _ _ (by first | omega | (simp; omega)) (by simp only [List.length_append]; omega) S2 hS2 w'
      have HS2 : Hid (S2 = ⟨(txtN x (k + 1)).toArray⟩) := by show _ = _; rw [hS2, txt_neg hneg]
      clear hq hM hR hRM hl hl2 hm htn hS2 hneg
      go_wp2_with fail
      rw [← HW3.out]
      refine mV (zero_no _ (partN x k) _ (HRX.out _ HK3.out) HNZ.out) fun w4 j4 => ?_
      replace HB3 := kB HB3 j4
      replace HK3 := kU HK3 j4
      have c4 := kC HB3 0 rfl
      have c5 := kC HB3 1 rfl
      have c6 := kC HB3 2 rfl
      clear HW3 HNZ j4 ix
      go_wp2_with fail
      clear c4 c5 c6
      refine mV (sign_is _ (partN x k) (-1) _ (HRX.out _ HK3.out) HSG.out) fun w5 j5 => ?_
      replace HB3 := kB HB3 j5
      replace HK3 := kU HK3 j5
      have c4 := kC HB3 0 rfl
      have c5 := kC HB3 1 rfl
      have c6 := kC HB3 2 rfl
      clear HSG j5
      go_wp2_with fail
      clear c4 c5 c6
      refine mV (HRT1.out _ (HRX.out _ HK3.out)) fun w6 j6 => ?_
      replace HK3 := kU HK3 j6
      clear j6
      go_wp2_with fail
      refine mV (marks_any _) fun w7 j7 => ?_
      replace HK3 := kU HK3 j7
      clear j7
      go_wp2_with fail
      go_roundw
      case rel => exact ⟨k + 1, _, by omega, by go_num, rfl, HS2, HK3.out⟩
      case measure => simp [intOf]; omega
  ·obtain rfl : k = 4 := by omega
   by_cases ht : txtN x 4 = []
   ·have hSe : S = ⟨#[]⟩ := by rw [HS.out, ht]
    subst hSe
    have HE : Hid (strV (surS x) = .string ⟨#[48]⟩) := by show _ = _; unfold surS; rw [if_pos ht]; rfl
    clear ht
    go_wp2_with fail
    go_ret
    exact ⟨by rw [HE.out]; rfl, HJ.out.trans (HK.out.mono HJ.out.size)⟩
   ·have hne := str_some (txtN x 4) ht
    have HE : Hid (strV (surS x) = .string S) := by show _ = _; unfold surS; rw [if_neg ht, HS.out]; rfl
    rw [← HS.out] at hne
    clear ht
    go_wp2_with fail
    go_ret
    exact ⟨by rw [HE.out]; rfl, HJ.out.trans (HK.out.mono HJ.out.size)⟩
end Go.Proofs.YtodckaioeomccaaGreat
