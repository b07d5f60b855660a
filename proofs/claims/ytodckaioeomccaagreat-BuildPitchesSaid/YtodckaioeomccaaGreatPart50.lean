/- Walks of the reference's text of a number with roots, and of the law's comparisons IsSurd and IsWave; the imaginary part. Impulses where it returns an error; Zero of the zero; the imaginary part; the law's comparisons IsSurd and IsWave. -/
import Derived.Test.YtodckaioeomccaaGreatPart47
import Derived.Test.YtodckaioeomccaaGreatPart44
import Derived.Test.YtodckaioeomccaaGreatPart40
import Derived.Test.YtodckaioeomccaaGreatPart36
namespace Go.Proofs.YtodckaioeomccaaGreat
open Go.RowKit Go.Proofs.S4P
set_option linter.unusedVariables false
set_option linter.unusedSimpArgs false
set_option maxRecDepth 100000
set_option maxHeartbeats 4000000
theorem RdG.at {w : World} {v : Value} {x : S4} (h : RdG w v x) : ∃ cs : List Value, v = .agg cs.toArray ∧ cs.length = 12 ∧
  ∀ k, k < 4 → ∃ g A n c B m d, cs[k * 3]? = some (.bool g) ∧ cs[k * 3 + 1]? = some (.slice A n c) ∧ cs[k * 3 + 2]? = some (.slice B m d) ∧ RdF w (.agg #[.bool g, .slice A n c, .slice B m d]) (partN x k) := by
 obtain ⟨g0, A0, k0, c0, B0, l0, d0, g1, A1, k1, c1, B1, l1, d1, g2, A2, k2, c2, B2, l2, d2, g3, A3, k3, c3, B3, l3, d3, rfl, h⟩ := h.open
 refine ⟨_, rfl, rfl, fun k hk => ?_⟩
 match k, hk with
 | 0, _ => exact ⟨g0, A0, k0, c0, B0, l0, d0, rfl, rfl, rfl, h.q0⟩
 | 1, _ => exact ⟨g1, A1, k1, c1, B1, l1, d1, rfl, rfl, rfl, h.q1⟩
 | 2, _ => exact ⟨g2, A2, k2, c2, B2, l2, d2, rfl, rfl, rfl, h.q2⟩
 | 3, _ => exact ⟨g3, A3, k3, c3, B3, l3, d3, rfl, rfl, rfl, h.q3⟩
theorem marks_at {k : Nat} (hk : k < 4) : ([.string ⟨#[]⟩, .string ⟨#[114, 50]⟩, .string ⟨#[114, 51]⟩, .string ⟨#[114, 54]⟩] : List Value)[k]? = some (.string ⟨(markL k).toArray⟩) := by
 match k, hk with
 | 0, _ => rfl
 | 1, _ => rfl
 | 2, _ => rfl
 | 3, _ => rfl
theorem rstext_any (v : Value) (x : S4) (Ks : Nat) (w : World) (hv : RdG w v x) (hq : ∀ k, QS Ks (partN x k)) (hK : Ks ≤ 100000) :
  Calls Tryz.prog 105 #[v] w fun e w' => e = .returned (strV (surS x)) ∧ Below w.heap.size w w' := by
 have HLN := h0d (txt_len hK hq)
 have HRL := h0d (fun k => ratS_len (hq k) hK)
 have HRT : Hid (∀ k w' {u : Value}, RdF w' u (partN x k) → Calls Tryz.prog 106 #[u] w' fun e w'' => e = .returned (.string ⟨(ratS (partN x k)).toArray⟩) ∧ Below w'.heap.size w' w'') := fun k w' u hu =>
  rrtext_any u (partN x k) w' hu ⟨Nat.le_trans (dm_dl _) (by have := (hq k).1; omega), Nat.le_trans (dm_dl _) (by have := (hq k).2; omega)⟩
 obtain ⟨cs, rfl, hl, hat⟩ := hv.at
 obtain ⟨W1, hW1, HB1, HS1, j1⟩ := st_al0 w cs.toArray 42
 obtain ⟨W2, hW2, HB2, HS2, j2⟩ := st_alk 1 2 #[.string ⟨#[]⟩, .string ⟨#[114, 50]⟩, .string ⟨#[114, 51]⟩, .string ⟨#[114, 54]⟩] 9 HS1 rfl
 have HA := h0d hat
 have HJ := h0d (tt j1 j2)
 have HB := kB HB1 j2
 clear hq hK hat hv j1 j2 hl HS2 HS1 HB1
 go_enter Tryz.func105, Tryz.ntmps105
 go_wp2_with fail
 rw [← hW1.out, ← hW2.out]
 clear hW1 hW2
 go_loopw [3, 5] (fun sv iv wr => ∃ (k : Nat) (S : ByteArray), k ≤ 4 ∧ sv = .string S ∧ iv = .int .i64 (k : Int) ∧ Hid (S = ⟨(txtN x k).toArray⟩) ∧ Hid (Below W2.heap.size W2 wr)) (fun _ iv _ => 4 - (intOf iv).toNat)
 case atStart => exact ⟨0, _, by omega, rfl, rfl, rfl, Below.refl _ _⟩
 case round =>
  obtain ⟨k, S, hk, rfl, rfl, HS, HK⟩ := hrel
  by_cases hlt : k < 4
  ·obtain ⟨g, A, n, c, B, m, d, p1, p2, p3, hr⟩ := HA.out k hlt
   have HRX := h0d (fun W (hb : Below w.heap.size w W) => RdF.below hr hb)
   obtain ⟨M, hM⟩ : ∃ M : ByteArray, M = ⟨(markL k).toArray⟩ := ⟨_, rfl⟩
   have p4 := marks_at hlt
   rw [← hM] at p4
   have HC : Hid (∀ W, Below W2.heap.size W2 W → W.cell? ⟨w.heap.size, k * 3, none⟩ = some (.bool g) ∧ W.cell? ⟨w.heap.size, k * 3 + 1, none⟩ = some (.slice A n c) ∧ W.cell? ⟨w.heap.size, k * 3 + 2, none⟩ = some (.slice B m d) ∧ W.cell? ⟨w.heap.size + 1, k, none⟩ = some (.string M)) := fun W hW =>
    ⟨kC (kB HB hW) (k * 3) p1, kC (kB HB hW) (k * 3 + 1) p2, kC (kB HB hW) (k * 3 + 2) p3, kC (kB HB2 hW) k p4⟩
   have HBw := kU HJ HK.out
   have HZ := h0d (rzero_any _ (partN x k) wr (HRX.out _ HBw.out))
   obtain ⟨c0, c1, c2, -⟩ := HC.out wr HK.out
   clear p1 p2 p3 p4 hr
   by_cases hq : partN x k = 0
   ·have HS1 : Hid (S = ⟨(txtN x (k + 1)).toArray⟩) := by show _ = _; rw [txt_skip hq]; exact HS.out
    rw [decide_eq_true hq] at HZ
    clear hq hM
    go_wp2_with fail
    refine mV HZ.out fun w1 j1 => ?_
    replace HK := kU HK j1
    clear HZ c0 c1 c2 HBw j1
    go_wp2_with fail
    go_roundw
    case rel => exact ⟨k + 1, _, by omega, rfl, by go_num, HS1, HK.out⟩
    case measure => simp [intOf]; omega
   ·rw [decide_eq_false hq] at HZ
    obtain ⟨R, hR⟩ : ∃ R : ByteArray, R = ⟨(ratS (partN x k)).toArray⟩ := ⟨_, rfl⟩
    have HRT1 : Hid (∀ W {u : Value}, RdF W u (partN x k) → Calls Tryz.prog 106 #[u] W fun e w'' => e = .returned (.string R) ∧ Below W.heap.size W w'') := fun W u hu => by rw [hR]; exact HRT.out k W hu
    have hl := HLN.out k
    have hl2 := HRL.out k
    have hm : (markL k).length ≤ 2 := by unfold markL; split <;> simp
    by_cases htn : txtN x k = []
    ·have hSe : S = ⟨#[]⟩ := by rw [HS.out, htn]
     subst hSe
     obtain ⟨S1, hS1⟩ : ∃ S : ByteArray, S = ⟨(txtN x k ++ ratS (partN x k)).toArray⟩ := ⟨_, rfl⟩
     obtain ⟨S2, hS2⟩ : ∃ S : ByteArray, S = ⟨((txtN x k ++ ratS (partN x k)) ++ markL k).toArray⟩ := ⟨_, rfl⟩
     have ha1 : ∀ w', (Op.stringOp .add ⟨#[]⟩ R).run Tryz.prog w' = .ok (.string S1) w' := fun w' => by rw [hR, show (⟨#[]⟩ : ByteArray) = ⟨(txtN x k).toArray⟩ by rw [htn]]; exact add_str _ _ (by first | omega | (simp; omega)) (by omega) S1 hS1 w'
     have ha2 : ∀ w', (Op.stringOp .add S1 M).run Tryz.prog w' = .ok (.string S2) w' := fun w' => by rw [hS1, hM]; exact add_str _ _ (by simp only [List.length_append, List.length_cons, List.length_nil]; omega) (by omega) S2 hS2 w'
     have HS2 : Hid (S2 = ⟨(txtN x (k + 1)).toArray⟩) := by show _ = _; rw [hS2, txt_first hq htn]; simp only [List.append_assoc]
     clear hq hM hR hl hl2 hm htn hS1 hS2
     go_wp2_with fail
     refine mV HZ.out fun w1 j1 => ?_
     replace HK := kU HK j1
     clear HZ c0 c1 c2 HBw j1
     go_wp2_with fail
     obtain ⟨W7, hW7⟩ : ∃ W, W = w1.drew := ⟨_, rfl⟩
     have HK7 : Hid (Below W2.heap.size W2 W7) := by show Below _ _ _; rw [hW7]; exact HK.out.drew
     have HBw7 : Hid (Below w.heap.size w W7) := kU HJ HK7.out
     refine seq_start (S := fun W => W.cell? ⟨w.heap.size, k * 3, none⟩ = some (.bool g) ∧ W.cell? ⟨w.heap.size, k * 3 + 1, none⟩ = some (.slice A n c) ∧ W.cell? ⟨w.heap.size, k * 3 + 2, none⟩ = some (.slice B m d) ∧ W.cell? ⟨w.heap.size + 1, k, none⟩ = some (.string M)) (by kernel_rfl) (by kernel_rfl) (by rw [← hW7]; exact HC.out _ HK7.out) ?_
     rw [← hW7]
     clear hW7 HK
     iterate 4 refine tk0 (h := ?_)
     iterate 4 (refine plq 2 (h := ?_); refine tk0 (h := ?_))
     refine sop (h := fun K9 hK9 => ?_)
     go_simp
     refine mV (HRT1.out _ (HRX.out _ HBw7.out)) fun w8 j8 => ?_
     replace HK7 := kU HK7 j8
     refine ckk hK9 (by exact HC.out _ HK7.out) (h := ?_)
     clear hK9 K9 HBw7
     iterate 3 refine tk0 (h := ?_)
     refine seq_done (by kernel_rfl) ?_
     go_wp2_with fail
     go_roundw
     case rel => exact ⟨k + 1, _, by omega, rfl, by go_num, HS2, HK7.out⟩
     case measure => simp [intOf]; omega
    ·have hne := str_some (txtN x k) htn
     rw [← HS.out] at hne
     rcases tri_rat (partN x k) hq with hpos | hneg
     ·have HSG : Hid (Int.sign (partN x k).num = 1) := (num_sign _).1.2 hpos
      obtain ⟨SP, hSP⟩ : ∃ S2 : ByteArray, S2 = ⟨(txtN x k ++ [43]).toArray⟩ := ⟨_, rfl⟩
      have ha0 : ∀ w', (Op.stringOp .add S ⟨#[43]⟩).run Tryz.prog w' = .ok (.string SP) w' := fun w' => by rw [HS.out]; exact add_str _ [43] (by omega) (by decide) SP hSP w'
      obtain ⟨S1, hS1⟩ : ∃ S : ByteArray, S = ⟨((txtN x k ++ [43]) ++ ratS (partN x k)).toArray⟩ := ⟨_, rfl⟩
      obtain ⟨S2, hS2⟩ : ∃ S : ByteArray, S = ⟨(((txtN x k ++ [43]) ++ ratS (partN x k)) ++ markL k).toArray⟩ := ⟨_, rfl⟩
      have ha1 : ∀ w', (Op.stringOp .add SP R).run Tryz.prog w' = .ok (.string S1) w' := fun w' => by rw [hR, hSP]; exact add_str _ _ (by first | omega | (simp; omega)) (by omega) S1 hS1 w'
      have ha2 : ∀ w', (Op.stringOp .add S1 M).run Tryz.prog w' = .ok (.string S2) w' := fun w' => by rw [hS1, hM]; exact add_str _ _ (by simp only [List.length_append, List.length_cons, List.length_nil]; omega) (by omega) S2 hS2 w'
      have HS2 : Hid (S2 = ⟨(txtN x (k + 1)).toArray⟩) := by show _ = _; rw [hS2, txt_pos hpos htn]; simp only [List.append_assoc]
      clear hq hM hR hl hl2 hm htn hS1 hS2 hSP hpos
      go_wp2_with fail
      refine mV HZ.out fun w1 j1 => ?_
      replace HK := kU HK j1
      replace HBw := kU HBw j1
      have HSI := h0d (rsign_any _ (partN x k) w1 (HRX.out _ HBw.out))
      rw [HSG.out] at HSI
      clear c0 c1 c2
      obtain ⟨c0, c1, c2, -⟩ := HC.out w1 HK.out
      clear HZ j1
      go_wp2_with fail
      refine mV HSI.out fun w2 j2 => ?_
      replace HK := kU HK j2
      clear HSI HSG c0 c1 c2 HBw j2
      go_wp2_with fail
      obtain ⟨W7, hW7⟩ : ∃ W, W = w2.drew := ⟨_, rfl⟩
      have HK7 : Hid (Below W2.heap.size W2 W7) := by show Below _ _ _; rw [hW7]; exact HK.out.drew
      have HBw7 : Hid (Below w.heap.size w W7) := kU HJ HK7.out
      refine seq_start (S := fun W => W.cell? ⟨w.heap.size, k * 3, none⟩ = some (.bool g) ∧ W.cell? ⟨w.heap.size, k * 3 + 1, none⟩ = some (.slice A n c) ∧ W.cell? ⟨w.heap.size, k * 3 + 2, none⟩ = some (.slice B m d) ∧ W.cell? ⟨w.heap.size + 1, k, none⟩ = some (.string M)) (by kernel_rfl) (by kernel_rfl) (by rw [← hW7]; exact HC.out _ HK7.out) ?_
      rw [← hW7]
      clear hW7 HK
      iterate 4 refine tk0 (h := ?_)
      iterate 4 (refine plq 2 (h := ?_); refine tk0 (h := ?_))
      refine sop (h := fun K9 hK9 => ?_)
      go_simp
      refine mV (HRT1.out _ (HRX.out _ HBw7.out)) fun w8 j8 => ?_
      replace HK7 := kU HK7 j8
      refine ckk hK9 (by exact HC.out _ HK7.out) (h := ?_)
      clear hK9 K9 HBw7
      iterate 3 refine tk0 (h := ?_)
      refine seq_done (by kernel_rfl) ?_
      go_wp2_with fail
      go_roundw
      case rel => exact ⟨k + 1, _, by omega, rfl, by go_num, HS2, HK7.out⟩
      case measure => simp [intOf]; omega
     ·have HSG : Hid (Int.sign (partN x k).num = -1) := (num_sign _).2.2.2 hneg
      obtain ⟨S1, hS1⟩ : ∃ S : ByteArray, S = ⟨(txtN x k ++ ratS (partN x k)).toArray⟩ := ⟨_, rfl⟩
      obtain ⟨S2, hS2⟩ : ∃ S : ByteArray, S = ⟨((txtN x k ++ ratS (partN x k)) ++ markL k).toArray⟩ := ⟨_, rfl⟩
      have ha1 : ∀ w', (Op.stringOp .add S R).run Tryz.prog w' = .ok (.string S1) w' := fun w' => by rw [hR, HS.out]; exact add_str _ _ (by first | omega | (simp; omega)) (by omega) S1 hS1 w'
      have ha2 : ∀ w', (Op.stringOp .add S1 M).run Tryz.prog w' = .ok (.string S2) w' := fun w' => by rw [hS1, hM]; exact add_str _ _ (by simp only [List.length_append, List.length_cons, List.length_nil]; omega) (by omega) S2 hS2 w'
      have HS2 : Hid (S2 = ⟨(txtN x (k + 1)).toArray⟩) := by show _ = _; rw [hS2, txt_neg hneg]; simp only [List.append_assoc]
      clear hq hM hR hl hl2 hm htn hS1 hS2 hneg
      go_wp2_with fail
      refine mV HZ.out fun w1 j1 => ?_
      replace HK := kU HK j1
      replace HBw := kU HBw j1
      have HSI := h0d (rsign_any _ (partN x k) w1 (HRX.out _ HBw.out))
      rw [HSG.out] at HSI
      clear c0 c1 c2
      obtain ⟨c0, c1, c2, -⟩ := HC.out w1 HK.out
      clear HZ j1
      go_wp2_with fail
      refine mV HSI.out fun w2 j2 => ?_
      replace HK := kU HK j2
      clear HSI HSG c0 c1 c2 HBw j2
      go_wp2_with fail
      obtain ⟨W7, hW7⟩ : ∃ W, W = w2.drew := ⟨_, rfl⟩
      have HK7 : Hid (Below W2.heap.size W2 W7) := by show Below _ _ _; rw [hW7]; exact HK.out.drew
      have HBw7 : Hid (Below w.heap.size w W7) := kU HJ HK7.out
      refine seq_start (S := fun W => W.cell? ⟨w.heap.size, k * 3, none⟩ = some (.bool g) ∧ W.cell? ⟨w.heap.size, k * 3 + 1, none⟩ = some (.slice A n c) ∧ W.cell? ⟨w.heap.size, k * 3 + 2, none⟩ = some (.slice B m d) ∧ W.cell? ⟨w.heap.size + 1, k, none⟩ = some (.string M)) (by kernel_rfl) (by kernel_rfl) (by rw [← hW7]; exact HC.out _ HK7.out) ?_
      rw [← hW7]
      clear hW7 HK
      iterate 4 refine tk0 (h := ?_)
      iterate 4 (refine plq 2 (h := ?_); refine tk0 (h := ?_))
      refine sop (h := fun K9 hK9 => ?_)
      go_simp
      refine mV (HRT1.out _ (HRX.out _ HBw7.out)) fun w8 j8 => ?_
      replace HK7 := kU HK7 j8
      refine ckk hK9 (by exact HC.out _ HK7.out) (h := ?_)
      clear hK9 K9 HBw7
      iterate 3 refine tk0 (h := ?_)
      refine seq_done (by kernel_rfl) ?_
      go_wp2_with fail
      go_roundw
      case rel => exact ⟨k + 1, _, by omega, rfl, by go_num, HS2, HK7.out⟩
      case measure => simp [intOf]; omega
  ·obtain rfl : k = 4 := by omega
   by_cases ht : txtN x 4 = []
   ·have hSe : S = ⟨#[]⟩ := by rw [HS.out, ht]
    subst hSe
    have HE : Hid (strV (surS x) = .string ⟨#[48]⟩) := by show _ = _; unfold surS; rw [if_pos ht]; rfl
    clear ht
    go_wp2_with fail
    go_ret
    exact ⟨by rw [HE.out]; rfl, HJ.out.trans (HK.out.mono HJ.out.size)⟩
   ·have hne := str_some (txtN x 4) ht
    have HE : Hid (strV (surS x) = .string S) := by show _ = _; unfold surS; rw [if_neg ht, HS.out]; rfl
    rw [← HS.out] at hne
    clear ht
    go_wp2_with fail
    go_ret
    exact ⟨by rw [HE.out]; rfl, HJ.out.trans (HK.out.mono HJ.out.size)⟩
end Go.Proofs.YtodckaioeomccaaGreat
namespace Go.Proofs.YtodckaioeomccaaGreat
open Go.RowKit Go.Proofs.S4P Go.Proofs.ImpP
set_option linter.unusedVariables false
set_option linter.unusedSimpArgs false
set_option maxRecDepth 100000
set_option maxHeartbeats 4000000
theorem wzero_yes (v : Value) (K : Nat) (w : World) (hv : RdWv w v .zero K) (hK : K ≤ 900000) :
  Calls Tryz.prog 53 #[v] w fun e w' => e = .returned (.bool true) ∧ Below w.heap.size w w' := by
 have HK := h0d hK
 clear hK
 obtain ⟨gp0a, Ap0a, kp0a, cp0a, gp0b, Ap0b, kp0b, cp0b, gp0c, Ap0c, kp0c, cp0c, gp0d, Ap0d, kp0d, cp0d, Ap0e, kp0e, cp0e, gp0f, Ap0f, kp0f, cp0f, gp0g, Ap0g, kp0g, cp0g, gp0h, Ap0h, kp0h, cp0h, gp0i, Ap0i, kp0i, cp0i, Ap0j, kp0j, cp0j, rfl, hv⟩ := hv.open
 have HX0 := h0d hv
 clear hv
 go_enter Tryz.func53, Tryz.ntmps53
 obtain ⟨W1, HW1, HB2, s1w, j1⟩ := st_al0 w #[.bool gp0a, .slice Ap0a kp0a cp0a, .bool gp0b, .slice Ap0b kp0b cp0b, .bool gp0c, .slice Ap0c kp0c cp0c, .bool gp0d, .slice Ap0d kp0d cp0d, .slice Ap0e kp0e cp0e, .bool gp0f, .slice Ap0f kp0f cp0f, .bool gp0g, .slice Ap0g kp0g cp0g, .bool gp0h, .slice Ap0h kp0h cp0h, .bool gp0i, .slice Ap0i kp0i cp0i, .slice Ap0j kp0j cp0j] 88
 have HBw := h0d j1
 go_wp2_with fail
 rw [← HW1.out]
 replace HX0 := kV j1 HX0
 refine mV (szero_yes _ _ K _ HX0.out.parts.1 HK.out rfl) fun w1 j1c => ?_
 replace HB2 := kB HB2 j1c
 have c3 := kC HB2 9 rfl
 have c4 := kC HB2 10 rfl
 have c5 := kC HB2 11 rfl
 have c6 := kC HB2 12 rfl
 have c7 := kC HB2 13 rfl
 have c8 := kC HB2 14 rfl
 have c9 := kC HB2 15 rfl
 have c10 := kC HB2 16 rfl
 have c11 := kC HB2 17 rfl
 go_wp2_with fail
 clear c3 c4 c5 c6 c7 c8 c9 c10 c11
 replace HX0 := kV j1c HX0
 refine mV (szero_yes _ _ K _ HX0.out.parts.2 HK.out rfl) fun w2 j2c => ?_
 go_wp2_with fail
 go_ret
 have jm1 := tt j1c j2c
 replace HBw := kU HBw jm1
 exact ⟨rfl, HBw.out⟩
theorem im_any (v : Value) (x : W4) (Ks : Nat) (w : World) (hv : RdWv w v x Ks) :
  Calls Tryz.prog 145 #[v] w fun e w' => (∃ v', e = .returned v' ∧ RdS w' v' (x.im) (Ks)) ∧ Below w.heap.size w w' := by
 obtain ⟨gp0a, Ap0a, kp0a, cp0a, gp0b, Ap0b, kp0b, cp0b, gp0c, Ap0c, kp0c, cp0c, gp0d, Ap0d, kp0d, cp0d, Ap0e, kp0e, cp0e, gp0f, Ap0f, kp0f, cp0f, gp0g, Ap0g, kp0g, cp0g, gp0h, Ap0h, kp0h, cp0h, gp0i, Ap0i, kp0i, cp0i, Ap0j, kp0j, cp0j, rfl, hv⟩ := hv.open
 have HX0 := h0d hv
 clear hv
 go_enter Tryz.func145, Tryz.ntmps145
 obtain ⟨W1, HW1, HB2, s1w, j1⟩ := st_al0 w #[.bool gp0a, .slice Ap0a kp0a cp0a, .bool gp0b, .slice Ap0b kp0b cp0b, .bool gp0c, .slice Ap0c kp0c cp0c, .bool gp0d, .slice Ap0d kp0d cp0d, .slice Ap0e kp0e cp0e, .bool gp0f, .slice Ap0f kp0f cp0f, .bool gp0g, .slice Ap0g kp0g cp0g, .bool gp0h, .slice Ap0h kp0h cp0h, .bool gp0i, .slice Ap0i kp0i cp0i, .slice Ap0j kp0j cp0j] 88
 have HBw := h0d j1
 obtain ⟨W3, HW3, HB4, s3w, j2⟩ := st_alk 1 2 #[.bool gp0f, .slice Ap0f kp0f cp0f, .bool gp0g, .slice Ap0g kp0g cp0g, .bool gp0h, .slice Ap0h kp0h cp0h, .bool gp0i, .slice Ap0i kp0i cp0i, .slice Ap0j kp0j cp0j] 30 s1w rfl
 go_wp2_with fail
 rw [← HW1.out, ← HW3.out]
 replace HBw := kU HBw j2
 replace HX0 := kV HBw.out HX0
 exact bodyPost_ret (results_cell rfl (by rfl) (blk_all HB4.out) Tryz.underlying30 rfl (by kernel_rfl)) rfl ⟨⟨_, rfl, HX0.out.parts.2⟩, HBw.out⟩
theorem imp_bad (v : Value) (l : List Int) (o : Int) (w : World) (h : RdL w v l) (hp : pitchE l ≠ 0) :
  Calls Tryz.prog 43 #[v, .int .i64 o] w fun e w' => e = .returned (.tuple #[.agg #[.bool false, .slice none 0 0, .bool false, .slice none 0 0, .bool false, .slice none 0 0, .bool false, .slice none 0 0, .slice none 0 0, .bool false, .slice none 0 0, .bool false, .slice none 0 0, .bool false, .slice none 0 0, .bool false, .slice none 0 0, .slice none 0 0], .int .i64 (pitchE l)]) ∧ Below w.heap.size w w' := by
 obtain ⟨W1, HW1, HBR, s1w, b1⟩ := st_al0 w #[.bool false, .slice none 0 0, .bool false, .slice none 0 0, .bool false, .slice none 0 0, .bool false, .slice none 0 0, .slice none 0 0, .bool false, .slice none 0 0, .bool false, .slice none 0 0, .bool false, .slice none 0 0, .bool false, .slice none 0 0, .slice none 0 0] 88
 obtain ⟨W2, HW2, HBT, s2w, b2⟩ := st_alk 1 2 #[.bool false, .slice none 0 0, .bool false, .slice none 0 0, .bool false, .slice none 0 0, .bool false, .slice none 0 0, .slice none 0 0, .bool false, .slice none 0 0, .bool false, .slice none 0 0, .bool false, .slice none 0 0, .bool false, .slice none 0 0, .slice none 0 0] 88 s1w rfl
 have HBw := kU (h0d b1) b2
 replace HBR := kB HBR b2
 have HP1 := h0d (pitched_any v l W2 (h.below HBw.out))
 have HNE_R_T : Hid (w.heap.size ≠ w.heap.size + 1) := by show _ ≠ _; omega
 have HLE_R : Hid (w.heap.size ≤ w.heap.size) := Nat.le_refl _
 obtain ⟨z, hz⟩ : ∃ z, z = pitchE l := ⟨_, rfl⟩
 rw [← hz] at HP1 hp ⊢
 have hzb : (z == 0) = false := beq_false_of_ne hp
 obtain ⟨A, cap, rfl, -⟩ := h.at_
 clear h hz
 go_enter Tryz.func43, Tryz.ntmps43
 go_wp2_with fail
 rw [← HW1.out, ← HW2.out]
 refine HP1.out.mono ?_
 rintro e w1 ⟨rfl, hbx⟩
 have HJ1 := h0d hbx
 replace HBw := kU HBw hbx
 replace HBR := kB HBR hbx
 replace HBT := kB HBT hbx
 clear hbx HP1 HW1 HW2 s1w s2w b1 b2
 have hL1 := blk_all HBT.out
 have t2h := kth 0 18 HBR
 obtain ⟨W3, HW3⟩ : ∃ W, Hid (W = w1.setCells (w.heap.size) 0 [.bool false, .slice none 0 0, .bool false, .slice none 0 0, .bool false, .slice none 0 0, .bool false, .slice none 0 0, .slice none 0 0, .bool false, .slice none 0 0, .bool false, .slice none 0 0, .bool false, .slice none 0 0, .bool false, .slice none 0 0, .slice none 0 0]) := ⟨_, rfl⟩
 replace HBR := kP (ds := [.bool false, .slice none 0 0, .bool false, .slice none 0 0, .bool false, .slice none 0 0, .bool false, .slice none 0 0, .slice none 0 0, .bool false, .slice none 0 0, .bool false, .slice none 0 0, .bool false, .slice none 0 0, .bool false, .slice none 0 0, .slice none 0 0]) (kM HW3) HBR rfl rfl
 have s3w := kZ (kM HW3)
 go_wp2_with (first | (refine wpList_load_mid (by rfl) 88 _ (by rfl) (w.heap.size + 1) 0 (by rfl) _ _ (by exact hL1) Tryz.underlying88 rfl (by kernel_rfl) ?_) | (refine smd 88 (w.heap.size) 0 (ht := by exact t2h) (h := ?_)))
 rw [← HW3.out]
 clear hL1 t2h
 replace HBw := kS (kM HW3) HLE_R HBw
 exact bodyPost_ret (results_cell_tmp rfl (by rfl) (blk_all HBR.out) Tryz.underlying88 rfl (by kernel_rfl)) rfl ⟨rfl, HBw.out⟩
theorem imp_low (v : Value) (l : List Int) (o : Int) (w : World) (h : RdL w v l) (hp : pitchE l = 0) (ho : o < 0) :
  Calls Tryz.prog 43 #[v, .int .i64 o] w fun e w' => e = .returned (.tuple #[.agg #[.bool false, .slice none 0 0, .bool false, .slice none 0 0, .bool false, .slice none 0 0, .bool false, .slice none 0 0, .slice none 0 0, .bool false, .slice none 0 0, .bool false, .slice none 0 0, .bool false, .slice none 0 0, .bool false, .slice none 0 0, .slice none 0 0], .int .i64 1]) ∧ Below w.heap.size w w' := by
 obtain ⟨W1, HW1, HBR, s1w, b1⟩ := st_al0 w #[.bool false, .slice none 0 0, .bool false, .slice none 0 0, .bool false, .slice none 0 0, .bool false, .slice none 0 0, .slice none 0 0, .bool false, .slice none 0 0, .bool false, .slice none 0 0, .bool false, .slice none 0 0, .bool false, .slice none 0 0, .slice none 0 0] 88
 obtain ⟨W2, HW2, HBT, s2w, b2⟩ := st_alk 1 2 #[.bool false, .slice none 0 0, .bool false, .slice none 0 0, .bool false, .slice none 0 0, .bool false, .slice none 0 0, .slice none 0 0, .bool false, .slice none 0 0, .bool false, .slice none 0 0, .bool false, .slice none 0 0, .bool false, .slice none 0 0, .slice none 0 0] 88 s1w rfl
 have HBw := kU (h0d b1) b2
 replace HBR := kB HBR b2
 have HP1 := h0d (pitched_any v l W2 (h.below HBw.out))
 have HNE_R_T : Hid (w.heap.size ≠ w.heap.size + 1) := by show _ ≠ _; omega
 have HLE_R : Hid (w.heap.size ≤ w.heap.size) := Nat.le_refl _
 obtain ⟨hl0, hsm⟩ := pitch_parts hp
 rw [hp] at HP1
 have HSS := h0d (fun w' (hw : Below W2.heap.size W2 w') => starts_any v l w' ((h.below HBw.out).below hw) hl0.2 hsm)
 obtain ⟨A, cap, rfl, -⟩ := h.at_
 clear h hp hsm hl0
 go_enter Tryz.func43, Tryz.ntmps43
 go_wp2_with fail
 rw [← HW1.out, ← HW2.out]
 refine HP1.out.mono ?_
 rintro e w1 ⟨rfl, hbx⟩
 have HJ1 := h0d hbx
 replace HBw := kU HBw hbx
 replace HBR := kB HBR hbx
 replace HBT := kB HBT hbx
 clear hbx HP1 HW1 HW2 s1w s2w b1 b2
 have HSC := h0d (HSS.out w1 HJ1.out)
 clear HSS
 go_wp2_with fail
 refine HSC.out.mono ?_
 rintro e w2 ⟨⟨sv, rfl, hso⟩, hbx⟩
 obtain ⟨As, cs, rfl⟩ := hso.slice
 replace HBw := kU HBw hbx
 replace HBR := kB HBR hbx
 replace HBT := kB HBT hbx
 clear hbx hso HSC
 have hL1 := blk_all HBT.out
 have t2h := kth 0 18 HBR
 obtain ⟨W3, HW3⟩ : ∃ W, Hid (W = w2.setCells (w.heap.size) 0 [.bool false, .slice none 0 0, .bool false, .slice none 0 0, .bool false, .slice none 0 0, .bool false, .slice none 0 0, .slice none 0 0, .bool false, .slice none 0 0, .bool false, .slice none 0 0, .bool false, .slice none 0 0, .bool false, .slice none 0 0, .slice none 0 0]) := ⟨_, rfl⟩
 replace HBR := kP (ds := [.bool false, .slice none 0 0, .bool false, .slice none 0 0, .bool false, .slice none 0 0, .bool false, .slice none 0 0, .slice none 0 0, .bool false, .slice none 0 0, .bool false, .slice none 0 0, .bool false, .slice none 0 0, .bool false, .slice none 0 0, .slice none 0 0]) (kM HW3) HBR rfl rfl
 have s3w := kZ (kM HW3)
 go_wp2_with (first | (refine wpList_load_mid (by rfl) 88 _ (by rfl) (w.heap.size + 1) 0 (by rfl) _ _ (by exact hL1) Tryz.underlying88 rfl (by kernel_rfl) ?_) | (refine smd 88 (w.heap.size) 0 (ht := by exact t2h) (h := ?_)))
 rw [← HW3.out]
 clear hL1 t2h
 replace HBw := kS (kM HW3) HLE_R HBw
 exact bodyPost_ret (results_cell_tmp rfl (by rfl) (blk_all HBR.out) Tryz.underlying88 rfl (by kernel_rfl)) rfl ⟨rfl, HBw.out⟩
theorem imp_high (v : Value) (l : List Int) (o : Int) (w : World) (h : RdL w v l) (hp : pitchE l = 0) (ho : ¬ o < 0) (ho2 : 12 < o) :
  Calls Tryz.prog 43 #[v, .int .i64 o] w fun e w' => e = .returned (.tuple #[.agg #[.bool false, .slice none 0 0, .bool false, .slice none 0 0, .bool false, .slice none 0 0, .bool false, .slice none 0 0, .slice none 0 0, .bool false, .slice none 0 0, .bool false, .slice none 0 0, .bool false, .slice none 0 0, .bool false, .slice none 0 0, .slice none 0 0], .int .i64 1]) ∧ Below w.heap.size w w' := by
 obtain ⟨W1, HW1, HBR, s1w, b1⟩ := st_al0 w #[.bool false, .slice none 0 0, .bool false, .slice none 0 0, .bool false, .slice none 0 0, .bool false, .slice none 0 0, .slice none 0 0, .bool false, .slice none 0 0, .bool false, .slice none 0 0, .bool false, .slice none 0 0, .bool false, .slice none 0 0, .slice none 0 0] 88
 obtain ⟨W2, HW2, HBT, s2w, b2⟩ := st_alk 1 2 #[.bool false, .slice none 0 0, .bool false, .slice none 0 0, .bool false, .slice none 0 0, .bool false, .slice none 0 0, .slice none 0 0, .bool false, .slice none 0 0, .bool false, .slice none 0 0, .bool false, .slice none 0 0, .bool false, .slice none 0 0, .slice none 0 0] 88 s1w rfl
 have HBw := kU (h0d b1) b2
 replace HBR := kB HBR b2
 have HP1 := h0d (pitched_any v l W2 (h.below HBw.out))
 have HNE_R_T : Hid (w.heap.size ≠ w.heap.size + 1) := by show _ ≠ _; omega
 have HLE_R : Hid (w.heap.size ≤ w.heap.size) := Nat.le_refl _
 obtain ⟨hl0, hsm⟩ := pitch_parts hp
 rw [hp] at HP1
 have HSS := h0d (fun w' (hw : Below W2.heap.size W2 w') => starts_any v l w' ((h.below HBw.out).below hw) hl0.2 hsm)
 obtain ⟨A, cap, rfl, -⟩ := h.at_
 clear h hp hsm hl0
 go_enter Tryz.func43, Tryz.ntmps43
 go_wp2_with fail
 rw [← HW1.out, ← HW2.out]
 refine HP1.out.mono ?_
 rintro e w1 ⟨rfl, hbx⟩
 have HJ1 := h0d hbx
 replace HBw := kU HBw hbx
 replace HBR := kB HBR hbx
 replace HBT := kB HBT hbx
 clear hbx HP1 HW1 HW2 s1w s2w b1 b2
 have HSC := h0d (HSS.out w1 HJ1.out)
 clear HSS
 go_wp2_with fail
 refine HSC.out.mono ?_
 rintro e w2 ⟨⟨sv, rfl, hso⟩, hbx⟩
 obtain ⟨As, cs, rfl⟩ := hso.slice
 replace HBw := kU HBw hbx
 replace HBR := kB HBR hbx
 replace HBT := kB HBT hbx
 clear hbx hso HSC
 have hL1 := blk_all HBT.out
 have t2h := kth 0 18 HBR
 obtain ⟨W3, HW3⟩ : ∃ W, Hid (W = w2.setCells (w.heap.size) 0 [.bool false, .slice none 0 0, .bool false, .slice none 0 0, .bool false, .slice none 0 0, .bool false, .slice none 0 0, .slice none 0 0, .bool false, .slice none 0 0, .bool false, .slice none 0 0, .bool false, .slice none 0 0, .bool false, .slice none 0 0, .slice none 0 0]) := ⟨_, rfl⟩
 replace HBR := kP (ds := [.bool false, .slice none 0 0, .bool false, .slice none 0 0, .bool false, .slice none 0 0, .bool false, .slice none 0 0, .slice none 0 0, .bool false, .slice none 0 0, .bool false, .slice none 0 0, .bool false, .slice none 0 0, .bool false, .slice none 0 0, .slice none 0 0]) (kM HW3) HBR rfl rfl
 have s3w := kZ (kM HW3)
 go_wp2_with (first | (refine wpList_load_mid (by rfl) 88 _ (by rfl) (w.heap.size + 1) 0 (by rfl) _ _ (by exact hL1) Tryz.underlying88 rfl (by kernel_rfl) ?_) | (refine smd 88 (w.heap.size) 0 (ht := by exact t2h) (h := ?_)))
 rw [← HW3.out]
 clear hL1 t2h
 replace HBw := kS (kM HW3) HLE_R HBw
 exact bodyPost_ret (results_cell_tmp rfl (by rfl) (blk_all HBR.out) Tryz.underlying88 rfl (by kernel_rfl)) rfl ⟨rfl, HBw.out⟩
theorem imp_none (v : Value) (l : List Int) (o : Int) (w : World) (h : RdL w v l) (hp : pitchE l = 0) (ho : ¬ o < 0) (ho2 : ¬ 12 < o) (hs : l.sum ≠ 24) :
  Calls Tryz.prog 43 #[v, .int .i64 o] w fun e w' => e = .returned (.tuple #[.agg #[.bool false, .slice none 0 0, .bool false, .slice none 0 0, .bool false, .slice none 0 0, .bool false, .slice none 0 0, .slice none 0 0, .bool false, .slice none 0 0, .bool false, .slice none 0 0, .bool false, .slice none 0 0, .bool false, .slice none 0 0, .slice none 0 0], .int .i64 5]) ∧ Below w.heap.size w w' := by
 obtain ⟨W1, HW1, HBR, s1w, b1⟩ := st_al0 w #[.bool false, .slice none 0 0, .bool false, .slice none 0 0, .bool false, .slice none 0 0, .bool false, .slice none 0 0, .slice none 0 0, .bool false, .slice none 0 0, .bool false, .slice none 0 0, .bool false, .slice none 0 0, .bool false, .slice none 0 0, .slice none 0 0] 88
 obtain ⟨W2, HW2, HBT, s2w, b2⟩ := st_alk 1 2 #[.bool false, .slice none 0 0, .bool false, .slice none 0 0, .bool false, .slice none 0 0, .bool false, .slice none 0 0, .slice none 0 0, .bool false, .slice none 0 0, .bool false, .slice none 0 0, .bool false, .slice none 0 0, .bool false, .slice none 0 0, .slice none 0 0] 88 s1w rfl
 have HBw := kU (h0d b1) b2
 replace HBR := kB HBR b2
 have HP1 := h0d (pitched_any v l W2 (h.below HBw.out))
 have HNE_R_T : Hid (w.heap.size ≠ w.heap.size + 1) := by show _ ≠ _; omega
 have HLE_R : Hid (w.heap.size ≤ w.heap.size) := Nat.le_refl _
 obtain ⟨hl0, hsm⟩ := pitch_parts hp
 rw [hp] at HP1
 have HSS := h0d (fun w' (hw : Below W2.heap.size W2 w') => starts_any v l w' ((h.below HBw.out).below hw) hl0.2 hsm)
 obtain ⟨A, cap, rfl, -⟩ := h.at_
 obtain ⟨T, hT⟩ : ∃ T, T = l.sum := ⟨_, rfl⟩
 rw [← hT] at HSS hs
 have hsb : (T == 24) = false := beq_false_of_ne hs
 clear h hp hsm hl0 hT
 go_enter Tryz.func43, Tryz.ntmps43
 go_wp2_with fail
 rw [← HW1.out, ← HW2.out]
 refine HP1.out.mono ?_
 rintro e w1 ⟨rfl, hbx⟩
 have HJ1 := h0d hbx
 replace HBw := kU HBw hbx
 replace HBR := kB HBR hbx
 replace HBT := kB HBT hbx
 clear hbx HP1 HW1 HW2 s1w s2w b1 b2
 have HSC := h0d (HSS.out w1 HJ1.out)
 clear HSS
 go_wp2_with fail
 refine HSC.out.mono ?_
 rintro e w2 ⟨⟨sv, rfl, hso⟩, hbx⟩
 obtain ⟨As, cs, rfl⟩ := hso.slice
 replace HBw := kU HBw hbx
 replace HBR := kB HBR hbx
 replace HBT := kB HBT hbx
 clear hbx hso HSC
 have hL1 := blk_all HBT.out
 have t2h := kth 0 18 HBR
 obtain ⟨W3, HW3⟩ : ∃ W, Hid (W = w2.setCells (w.heap.size) 0 [.bool false, .slice none 0 0, .bool false, .slice none 0 0, .bool false, .slice none 0 0, .bool false, .slice none 0 0, .slice none 0 0, .bool false, .slice none 0 0, .bool false, .slice none 0 0, .bool false, .slice none 0 0, .bool false, .slice none 0 0, .slice none 0 0]) := ⟨_, rfl⟩
 replace HBR := kP (ds := [.bool false, .slice none 0 0, .bool false, .slice none 0 0, .bool false, .slice none 0 0, .bool false, .slice none 0 0, .slice none 0 0, .bool false, .slice none 0 0, .bool false, .slice none 0 0, .bool false, .slice none 0 0, .bool false, .slice none 0 0, .slice none 0 0]) (kM HW3) HBR rfl rfl
 have s3w := kZ (kM HW3)
 go_wp2_with (first | (refine wpList_load_mid (by rfl) 88 _ (by rfl) (w.heap.size + 1) 0 (by rfl) _ _ (by exact hL1) Tryz.underlying88 rfl (by kernel_rfl) ?_) | (refine smd 88 (w.heap.size) 0 (ht := by exact t2h) (h := ?_)))
 rw [← HW3.out]
 clear hL1 t2h
 replace HBw := kS (kM HW3) HLE_R HBw
 exact bodyPost_ret (results_cell_tmp rfl (by rfl) (blk_all HBR.out) Tryz.underlying88 rfl (by kernel_rfl)) rfl ⟨rfl, HBw.out⟩
theorem issurd_any (v u : Value) (x : S4) (K : Nat) (w : World) (hv : RdS w v x K) (hu : RdG w u x) (hK : K ≤ 100000) :
  Calls Tryz.prog 22 #[v, u] w fun e w' => e = .returned (.bool true) ∧ Below w.heap.size w w' := by
 have HQS : Hid (∀ k, QS K (partN x k)) := part_sizes hv
 obtain ⟨S, hS⟩ : ∃ S : ByteArray, S = ⟨(surS x).toArray⟩ := ⟨_, rfl⟩
 have HT1 : Hid (∀ W (v : Value), RdS W v x K → Calls Tryz.prog 89 #[v] W fun e w' => e = .returned (.string S) ∧ Below W.heap.size W w') := fun W v hv => by rw [hS]; exact stext_any v x K W hv hK
 have HT2 : Hid (∀ W (v : Value), RdG W v x → Calls Tryz.prog 105 #[v] W fun e w' => e = .returned (.string S) ∧ Below W.heap.size W w') := fun W v hv => by rw [hS]; exact rstext_any v x K W hv HQS.out hK
 clear hS hK
 obtain ⟨gp0a, Ap0a, kp0a, cp0a, gp0b, Ap0b, kp0b, cp0b, gp0c, Ap0c, kp0c, cp0c, gp0d, Ap0d, kp0d, cp0d, Ap0e, kp0e, cp0e, rfl, hv⟩ := hv.open
 have HX0 := h0d hv
 clear hv
 obtain ⟨gp1a, Ap1a, kp1a, cp1a, Ap1b, kp1b, cp1b, gp1c, Ap1c, kp1c, cp1c, Ap1d, kp1d, cp1d, gp1e, Ap1e, kp1e, cp1e, Ap1f, kp1f, cp1f, gp1g, Ap1g, kp1g, cp1g, Ap1h, kp1h, cp1h, rfl, hu⟩ := hu.open
 have HX1 := h0d hu
 clear hu
 go_enter Tryz.func22, Tryz.ntmps22
 obtain ⟨W1, HW1, HB2, s1w, j1⟩ := st_al0 w #[.bool gp0a, .slice Ap0a kp0a cp0a, .bool gp0b, .slice Ap0b kp0b cp0b, .bool gp0c, .slice Ap0c kp0c cp0c, .bool gp0d, .slice Ap0d kp0d cp0d, .slice Ap0e kp0e cp0e] 30
 have HBw := h0d j1
 obtain ⟨W3, HW3, HB4, s3w, j2⟩ := st_alk 1 2 #[.bool gp1a, .slice Ap1a kp1a cp1a, .slice Ap1b kp1b cp1b, .bool gp1c, .slice Ap1c kp1c cp1c, .slice Ap1d kp1d cp1d, .bool gp1e, .slice Ap1e kp1e cp1e, .slice Ap1f kp1f cp1f, .bool gp1g, .slice Ap1g kp1g cp1g, .slice Ap1h kp1h cp1h] 42 s1w rfl
 go_wp2_with fail
 rw [← HW1.out, ← HW3.out]
 obtain ⟨W5, hW5⟩ : ∃ W, W = W3.drew := ⟨_, rfl⟩
 have j3 : Below W3.heap.size W3 W5 := by rw [hW5]; exact (Below.refl _ _).drew
 have jm1 := tt j2 j3
 replace HB2 := kB HB2 jm1
 replace HB4 := kB HB4 j3
 refine seq_start (S := fun w' => Hid (w'.rangeAt (w.heap.size) 0 [.bool gp0a, .slice Ap0a kp0a cp0a, .bool gp0b, .slice Ap0b kp0b cp0b, .bool gp0c, .slice Ap0c kp0c cp0c, .bool gp0d, .slice Ap0d kp0d cp0d, .slice Ap0e kp0e cp0e] ∧ w'.rangeAt (w.heap.size + 1) 0 [.bool gp1a, .slice Ap1a kp1a cp1a, .slice Ap1b kp1b cp1b, .bool gp1c, .slice Ap1c kp1c cp1c, .slice Ap1d kp1d cp1d, .bool gp1e, .slice Ap1e kp1e cp1e, .slice Ap1f kp1f cp1f, .bool gp1g, .slice Ap1g kp1g cp1g, .slice Ap1h kp1h cp1h])) (by kernel_rfl) (by kernel_rfl) (by rw [← hW5]; exact ⟨blk_all HB2.out, blk_all HB4.out⟩) ?_
 rw [← hW5]
 clear hW5
 refine tkM 30 _ (w.heap.size) 0 _ _ (fun _ h => h.out.1) Tryz.underlying30 rfl (by kernel_rfl) (h := ?_)
 refine plq 1 (h := ?_)
 refine tkM 42 _ (w.heap.size + 1) 0 _ _ (fun _ h => h.out.2) Tryz.underlying42 rfl (by kernel_rfl) (h := ?_)
 refine sop (h := fun K9 hK9 => ?_)
 go_simp
 replace HBw := kU HBw jm1
 replace HX0 := kV HBw.out HX0
 refine mV (HT1.out _ _ HX0.out) fun w1 j1c => ?_
 replace HB2 := kB HB2 j1c
 replace HB4 := kB HB4 j1c
 refine ckk hK9 (by exact ⟨blk_all HB2.out, blk_all HB4.out⟩) (h := ?_)
 clear hK9 K9
 refine sop (h := fun K9 hK9 => ?_)
 go_simp
 replace HBw := kU HBw j1c
 replace HX1 := kV HBw.out HX1
 refine mV (HT2.out _ _ HX1.out) fun w2 j2c => ?_
 replace HB2 := kB HB2 j2c
 replace HB4 := kB HB4 j2c
 refine ckk hK9 (by exact ⟨blk_all HB2.out, blk_all HB4.out⟩) (h := ?_)
 clear hK9 K9
 iterate 2 refine tk0 (h := ?_)
 refine seq_done (by kernel_rfl) ?_
 go_wp2_with fail
 go_ret
 replace HBw := kU HBw j2c
 exact ⟨rfl, HBw.out⟩
theorem iswave_any (v u : Value) (x : W4) (K : Nat) (w : World) (hv : RdWv w v x K) (hu : RdH w u x) (hK : K ≤ 100000) :
  Calls Tryz.prog 57 #[v, u] w fun e w' => e = .returned (.bool true) ∧ Below w.heap.size w w' := by
 have HK := h0d hK
 clear hK
 obtain ⟨gp0a, Ap0a, kp0a, cp0a, gp0b, Ap0b, kp0b, cp0b, gp0c, Ap0c, kp0c, cp0c, gp0d, Ap0d, kp0d, cp0d, Ap0e, kp0e, cp0e, gp0f, Ap0f, kp0f, cp0f, gp0g, Ap0g, kp0g, cp0g, gp0h, Ap0h, kp0h, cp0h, gp0i, Ap0i, kp0i, cp0i, Ap0j, kp0j, cp0j, rfl, hv⟩ := hv.open
 have HX0 := h0d hv
 clear hv
 obtain ⟨gp1a, Ap1a, kp1a, cp1a, Ap1b, kp1b, cp1b, gp1c, Ap1c, kp1c, cp1c, Ap1d, kp1d, cp1d, gp1e, Ap1e, kp1e, cp1e, Ap1f, kp1f, cp1f, gp1g, Ap1g, kp1g, cp1g, Ap1h, kp1h, cp1h, gp1i, Ap1i, kp1i, cp1i, Ap1j, kp1j, cp1j, gp1k, Ap1k, kp1k, cp1k, Ap1l, kp1l, cp1l, gp1m, Ap1m, kp1m, cp1m, Ap1n, kp1n, cp1n, gp1o, Ap1o, kp1o, cp1o, Ap1p, kp1p, cp1p, rfl, hu⟩ := hu.open
 have HX1 := h0d hu
 clear hu
 go_enter Tryz.func57, Tryz.ntmps57
 obtain ⟨W1, HW1, HB2, s1w, j1⟩ := st_al0 w #[.bool gp0a, .slice Ap0a kp0a cp0a, .bool gp0b, .slice Ap0b kp0b cp0b, .bool gp0c, .slice Ap0c kp0c cp0c, .bool gp0d, .slice Ap0d kp0d cp0d, .slice Ap0e kp0e cp0e, .bool gp0f, .slice Ap0f kp0f cp0f, .bool gp0g, .slice Ap0g kp0g cp0g, .bool gp0h, .slice Ap0h kp0h cp0h, .bool gp0i, .slice Ap0i kp0i cp0i, .slice Ap0j kp0j cp0j] 88
 have HBw := h0d j1
 obtain ⟨W3, HW3, HB4, s3w, j2⟩ := st_alk 1 2 #[.bool gp1a, .slice Ap1a kp1a cp1a, .slice Ap1b kp1b cp1b, .bool gp1c, .slice Ap1c kp1c cp1c, .slice Ap1d kp1d cp1d, .bool gp1e, .slice Ap1e kp1e cp1e, .slice Ap1f kp1f cp1f, .bool gp1g, .slice Ap1g kp1g cp1g, .slice Ap1h kp1h cp1h, .bool gp1i, .slice Ap1i kp1i cp1i, .slice Ap1j kp1j cp1j, .bool gp1k, .slice Ap1k kp1k cp1k, .slice Ap1l kp1l cp1l, .bool gp1m, .slice Ap1m kp1m cp1m, .slice Ap1n kp1n cp1n, .bool gp1o, .slice Ap1o kp1o cp1o, .slice Ap1p kp1p cp1p] 116 s1w rfl
 go_wp2_with fail
 rw [← HW1.out, ← HW3.out]
 obtain ⟨W5, hW5⟩ : ∃ W, W = W3.drew := ⟨_, rfl⟩
 have j3 : Below W3.heap.size W3 W5 := by rw [hW5]; exact (Below.refl _ _).drew
 have jm1 := tt j2 j3
 replace HB2 := kB HB2 jm1
 replace HB4 := kB HB4 j3
 refine seq_start (S := fun w' => w'.rangeAt (w.heap.size) 0 [.bool gp0a, .slice Ap0a kp0a cp0a, .bool gp0b, .slice Ap0b kp0b cp0b, .bool gp0c, .slice Ap0c kp0c cp0c, .bool gp0d, .slice Ap0d kp0d cp0d, .slice Ap0e kp0e cp0e, .bool gp0f, .slice Ap0f kp0f cp0f, .bool gp0g, .slice Ap0g kp0g cp0g, .bool gp0h, .slice Ap0h kp0h cp0h, .bool gp0i, .slice Ap0i kp0i cp0i, .slice Ap0j kp0j cp0j] ∧ w'.rangeAt (w.heap.size + 1) 0 [.bool gp1a, .slice Ap1a kp1a cp1a, .slice Ap1b kp1b cp1b, .bool gp1c, .slice Ap1c kp1c cp1c, .slice Ap1d kp1d cp1d, .bool gp1e, .slice Ap1e kp1e cp1e, .slice Ap1f kp1f cp1f, .bool gp1g, .slice Ap1g kp1g cp1g, .slice Ap1h kp1h cp1h] ∧ w'.rangeAt (w.heap.size + 1) 12 [.bool gp1i, .slice Ap1i kp1i cp1i, .slice Ap1j kp1j cp1j, .bool gp1k, .slice Ap1k kp1k cp1k, .slice Ap1l kp1l cp1l, .bool gp1m, .slice Ap1m kp1m cp1m, .slice Ap1n kp1n cp1n, .bool gp1o, .slice Ap1o kp1o cp1o, .slice Ap1p kp1p cp1p]) (by kernel_rfl) (by kernel_rfl) (by rw [← hW5]; exact ⟨blk_all HB2.out, blk_rng 0 HB4.out, blk_rng 12 HB4.out⟩) ?_
 rw [← hW5]
 clear hW5
 refine tkM 88 _ (w.heap.size) 0 _ _ (fun _ h => h.1) Tryz.underlying88 rfl (by kernel_rfl) (h := ?_)
 refine plq 1 (h := ?_)
 refine tk0 (h := ?_)
 refine plq 1 (h := ?_)
 refine tkM 42 _ (w.heap.size + 1) 0 _ _ (fun _ h => h.2.1) Tryz.underlying42 rfl (by kernel_rfl) (h := ?_)
 refine sop (h := fun K9 hK9 => ?_)
 go_simp
 replace HBw := kU HBw jm1
 replace HX0 := kV HBw.out HX0
 refine mS (re_any _ x K _ HX0.out) fun w1 g1a A1a k1a c1a g1b A1b k1b c1b g1c A1c k1c c1c g1d A1d k1d c1d A1e k1e c1e HR1 j1c => ?_
 replace HB2 := kB HB2 j1c
 replace HB4 := kB HB4 j1c
 refine ckk hK9 (by exact ⟨blk_all HB2.out, blk_rng 0 HB4.out, blk_rng 12 HB4.out⟩) (h := ?_)
 clear hK9 K9
 refine sop (h := fun K9 hK9 => ?_)
 go_simp
 replace HBw := kU HBw j1c
 replace HX1 := kV HBw.out HX1
 refine mV (issurd_any _ _ x.re K _ HR1.out HX1.out.re HK.out) fun w2 j2c => ?_
 replace HB2 := kB HB2 j2c
 replace HB4 := kB HB4 j2c
 refine ckk hK9 (by exact ⟨blk_all HB2.out, blk_rng 0 HB4.out, blk_rng 12 HB4.out⟩) (h := ?_)
 clear hK9 K9
 refine tk0 (h := ?_)
 refine tkM 88 _ (w.heap.size) 0 _ _ (fun _ h => h.1) Tryz.underlying88 rfl (by kernel_rfl) (h := ?_)
 refine plq 1 (h := ?_)
 refine tkG (h := ?_)
 refine plq 1 (h := ?_)
 refine tkM 42 _ (w.heap.size + 1) 12 _ _ (fun _ h => h.2.2) Tryz.underlying42 rfl (by kernel_rfl) (h := ?_)
 refine sop (h := fun K9 hK9 => ?_)
 go_simp
 have jm2 := tt j1c j2c
 replace HX0 := kV jm2 HX0
 refine mS (im_any _ x K _ HX0.out) fun w3 g3a A3a k3a c3a g3b A3b k3b c3b g3c A3c k3c c3c g3d A3d k3d c3d A3e k3e c3e HR3 j3c => ?_
 replace HB2 := kB HB2 j3c
 replace HB4 := kB HB4 j3c
 refine ckk hK9 (by exact ⟨blk_all HB2.out, blk_rng 0 HB4.out, blk_rng 12 HB4.out⟩) (h := ?_)
 clear hK9 K9
 refine sop (h := fun K9 hK9 => ?_)
 go_simp
 have jm3 := tt j2c j3c
 replace HX1 := kV jm3 HX1
 refine mV (issurd_any _ _ x.im K _ HR3.out HX1.out.im HK.out) fun w4 j4c => ?_
 replace HB2 := kB HB2 j4c
 replace HB4 := kB HB4 j4c
 refine ckk hK9 (by exact ⟨blk_all HB2.out, blk_rng 0 HB4.out, blk_rng 12 HB4.out⟩) (h := ?_)
 clear hK9 K9
 iterate 2 refine tk0 (h := ?_)
 refine seq_done (by kernel_rfl) ?_
 go_wp2_with fail
 go_ret
 have jm4 := tt jm3 j4c
 replace HBw := kU HBw jm4
 exact ⟨rfl, HBw.out⟩
end Go.Proofs.YtodckaioeomccaaGreat
