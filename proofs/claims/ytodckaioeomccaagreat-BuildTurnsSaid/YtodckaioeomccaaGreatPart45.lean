/- The walk of a Surd's text. -/
import Derived.Test.YtodckaioeomccaaGreatPart32
import Derived.Test.YtodckaioeomccaaGreatPart40
import Derived.Test.YtodckaioeomccaaGreatPart25
namespace Go.Proofs.YtodckaioeomccaaGreat
open Go.RowKit Go.Proofs.S4P
set_option linter.unusedVariables false
set_option linter.unusedSimpArgs false
def markL : Nat → List UInt8
 | 0 => []
 | 1 => [114, 50]
 | 2 => [114, 51]
 | _ => [114, 54]
set_option maxRecDepth 100000 in
theorem marks_any (w : World) : Calls Tryz.prog 176 #[] w fun e w' => e = .returned (.agg #[.string ⟨#[]⟩, .string ⟨#[114, 50]⟩, .string ⟨#[114, 51]⟩, .string ⟨#[114, 54]⟩]) ∧ Below w.heap.size w w' := by
 go_enter Tryz.func176, Tryz.ntmps176
 go_wp2_with fail
 exact bodyPost_ret (v := (.agg #[.string ⟨#[]⟩, .string ⟨#[114, 50]⟩, .string ⟨#[114, 51]⟩, .string ⟨#[114, 54]⟩])) (by simp [results, Tryz.results176, go_sem]) rfl ⟨rfl, (Below.refl _ w).alloc (Nat.le_refl _) _⟩
def partN (x : S4) : Nat → Rat
 | 0 => x.a
 | 1 => x.b
 | 2 => x.c
 | _ => x.e
def txtN (x : S4) : Nat → List UInt8
 | 0 => []
 | k + 1 => if partN x k = 0 then txtN x k else txtN x k ++ ((if txtN x k ≠ [] ∧ 0 < partN x k then [43] else []) ++ (ratS (partN x k) ++ markL k))
def surS (x : S4) : List UInt8 := if txtN x 4 = [] then [48] else txtN x 4
theorem str_some (l : List UInt8) (h : l ≠ []) : (⟨l.toArray⟩ : ByteArray).toList.isEmpty = false := by
 cases l with
 | nil => exact absurd rfl h
 | cons a l => simp
theorem ratS_len {x : Rat} {K : Nat} (h : QS K x) (hK : K ≤ 100000) : (ratS x).length ≤ 5000000 := by
 have h1 := decS_len x.num.natAbs (show dl _ ≤ 900000 by have := h.1; omega)
 have h2 := decS_len x.den (show dl _ ≤ 900000 by have := h.2; omega)
 have d1 := dec_len_dl x.num.natAbs
 have d2 := dec_len_dl x.den
 have e : ∀ n, (decS n).length ≤ (dec n).length + 1 := fun n => by unfold decS; split <;> simp
 have e1 := e x.num.natAbs
 have e2 := e x.den
 have := h.1; have := h.2
 unfold ratS
 rw [List.length_append, List.length_append]
 have l1 : (if x.num < 0 then [45] else [] : List UInt8).length ≤ 1 := by split <;> simp
 have l2 : (if x.den = 1 then [] else 47 :: decS x.den : List UInt8).length ≤ (decS x.den).length + 1 := by split <;> simp
 omega
theorem txt_len {x : S4} {K : Nat} (hK : K ≤ 100000) (h : ∀ k, QS K (partN x k)) : ∀ k, (txtN x k).length ≤ 5000010 * k
 | 0 => by simp [txtN]
 | k + 1 => by
  have h1 := txt_len hK h k
  have h2 := ratS_len (h k) hK
  have h3 : (markL k).length ≤ 2 := by unfold markL; split <;> simp
  unfold txtN
  split
  ·omega
  ·rw [List.length_append, List.length_append, List.length_append]
   have : (if txtN x k ≠ [] ∧ 0 < partN x k then [43] else [] : List UInt8).length ≤ 1 := by split <;> simp
   omega
theorem txt_skip {x : S4} {k : Nat} (h : partN x k = 0) : txtN x (k + 1) = txtN x k := by show (if _ then _ else _) = _; rw [if_pos h]
theorem txt_first {x : S4} {k : Nat} (h : partN x k ≠ 0) (ht : txtN x k = []) : txtN x (k + 1) = txtN x k ++ (ratS (partN x k) ++ markL k) := by
 show (if _ then _ else _) = _; rw [if_neg h, if_neg (fun e => e.1 ht)]; rfl
theorem txt_pos {x : S4} {k : Nat} (h : 0 < partN x k) (ht : txtN x k ≠ []) : txtN x (k + 1) = (txtN x k ++ [43]) ++ (ratS (partN x k) ++ markL k) := by
 show (if _ then _ else _) = _; rw [if_neg (by grind), if_pos ⟨ht, h⟩, List.append_assoc]
theorem txt_neg {x : S4} {k : Nat} (h : partN x k < 0) : txtN x (k + 1) = txtN x k ++ (ratS (partN x k) ++ markL k) := by
 show (if _ then _ else _) = _; rw [if_neg (by grind), if_neg (fun e => by grind)]; rfl
theorem tri_rat (x : Rat) (h : x ≠ 0) : 0 < x ∨ x < 0 := by
 rcases Rat.le_total (a := 0) (b := x) with h1 | h1
 ·exact .inl (by grind)
 ·exact .inr (by grind)
theorem part_sizes {w : World} {v : Value} {x : S4} {K : Nat} (h : RdS w v x K) : ∀ k, QS K (partN x k) := fun k => by
 obtain ⟨n0, n1, n2, n3, d, -, hd, ⟨a, b, c, e⟩, ⟨p, q, r, s⟩, t⟩ := h
 have key : ∀ (y : Rat) (n : Int), y * d = n → dl n.natAbs ≤ K → QS K y := fun y n h1 h2 => by
  have e := mk_part hd h1
  have h3 := mk_sizes (z := n) hd
  rw [e] at h3
  exact ⟨Nat.le_trans (dl_mono h3.1) h2, Nat.le_trans (dl_mono h3.2) t⟩
 match k with
 | 0 => exact key _ _ a p
 | 1 => exact key _ _ b q
 | 2 => exact key _ _ c r
 | _ + 3 => exact key _ _ e s
set_option maxRecDepth 100000 in
set_option maxHeartbeats 8000000 in
theorem stext_any (v : Value) (x : S4) (Ks : Nat) (w : World) (hv : RdS w v x Ks) (hK : Ks ≤ 100000) : Calls Tryz.prog 89 #[v] w fun e w' => e = .returned (strV (surS x)) ∧ Below w.heap.size w w' := by
 have HQS : Hid (∀ k, QS Ks (partN x k)) := part_sizes hv
 obtain ⟨gp0a, Ap0a, kp0a, cp0a, gp0b, Ap0b, kp0b, cp0b, gp0c, Ap0c, kp0c, cp0c, gp0d, Ap0d, kp0d, cp0d, Ap0e, kp0e, cp0e, rfl, hv⟩ := hv.open
 obtain ⟨W1, hW1⟩ : ∃ W, W = w.alloc (.cells #[.bool gp0a, .slice Ap0a kp0a cp0a, .bool gp0b, .slice Ap0b kp0b cp0b, .bool gp0c, .slice Ap0c kp0c cp0c, .bool gp0d, .slice Ap0d kp0d cp0d, .slice Ap0e kp0e cp0e] 30) := ⟨_, rfl⟩
 have hb1 : Below w.heap.size w W1 := by rw [hW1]; exact (Below.refl _ _).alloc (Nat.le_refl _) _
 have HX0 := h0d (hv.wd (Wd.of_below hb1))
 have HB1 := h0d hb1
 have HW1 := h0d hW1
 have HLN := h0d (txt_len hK HQS.out)
 have HRL := h0d (fun k => ratS_len (HQS.out k) hK)
 clear hv hW1 hb1
 go_enter Tryz.func89, Tryz.ntmps89
 go_wp2_with fail
 rw [← HW1.out]
 refine (parts_any _ x Ks _ HX0.out (by omega)).mono ?_
 rintro e w1 ⟨⟨vx, rfl, hr⟩, hbx⟩
 obtain ⟨g1a, A1a, k1a, c1a, B1a, m1a, d1a, g1b, A1b, k1b, c1b, B1b, m1b, d1b, g1c, A1c, k1c, c1c, B1c, m1c, d1c, g1d, A1d, k1d, c1d, B1d, m1d, d1d, rfl, hr⟩ := hr.open
 have HR1 := h0d hr
 have HBW := h0d (HB1.out.trans (hbx.mono HB1.out.size))
 clear hr hbx
 go_wp2_with fail
 go_loopw [3, 4, 5, 8] (fun sv _ _ iv wr => ∃ (k : Nat) (z : Int) (S : ByteArray), k ≤ 4 ∧ z = k ∧ iv = .int .i64 z ∧ sv = .string S ∧ Hid (S = ⟨(txtN x k).toArray⟩) ∧ Hid (RdR wr (.agg #[.bool g1a, .slice A1a k1a c1a, .slice B1a m1a d1a, .bool g1b, .slice A1b k1b c1b, .slice B1b m1b d1b, .bool g1c, .slice A1c k1c c1c, .slice B1c m1c d1c, .bool g1d, .slice A1d k1d c1d, .slice B1d m1d d1d]) x.a x.b x.c x.e) ∧ Hid (Below w.heap.size w wr)) (fun _ _ _ iv _ => 4 - (intOf iv).toNat)
 case atStart => exact ⟨0, 0, ⟨#[]⟩, by omega, rfl, rfl, rfl, rfl, HR1.out, HBW.out⟩
 case round =>
  obtain ⟨k, z, S, hk, hz, rfl, rfl, HS, HX1, HBw⟩ := hrel
  clear HX0 HR1 HBW HB1
  rcases (show k = 0 ∨ k = 1 ∨ k = 2 ∨ k = 3 ∨ k = 4 by omega) with rfl | rfl | rfl | rfl | rfl
  ·obtain rfl : z = 0 := by omega
   clear hz hk
   have hp : partN x 0 = x.a := rfl
   by_cases hq : x.a = 0
   ·have HZ := h0d hq
    have HS1 : Hid (S = ⟨(txtN x 1).toArray⟩) := by show _ = _; rw [txt_skip (show partN x 0 = 0 from hq)]; exact HS.out
    clear hp hq
    have ix1 : ∀ w, (Instr.index 255 (.agg #[.bool g1a, .slice A1a k1a c1a, .slice B1a m1a d1a, .bool g1b, .slice A1b k1b c1b, .slice B1b m1b d1b, .bool g1c, .slice A1c k1c c1c, .slice B1c m1c d1c, .bool g1d, .slice A1d k1d c1d, .slice B1d m1d d1d]) (.int .i64 0)).run Tryz.prog w = .ok (.agg #[.bool g1a, .slice A1a k1a c1a, .slice B1a m1a d1a]) w := fun _ => by kernel_rfl
    obtain ⟨W2, HW2, HB3, s2w, j1⟩ := st_al0 wr #[.bool g1a, .slice A1a k1a c1a, .slice B1a m1a d1a] 32
    have l3b : Hid (w.heap.size ≤ wr.heap.size) := by show _ ≤ _; have hlt := HBw.out.size; omega
    go_wp2_with fail
    rw [← HW2.out]
    clear ix1
    replace HX1 := kV j1 HX1
    refine mV (zero_yes _ (x.a) _ HX1.out.q0 HZ.out) fun w1 j1c => ?_
    go_wp2_with fail
    have jm1 := tt j1 j1c
    replace HBw := kU HBw jm1
    replace HX1 := kV j1c HX1
    go_roundw
    case rel => exact ⟨1, 1, _, by omega, by omega, by go_num, rfl, HS1, HX1, HBw⟩
    case measure => simp [intOf]
   ·have HZ := h0d hq
    obtain ⟨R, hR⟩ : ∃ R : ByteArray, R = ⟨(ratS (x.a)).toArray⟩ := ⟨_, rfl⟩
    have HRT : Hid (∀ w' {u : Value}, RdQ w' u (x.a) → Calls Tryz.prog 90 #[u] w' fun e w'' => e = .returned (.string R) ∧ Below w'.heap.size w' w'') := fun w' u hu => by
     have := rtext_any u (x.a) w' hu (QS.up (HQS.out 0) (by omega))
     unfold strV at this
     rwa [← hR] at this
    obtain ⟨RM, hRM⟩ : ∃ R : ByteArray, R = ⟨(ratS (x.a) ++ markL 0).toArray⟩ := ⟨_, rfl⟩
    have hl := HLN.out 0
    have hl2 := HRL.out 0
    have hm : (markL 0).length ≤ 2 := by decide
    have ha1 : ∀ w', (Op.stringOp .add R ⟨#[]⟩).run Tryz.prog w' = .ok (.string RM) w' := fun w' => by rw [hR]; exact add_str (ratS (x.a)) [] (by rw [← hp]; omega) (by decide) RM hRM w'
    have htn : txtN x 0 = [] := rfl
    have hSe : S = ⟨#[]⟩ := HS.out
    subst hSe
    obtain ⟨S2, hS2⟩ : ∃ S2 : ByteArray, S2 = ⟨(txtN x 0 ++ (ratS (x.a) ++ markL 0)).toArray⟩ := ⟨_, rfl⟩
    have ha2 : ∀ w', (Op.stringOp .add ⟨#[]⟩ RM).run Tryz.prog w' = .ok (.string S2) w' := fun w' => by rw [show (⟨#[]⟩ : ByteArray) = ⟨(txtN x 0).toArray⟩ from rfl, hRM]; exact add_str _ _ (by first | omega | (simp only [List.length_append, List.length_cons, List.length_nil]; omega)) (by rw [List.length_append, ← hp]; omega) S2 hS2 w'
    have HS2 : Hid (S2 = ⟨(txtN x 1).toArray⟩) := by show _ = _; rw [hS2, txt_first (show partN x 0 ≠ 0 from hq) htn]; rfl
    clear hp hq hR hRM hl hl2 hm hS2 htn
    have ix1 : ∀ w, (Instr.index 255 (.agg #[.bool g1a, .slice A1a k1a c1a, .slice B1a m1a d1a, .bool g1b, .slice A1b k1b c1b, .slice B1b m1b d1b, .bool g1c, .slice A1c k1c c1c, .slice B1c m1c d1c, .bool g1d, .slice A1d k1d c1d, .slice B1d m1d d1d]) (.int .i64 0)).run Tryz.prog w = .ok (.agg #[.bool g1a, .slice A1a k1a c1a, .slice B1a m1a d1a]) w := fun _ => by kernel_rfl
    obtain ⟨W2, HW2, HB3, s2w, j1⟩ := st_al0 wr #[.bool g1a, .slice A1a k1a c1a, .slice B1a m1a d1a] 32
    have l3b : Hid (w.heap.size ≤ wr.heap.size) := by show _ ≤ _; have hlt := HBw.out.size; omega
    go_wp2_with fail
    rw [← HW2.out]
    clear ix1
    replace HX1 := kV j1 HX1
    refine mV (zero_no _ (x.a) _ HX1.out.q0 HZ.out) fun w1 j1c => ?_
    replace HB3 := kB HB3 j1c
    have c4 := kC HB3 0 rfl
    have c5 := kC HB3 1 rfl
    have c6 := kC HB3 2 rfl
    go_wp2_with fail
    clear c4 c5 c6
    replace HX1 := kV j1c HX1
    refine mV (HRT.out _ HX1.out.q0) fun w2 j2c => ?_
    go_wp2_with fail
    refine mV (marks_any _) fun w3 j3c => ?_
    have ix7 : ∀ w, (Instr.index 257 (.agg #[.string ⟨#[]⟩, .string ⟨#[114, 50]⟩, .string ⟨#[114, 51]⟩, .string ⟨#[114, 54]⟩]) (.int .i64 0)).run Tryz.prog w = .ok (.string ⟨#[]⟩) w := fun _ => by kernel_rfl
    go_wp2_with fail
    clear ix7
    have jm1 := tt (tt (tt j1 j1c) j2c) j3c
    replace HBw := kU HBw jm1
    have jm2 := tt j2c j3c
    replace HX1 := kV jm2 HX1
    go_roundw
    case rel => exact ⟨1, 1, _, by omega, by omega, by go_num, rfl, HS2, HX1, HBw⟩
    case measure => simp [intOf]
  ·obtain rfl : z = 1 := by omega
   clear hz hk
   have hp : partN x 1 = x.b := rfl
   by_cases hq : x.b = 0
   ·have HZ := h0d hq
    have HS1 : Hid (S = ⟨(txtN x 2).toArray⟩) := by show _ = _; rw [txt_skip (show partN x 1 = 0 from hq)]; exact HS.out
    clear hp hq
    have ix1 : ∀ w, (Instr.index 255 (.agg #[.bool g1a, .slice A1a k1a c1a, .slice B1a m1a d1a, .bool g1b, .slice A1b k1b c1b, .slice B1b m1b d1b, .bool g1c, .slice A1c k1c c1c, .slice B1c m1c d1c, .bool g1d, .slice A1d k1d c1d, .slice B1d m1d d1d]) (.int .i64 1)).run Tryz.prog w = .ok (.agg #[.bool g1b, .slice A1b k1b c1b, .slice B1b m1b d1b]) w := fun _ => by kernel_rfl
    obtain ⟨W2, HW2, HB3, s2w, j1⟩ := st_al0 wr #[.bool g1b, .slice A1b k1b c1b, .slice B1b m1b d1b] 32
    have l3b : Hid (w.heap.size ≤ wr.heap.size) := by show _ ≤ _; have hlt := HBw.out.size; omega
    go_wp2_with fail
    rw [← HW2.out]
    clear ix1
    replace HX1 := kV j1 HX1
    refine mV (zero_yes _ (x.b) _ HX1.out.q1 HZ.out) fun w1 j1c => ?_
    go_wp2_with fail
    have jm1 := tt j1 j1c
    replace HBw := kU HBw jm1
    replace HX1 := kV j1c HX1
    go_roundw
    case rel => exact ⟨2, 2, _, by omega, by omega, by go_num, rfl, HS1, HX1, HBw⟩
    case measure => simp [intOf]
   ·have HZ := h0d hq
    obtain ⟨R, hR⟩ : ∃ R : ByteArray, R = ⟨(ratS (x.b)).toArray⟩ := ⟨_, rfl⟩
    have HRT : Hid (∀ w' {u : Value}, RdQ w' u (x.b) → Calls Tryz.prog 90 #[u] w' fun e w'' => e = .returned (.string R) ∧ Below w'.heap.size w' w'') := fun w' u hu => by
     have := rtext_any u (x.b) w' hu (QS.up (HQS.out 1) (by omega))
     unfold strV at this
     rwa [← hR] at this
    obtain ⟨RM, hRM⟩ : ∃ R : ByteArray, R = ⟨(ratS (x.b) ++ markL 1).toArray⟩ := ⟨_, rfl⟩
    have hl := HLN.out 1
    have hl2 := HRL.out 1
    have hm : (markL 1).length ≤ 2 := by decide
    have ha1 : ∀ w', (Op.stringOp .add R ⟨#[114, 50]⟩).run Tryz.prog w' = .ok (.string RM) w' := fun w' => by rw [hR]; exact add_str (ratS (x.b)) [114, 50] (by rw [← hp]; omega) (by decide) RM hRM w'
    by_cases htn : txtN x 1 = []
    ·have hSe : S = ⟨#[]⟩ := by rw [HS.out, htn]
     subst hSe
     obtain ⟨S2, hS2⟩ : ∃ S2 : ByteArray, S2 = ⟨(txtN x 1 ++ (ratS (x.b) ++ markL 1)).toArray⟩ := ⟨_, rfl⟩
     have ha2 : ∀ w', (Op.stringOp .add ⟨#[]⟩ RM).run Tryz.prog w' = .ok (.string S2) w' := fun w' => by rw [show (⟨#[]⟩ : ByteArray) = ⟨(txtN x 1).toArray⟩ by rw [htn], hRM]; exact add_str _ _ (by first | omega | (simp only [List.length_append, List.length_cons, List.length_nil]; omega)) (by rw [List.length_append, ← hp]; omega) S2 hS2 w'
     have HS2 : Hid (S2 = ⟨(txtN x 2).toArray⟩) := by show _ = _; rw [hS2, txt_first (show partN x 1 ≠ 0 from hq) htn]; rfl
     clear hp hq hR hRM hl hl2 hm hS2 htn
     have ix1 : ∀ w, (Instr.index 255 (.agg #[.bool g1a, .slice A1a k1a c1a, .slice B1a m1a d1a, .bool g1b, .slice A1b k1b c1b, .slice B1b m1b d1b, .bool g1c, .slice A1c k1c c1c, .slice B1c m1c d1c, .bool g1d, .slice A1d k1d c1d, .slice B1d m1d d1d]) (.int .i64 1)).run Tryz.prog w = .ok (.agg #[.bool g1b, .slice A1b k1b c1b, .slice B1b m1b d1b]) w := fun _ => by kernel_rfl
     obtain ⟨W2, HW2, HB3, s2w, j1⟩ := st_al0 wr #[.bool g1b, .slice A1b k1b c1b, .slice B1b m1b d1b] 32
     have l3b : Hid (w.heap.size ≤ wr.heap.size) := by show _ ≤ _; have hlt := HBw.out.size; omega
     go_wp2_with fail
     rw [← HW2.out]
     clear ix1
     replace HX1 := kV j1 HX1
     refine mV (zero_no _ (x.b) _ HX1.out.q1 HZ.out) fun w1 j1c => ?_
     replace HB3 := kB HB3 j1c
     have c4 := kC HB3 0 rfl
     have c5 := kC HB3 1 rfl
     have c6 := kC HB3 2 rfl
     go_wp2_with fail
     clear c4 c5 c6
     replace HX1 := kV j1c HX1
     refine mV (HRT.out _ HX1.out.q1) fun w2 j2c => ?_
     go_wp2_with fail
     refine mV (marks_any _) fun w3 j3c => ?_
     have ix7 : ∀ w, (Instr.index 257 (.agg #[.string ⟨#[]⟩, .string ⟨#[114, 50]⟩, .string ⟨#[114, 51]⟩, .string ⟨#[114, 54]⟩]) (.int .i64 1)).run Tryz.prog w = .ok (.string ⟨#[114, 50]⟩) w := fun _ => by kernel_rfl
     go_wp2_with fail
     clear ix7
     have jm1 := tt (tt (tt j1 j1c) j2c) j3c
     replace HBw := kU HBw jm1
     have jm2 := tt j2c j3c
     replace HX1 := kV jm2 HX1
     go_roundw
     case rel => exact ⟨2, 2, _, by omega, by omega, by go_num, rfl, HS2, HX1, HBw⟩
     case measure => simp [intOf]
    ·have hne := str_some (txtN x 1) htn
     rw [← HS.out] at hne
     rcases tri_rat (x.b) hq with hpos | hneg
     ·have HSG : Hid (Int.sign (x.b).num = 1) := (num_sign _).1.2 hpos
      obtain ⟨SP, hSP⟩ : ∃ S2 : ByteArray, S2 = ⟨(txtN x 1 ++ [43]).toArray⟩ := ⟨_, rfl⟩
      have ha0 : ∀ w', (Op.stringOp .add S ⟨#[43]⟩).run Tryz.prog w' = .ok (.string SP) w' := fun w' => by rw [HS.out]; exact add_str _ [43] (by omega) (by decide) SP hSP w'
      obtain ⟨S2, hS2⟩ : ∃ S2 : ByteArray, S2 = ⟨((txtN x 1 ++ [43]) ++ (ratS (x.b) ++ markL 1)).toArray⟩ := ⟨_, rfl⟩
      have ha2 : ∀ w', (Op.stringOp .add SP RM).run Tryz.prog w' = .ok (.string S2) w' := fun w' => by rw [hSP, hRM]; exact add_str _ _ (by first | omega | (simp only [List.length_append, List.length_cons, List.length_nil]; omega)) (by rw [List.length_append, ← hp]; omega) S2 hS2 w'
      have HS2 : Hid (S2 = ⟨(txtN x 2).toArray⟩) := by show _ = _; rw [hS2, txt_pos (show 0 < partN x 1 from hpos) htn]; rfl
      clear hp hq hR hRM hl hl2 hm hS2 htn hSP hpos
      have ix1 : ∀ w, (Instr.index 255 (.agg #[.bool g1a, .slice A1a k1a c1a, .slice B1a m1a d1a, .bool g1b, .slice A1b k1b c1b, .slice B1b m1b d1b, .bool g1c, .slice A1c k1c c1c, .slice B1c m1c d1c, .bool g1d, .slice A1d k1d c1d, .slice B1d m1d d1d]) (.int .i64 1)).run Tryz.prog w = .ok (.agg #[.bool g1b, .slice A1b k1b c1b, .slice B1b m1b d1b]) w := fun _ => by kernel_rfl
      obtain ⟨W2, HW2, HB3, s2w, j1⟩ := st_al0 wr #[.bool g1b, .slice A1b k1b c1b, .slice B1b m1b d1b] 32
      have l3b : Hid (w.heap.size ≤ wr.heap.size) := by show _ ≤ _; have hlt := HBw.out.size; omega
      go_wp2_with fail
      rw [← HW2.out]
      clear ix1
      replace HX1 := kV j1 HX1
      refine mV (zero_no _ (x.b) _ HX1.out.q1 HZ.out) fun w1 j1c => ?_
      replace HB3 := kB HB3 j1c
      have c4 := kC HB3 0 rfl
      have c5 := kC HB3 1 rfl
      have c6 := kC HB3 2 rfl
      go_wp2_with fail
      clear c4 c5 c6
      replace HX1 := kV j1c HX1
      refine mV (sign_is _ (x.b) 1 _ HX1.out.q1 HSG.out) fun w2 j2c => ?_
      replace HB3 := kB HB3 j2c
      have c7 := kC HB3 0 rfl
      have c8 := kC HB3 1 rfl
      have c9 := kC HB3 2 rfl
      go_wp2_with fail
      clear c7 c8 c9
      replace HX1 := kV j2c HX1
      refine mV (HRT.out _ HX1.out.q1) fun w3 j3c => ?_
      go_wp2_with fail
      refine mV (marks_any _) fun w4 j4c => ?_
      have ix10 : ∀ w, (Instr.index 257 (.agg #[.string ⟨#[]⟩, .string ⟨#[114, 50]⟩, .string ⟨#[114, 51]⟩, .string ⟨#[114, 54]⟩]) (.int .i64 1)).run Tryz.prog w = .ok (.string ⟨#[114, 50]⟩) w := fun _ => by kernel_rfl
      go_wp2_with fail
      clear ix10
      have jm1 := tt (tt (tt (tt j1 j1c) j2c) j3c) j4c
      replace HBw := kU HBw jm1
      have jm2 := tt j3c j4c
      replace HX1 := kV jm2 HX1
      go_roundw
      case rel => exact ⟨2, 2, _, by omega, by omega, by go_num, rfl, HS2, HX1, HBw⟩
      case measure => simp [intOf]
     ·have HSG : Hid (Int.sign (x.b).num = -1) := (num_sign _).2.2.2 hneg
      obtain ⟨S2, hS2⟩ : ∃ S2 : ByteArray, S2 = ⟨(txtN x 1 ++ (ratS (x.b) ++ markL 1)).toArray⟩ := ⟨_, rfl⟩
      have ha2 : ∀ w', (Op.stringOp .add S RM).run Tryz.prog w' = .ok (.string S2) w' := fun w' => by rw [HS.out, hRM]; exact add_str _ _ (by first | omega | (simp only [List.length_append, List.length_cons, List.length_nil]; omega)) (by rw [List.length_append, ← hp]; omega) S2 hS2 w'
      have HS2 : Hid (S2 = ⟨(txtN x 2).toArray⟩) := by show _ = _; rw [hS2, txt_neg (show partN x 1 < 0 from hneg)]; rfl
      clear hp hq hR hRM hl hl2 hm hS2 htn hneg
      have ix1 : ∀ w, (Instr.index 255 (.agg #[.bool g1a, .slice A1a k1a c1a, .slice B1a m1a d1a, .bool g1b, .slice A1b k1b c1b, .slice B1b m1b d1b, .bool g1c, .slice A1c k1c c1c, .slice B1c m1c d1c, .bool g1d, .slice A1d k1d c1d, .slice B1d m1d d1d]) (.int .i64 1)).run Tryz.prog w = .ok (.agg #[.bool g1b, .slice A1b k1b c1b, .slice B1b m1b d1b]) w := fun _ => by kernel_rfl
      obtain ⟨W2, HW2, HB3, s2w, j1⟩ := st_al0 wr #[.bool g1b, .slice A1b k1b c1b, .slice B1b m1b d1b] 32
      have l3b : Hid (w.heap.size ≤ wr.heap.size) := by show _ ≤ _; have hlt := HBw.out.size; omega
      go_wp2_with fail
      rw [← HW2.out]
      clear ix1
      replace HX1 := kV j1 HX1
      refine mV (zero_no _ (x.b) _ HX1.out.q1 HZ.out) fun w1 j1c => ?_
      replace HB3 := kB HB3 j1c
      have c4 := kC HB3 0 rfl
      have c5 := kC HB3 1 rfl
      have c6 := kC HB3 2 rfl
      go_wp2_with fail
      clear c4 c5 c6
      replace HX1 := kV j1c HX1
      refine mV (sign_is _ (x.b) (-1) _ HX1.out.q1 HSG.out) fun w2 j2c => ?_
      replace HB3 := kB HB3 j2c
      have c7 := kC HB3 0 rfl
      have c8 := kC HB3 1 rfl
      have c9 := kC HB3 2 rfl
      go_wp2_with fail
      clear c7 c8 c9
      replace HX1 := kV j2c HX1
      refine mV (HRT.out _ HX1.out.q1) fun w3 j3c => ?_
      go_wp2_with fail
      refine mV (marks_any _) fun w4 j4c => ?_
      have ix10 : ∀ w, (Instr.index 257 (.agg #[.string ⟨#[]⟩, .string ⟨#[114, 50]⟩, .string ⟨#[114, 51]⟩, .string ⟨#[114, 54]⟩]) (.int .i64 1)).run Tryz.prog w = .ok (.string ⟨#[114, 50]⟩) w := fun _ => by kernel_rfl
      go_wp2_with fail
      clear ix10
      have jm1 := tt (tt (tt (tt j1 j1c) j2c) j3c) j4c
      replace HBw := kU HBw jm1
      have jm2 := tt j3c j4c
      replace HX1 := kV jm2 HX1
      go_roundw
      case rel => exact ⟨2, 2, _, by omega, by omega, by go_num, rfl, HS2, HX1, HBw⟩
      case measure => simp [intOf]
  ·obtain rfl : z = 2 := by omega
   clear hz hk
   have hp : partN x 2 = x.c := rfl
   by_cases hq : x.c = 0
   ·have HZ := h0d hq
    have HS1 : Hid (S = ⟨(txtN x 3).toArray⟩) := by show _ = _; rw [txt_skip (show partN x 2 = 0 from hq)]; exact HS.out
    clear hp hq
    have ix1 : ∀ w, (Instr.index 255 (.agg #[.bool g1a, .slice A1a k1a c1a, .slice B1a m1a d1a, .bool g1b, .slice A1b k1b c1b, .slice B1b m1b d1b, .bool g1c, .slice A1c k1c c1c, .slice B1c m1c d1c, .bool g1d, .slice A1d k1d c1d, .slice B1d m1d d1d]) (.int .i64 2)).run Tryz.prog w = .ok (.agg #[.bool g1c, .slice A1c k1c c1c, .slice B1c m1c d1c]) w := fun _ => by kernel_rfl
    obtain ⟨W2, HW2, HB3, s2w, j1⟩ := st_al0 wr #[.bool g1c, .slice A1c k1c c1c, .slice B1c m1c d1c] 32
    have l3b : Hid (w.heap.size ≤ wr.heap.size) := by show _ ≤ _; have hlt := HBw.out.size; omega
    go_wp2_with fail
    rw [← HW2.out]
    clear ix1
    replace HX1 := kV j1 HX1
    refine mV (zero_yes _ (x.c) _ HX1.out.q2 HZ.out) fun w1 j1c => ?_
    go_wp2_with fail
    have jm1 := tt j1 j1c
    replace HBw := kU HBw jm1
    replace HX1 := kV j1c HX1
    go_roundw
    case rel => exact ⟨3, 3, _, by omega, by omega, by go_num, rfl, HS1, HX1, HBw⟩
    case measure => simp [intOf]
   ·have HZ := h0d hq
    obtain ⟨R, hR⟩ : ∃ R : ByteArray, R = ⟨(ratS (x.c)).toArray⟩ := ⟨_, rfl⟩
    have HRT : Hid (∀ w' {u : Value}, RdQ w' u (x.c) → Calls Tryz.prog 90 #[u] w' fun e w'' => e = .returned (.string R) ∧ Below w'.heap.size w' w'') := fun w' u hu => by
     have := rtext_any u (x.c) w' hu (QS.up (HQS.out 2) (by omega))
     unfold strV at this
     rwa [← hR] at this
    obtain ⟨RM, hRM⟩ : ∃ R : ByteArray, R = ⟨(ratS (x.c) ++ markL 2).toArray⟩ := ⟨_, rfl⟩
    have hl := HLN.out 2
    have hl2 := HRL.out 2
    have hm : (markL 2).length ≤ 2 := by decide
    have ha1 : ∀ w', (Op.stringOp .add R ⟨#[114, 51]⟩).run Tryz.prog w' = .ok (.string RM) w' := fun w' => by rw [hR]; exact add_str (ratS (x.c)) [114, 51] (by rw [← hp]; omega) (by decide) RM hRM w'
    by_cases htn : txtN x 2 = []
    ·have hSe : S = ⟨#[]⟩ := by rw [HS.out, htn]
     subst hSe
     obtain ⟨S2, hS2⟩ : ∃ S2 : ByteArray, S2 = ⟨(txtN x 2 ++ (ratS (x.c) ++ markL 2)).toArray⟩ := ⟨_, rfl⟩
     have ha2 : ∀ w', (Op.stringOp .add ⟨#[]⟩ RM).run Tryz.prog w' = .ok (.string S2) w' := fun w' => by rw [show (⟨#[]⟩ : ByteArray) = ⟨(txtN x 2).toArray⟩ by rw [htn], hRM]; exact add_str _ _ (by first | omega | (simp only [List.length_append, List.length_cons, List.length_nil]; omega)) (by rw [List.length_append, ← hp]; omega) S2 hS2 w'
     have HS2 : Hid (S2 = ⟨(txtN x 3).toArray⟩) := by show _ = _; rw [hS2, txt_first (show partN x 2 ≠ 0 from hq) htn]; rfl
     clear hp hq hR hRM hl hl2 hm hS2 htn
     have ix1 : ∀ w, (Instr.index 255 (.agg #[.bool g1a, .slice A1a k1a c1a, .slice B1a m1a d1a, .bool g1b, .slice A1b k1b c1b, .slice B1b m1b d1b, .bool g1c, .slice A1c k1c c1c, .slice B1c m1c d1c, .bool g1d, .slice A1d k1d c1d, .slice B1d m1d d1d]) (.int .i64 2)).run Tryz.prog w = .ok (.agg #[.bool g1c, .slice A1c k1c c1c, .slice B1c m1c d1c]) w := fun _ => by kernel_rfl
     obtain ⟨W2, HW2, HB3, s2w, j1⟩ := st_al0 wr #[.bool g1c, .slice A1c k1c c1c, .slice B1c m1c d1c] 32
     have l3b : Hid (w.heap.size ≤ wr.heap.size) := by show _ ≤ _; have hlt := HBw.out.size; omega
     go_wp2_with fail
     rw [← HW2.out]
     clear ix1
     replace HX1 := kV j1 HX1
     refine mV (zero_no _ (x.c) _ HX1.out.q2 HZ.out) fun w1 j1c => ?_
     replace HB3 := kB HB3 j1c
     have c4 := kC HB3 0 rfl
     have c5 := kC HB3 1 rfl
     have c6 := kC HB3 2 rfl
     go_wp2_with fail
     clear c4 c5 c6
     replace HX1 := kV j1c HX1
     refine mV (HRT.out _ HX1.out.q2) fun w2 j2c => ?_
     go_wp2_with fail
     refine mV (marks_any _) fun w3 j3c => ?_
     have ix7 : ∀ w, (Instr.index 257 (.agg #[.string ⟨#[]⟩, .string ⟨#[114, 50]⟩, .string ⟨#[114, 51]⟩, .string ⟨#[114, 54]⟩]) (.int .i64 2)).run Tryz.prog w = .ok (.string ⟨#[114, 51]⟩) w := fun _ => by kernel_rfl
     go_wp2_with fail
     clear ix7
     have jm1 := tt (tt (tt j1 j1c) j2c) j3c
     replace HBw := kU HBw jm1
     have jm2 := tt j2c j3c
     replace HX1 := kV jm2 HX1
     go_roundw
     case rel => exact ⟨3, 3, _, by omega, by omega, by go_num, rfl, HS2, HX1, HBw⟩
     case measure => simp [intOf]
    ·have hne := str_some (txtN x 2) htn
     rw [← HS.out] at hne
     rcases tri_rat (x.c) hq with hpos | hneg
     ·have HSG : Hid (Int.sign (x.c).num = 1) := (num_sign _).1.2 hpos
      obtain ⟨SP, hSP⟩ : ∃ S2 : ByteArray, S2 = ⟨(txtN x 2 ++ [43]).toArray⟩ := ⟨_, rfl⟩
      have ha0 : ∀ w', (Op.stringOp .add S ⟨#[43]⟩).run Tryz.prog w' = .ok (.string SP) w' := fun w' => by rw [HS.out]; exact add_str _ [43] (by omega) (by decide) SP hSP w'
      obtain ⟨S2, hS2⟩ : ∃ S2 : ByteArray, S2 = ⟨((txtN x 2 ++ [43]) ++ (ratS (x.c) ++ markL 2)).toArray⟩ := ⟨_, rfl⟩
      have ha2 : ∀ w', (Op.stringOp .add SP RM).run Tryz.prog w' = .ok (.string S2) w' := fun w' => by rw [hSP, hRM]; exact add_str _ _ (by first | omega | (simp only [List.length_append, List.length_cons, List.length_nil]; omega)) (by rw [List.length_append, ← hp]; omega) S2 hS2 w'
      have HS2 : Hid (S2 = ⟨(txtN x 3).toArray⟩) := by show _ = _; rw [hS2, txt_pos (show 0 < partN x 2 from hpos) htn]; rfl
      clear hp hq hR hRM hl hl2 hm hS2 htn hSP hpos
      have ix1 : ∀ w, (Instr.index 255 (.agg #[.bool g1a, .slice A1a k1a c1a, .slice B1a m1a d1a, .bool g1b, .slice A1b k1b c1b, .slice B1b m1b d1b, .bool g1c, .slice A1c k1c c1c, .slice B1c m1c d1c, .bool g1d, .slice A1d k1d c1d, .slice B1d m1d d1d]) (.int .i64 2)).run Tryz.prog w = .ok (.agg #[.bool g1c, .slice A1c k1c c1c, .slice B1c m1c d1c]) w := fun _ => by kernel_rfl
      obtain ⟨W2, HW2, HB3, s2w, j1⟩ := st_al0 wr #[.bool g1c, .slice A1c k1c c1c, .slice B1c m1c d1c] 32
      have l3b : Hid (w.heap.size ≤ wr.heap.size) := by show _ ≤ _; have hlt := HBw.out.size; omega
      go_wp2_with fail
      rw [← HW2.out]
      clear ix1
      replace HX1 := kV j1 HX1
      refine mV (zero_no _ (x.c) _ HX1.out.q2 HZ.out) fun w1 j1c => ?_
      replace HB3 := kB HB3 j1c
      have c4 := kC HB3 0 rfl
      have c5 := kC HB3 1 rfl
      have c6 := kC HB3 2 rfl
      go_wp2_with fail
      clear c4 c5 c6
      replace HX1 := kV j1c HX1
      refine mV (sign_is _ (x.c) 1 _ HX1.out.q2 HSG.out) fun w2 j2c => ?_
      replace HB3 := kB HB3 j2c
      have c7 := kC HB3 0 rfl
      have c8 := kC HB3 1 rfl
      have c9 := kC HB3 2 rfl
      go_wp2_with fail
      clear c7 c8 c9
      replace HX1 := kV j2c HX1
      refine mV (HRT.out _ HX1.out.q2) fun w3 j3c => ?_
      go_wp2_with fail
      refine mV (marks_any _) fun w4 j4c => ?_
      have ix10 : ∀ w, (Instr.index 257 (.agg #[.string ⟨#[]⟩, .string ⟨#[114, 50]⟩, .string ⟨#[114, 51]⟩, .string ⟨#[114, 54]⟩]) (.int .i64 2)).run Tryz.prog w = .ok (.string ⟨#[114, 51]⟩) w := fun _ => by kernel_rfl
      go_wp2_with fail
      clear ix10
      have jm1 := tt (tt (tt (tt j1 j1c) j2c) j3c) j4c
      replace HBw := kU HBw jm1
      have jm2 := tt j3c j4c
      replace HX1 := kV jm2 HX1
      go_roundw
      case rel => exact ⟨3, 3, _, by omega, by omega, by go_num, rfl, HS2, HX1, HBw⟩
      case measure => simp [intOf]
     ·have HSG : Hid (Int.sign (x.c).num = -1) := (num_sign _).2.2.2 hneg
      obtain ⟨S2, hS2⟩ : ∃ S2 : ByteArray, S2 = ⟨(txtN x 2 ++ (ratS (x.c) ++ markL 2)).toArray⟩ := ⟨_, rfl⟩
      have ha2 : ∀ w', (Op.stringOp .add S RM).run Tryz.prog w' = .ok (.string S2) w' := fun w' => by rw [HS.out, hRM]; exact add_str _ _ (by first | omega | (simp only [List.length_append, List.length_cons, List.length_nil]; omega)) (by rw [List.length_append, ← hp]; omega) S2 hS2 w'
      have HS2 : Hid (S2 = ⟨(txtN x 3).toArray⟩) := by show _ = _; rw [hS2, txt_neg (show partN x 2 < 0 from hneg)]; rfl
      clear hp hq hR hRM hl hl2 hm hS2 htn hneg
      have ix1 : ∀ w, (Instr.index 255 (.agg #[.bool g1a, .slice A1a k1a c1a, .slice B1a m1a d1a, .bool g1b, .slice A1b k1b c1b, .slice B1b m1b d1b, .bool g1c, .slice A1c k1c c1c, .slice B1c m1c d1c, .bool g1d, .slice A1d k1d c1d, .slice B1d m1d d1d]) (.int .i64 2)).run Tryz.prog w = .ok (.agg #[.bool g1c, .slice A1c k1c c1c, .slice B1c m1c d1c]) w := fun _ => by kernel_rfl
      obtain ⟨W2, HW2, HB3, s2w, j1⟩ := st_al0 wr #[.bool g1c, .slice A1c k1c c1c, .slice B1c m1c d1c] 32
      have l3b : Hid (w.heap.size ≤ wr.heap.size) := by show _ ≤ _; have hlt := HBw.out.size; omega
      go_wp2_with fail
      rw [← HW2.out]
      clear ix1
      replace HX1 := kV j1 HX1
      refine mV (zero_no _ (x.c) _ HX1.out.q2 HZ.out) fun w1 j1c => ?_
      replace HB3 := kB HB3 j1c
      have c4 := kC HB3 0 rfl
      have c5 := kC HB3 1 rfl
      have c6 := kC HB3 2 rfl
      go_wp2_with fail
      clear c4 c5 c6
      replace HX1 := kV j1c HX1
      refine mV (sign_is _ (x.c) (-1) _ HX1.out.q2 HSG.out) fun w2 j2c => ?_
      replace HB3 := kB HB3 j2c
      have c7 := kC HB3 0 rfl
      have c8 := kC HB3 1 rfl
      have c9 := kC HB3 2 rfl
      go_wp2_with fail
      clear c7 c8 c9
      replace HX1 := kV j2c HX1
      refine mV (HRT.out _ HX1.out.q2) fun w3 j3c => ?_
      go_wp2_with fail
      refine mV (marks_any _) fun w4 j4c => ?_
      have ix10 : ∀ w, (Instr.index 257 (.agg #[.string ⟨#[]⟩, .string ⟨#[114, 50]⟩, .string ⟨#[114, 51]⟩, .string ⟨#[114, 54]⟩]) (.int .i64 2)).run Tryz.prog w = .ok (.string ⟨#[114, 51]⟩) w := fun _ => by kernel_rfl
      go_wp2_with fail
      clear ix10
      have jm1 := tt (tt (tt (tt j1 j1c) j2c) j3c) j4c
      replace HBw := kU HBw jm1
      have jm2 := tt j3c j4c
      replace HX1 := kV jm2 HX1
      go_roundw
      case rel => exact ⟨3, 3, _, by omega, by omega, by go_num, rfl, HS2, HX1, HBw⟩
      case measure => simp [intOf]
  ·obtain rfl : z = 3 := by omega
   clear hz hk
   have hp : partN x 3 = x.e := rfl
   by_cases hq : x.e = 0
   ·have HZ := h0d hq
    have HS1 : Hid (S = ⟨(txtN x 4).toArray⟩) := by show _ = _; rw [txt_skip (show partN x 3 = 0 from hq)]; exact HS.out
    clear hp hq
    have ix1 : ∀ w, (Instr.index 255 (.agg #[.bool g1a, .slice A1a k1a c1a, .slice B1a m1a d1a, .bool g1b, .slice A1b k1b c1b, .slice B1b m1b d1b, .bool g1c, .slice A1c k1c c1c, .slice B1c m1c d1c, .bool g1d, .slice A1d k1d c1d, .slice B1d m1d d1d]) (.int .i64 3)).run Tryz.prog w = .ok (.agg #[.bool g1d, .slice A1d k1d c1d, .slice B1d m1d d1d]) w := fun _ => by kernel_rfl
    obtain ⟨W2, HW2, HB3, s2w, j1⟩ := st_al0 wr #[.bool g1d, .slice A1d k1d c1d, .slice B1d m1d d1d] 32
    have l3b : Hid (w.heap.size ≤ wr.heap.size) := by show _ ≤ _; have hlt := HBw.out.size; omega
    go_wp2_with fail
    rw [← HW2.out]
    clear ix1
    replace HX1 := kV j1 HX1
    refine mV (zero_yes _ (x.e) _ HX1.out.q3 HZ.out) fun w1 j1c => ?_
    go_wp2_with fail
    have jm1 := tt j1 j1c
    replace HBw := kU HBw jm1
    replace HX1 := kV j1c HX1
    go_roundw
    case rel => exact ⟨4, 4, _, by omega, by omega, by go_num, rfl, HS1, HX1, HBw⟩
    case measure => simp [intOf]
   ·have HZ := h0d hq
    obtain ⟨R, hR⟩ : ∃ R : ByteArray, R = ⟨(ratS (x.e)).toArray⟩ := ⟨_, rfl⟩
    have HRT : Hid (∀ w' {u : Value}, RdQ w' u (x.e) → Calls Tryz.prog 90 #[u] w' fun e w'' => e = .returned (.string R) ∧ Below w'.heap.size w' w'') := fun w' u hu => by
     have := rtext_any u (x.e) w' hu (QS.up (HQS.out 3) (by omega))
     unfold strV at this
     rwa [← hR] at this
    obtain ⟨RM, hRM⟩ : ∃ R : ByteArray, R = ⟨(ratS (x.e) ++ markL 3).toArray⟩ := ⟨_, rfl⟩
    have hl := HLN.out 3
    have hl2 := HRL.out 3
    have hm : (markL 3).length ≤ 2 := by decide
    have ha1 : ∀ w', (Op.stringOp .add R ⟨#[114, 54]⟩).run Tryz.prog w' = .ok (.string RM) w' := fun w' => by rw [hR]; exact add_str (ratS (x.e)) [114, 54] (by rw [← hp]; omega) (by decide) RM hRM w'
    by_cases htn : txtN x 3 = []
    ·have hSe : S = ⟨#[]⟩ := by rw [HS.out, htn]
     subst hSe
     obtain ⟨S2, hS2⟩ : ∃ S2 : ByteArray, S2 = ⟨(txtN x 3 ++ (ratS (x.e) ++ markL 3)).toArray⟩ := ⟨_, rfl⟩
     have ha2 : ∀ w', (Op.stringOp .add ⟨#[]⟩ RM).run Tryz.prog w' = .ok (.string S2) w' := fun w' => by rw [show (⟨#[]⟩ : ByteArray) = ⟨(txtN x 3).toArray⟩ by rw [htn], hRM]; exact add_str _ _ (by first | omega | (simp only [List.length_append, List.length_cons, List.length_nil]; omega)) (by rw [List.length_append, ← hp]; omega) S2 hS2 w'
     have HS2 : Hid (S2 = ⟨(txtN x 4).toArray⟩) := by show _ = _; rw [hS2, txt_first (show partN x 3 ≠ 0 from hq) htn]; rfl
     clear hp hq hR hRM hl hl2 hm hS2 htn
     have ix1 : ∀ w, (Instr.index 255 (.agg #[.bool g1a, .slice A1a k1a c1a, .slice B1a m1a d1a, .bool g1b, .slice A1b k1b c1b, .slice B1b m1b d1b, .bool g1c, .slice A1c k1c c1c, .slice B1c m1c d1c, .bool g1d, .slice A1d k1d c1d, .slice B1d m1d d1d]) (.int .i64 3)).run Tryz.prog w = .ok (.agg #[.bool g1d, .slice A1d k1d c1d, .slice B1d m1d d1d]) w := fun _ => by kernel_rfl
     obtain ⟨W2, HW2, HB3, s2w, j1⟩ := st_al0 wr #[.bool g1d, .slice A1d k1d c1d, .slice B1d m1d d1d] 32
     have l3b : Hid (w.heap.size ≤ wr.heap.size) := by show _ ≤ _; have hlt := HBw.out.size; omega
     go_wp2_with fail
     rw [← HW2.out]
     clear ix1
     replace HX1 := kV j1 HX1
     refine mV (zero_no _ (x.e) _ HX1.out.q3 HZ.out) fun w1 j1c => ?_
     replace HB3 := kB HB3 j1c
     have c4 := kC HB3 0 rfl
     have c5 := kC HB3 1 rfl
     have c6 := kC HB3 2 rfl
     go_wp2_with fail
     clear c4 c5 c6
     replace HX1 := kV j1c HX1
     refine mV (HRT.out _ HX1.out.q3) fun w2 j2c => ?_
     go_wp2_with fail
     refine mV (marks_any _) fun w3 j3c => ?_
     have ix7 : ∀ w, (Instr.index 257 (.agg #[.string ⟨#[]⟩, .string ⟨#[114, 50]⟩, .string ⟨#[114, 51]⟩, .string ⟨#[114, 54]⟩]) (.int .i64 3)).run Tryz.prog w = .ok (.string ⟨#[114, 54]⟩) w := fun _ => by kernel_rfl
     go_wp2_with fail
     clear ix7
     have jm1 := tt (tt (tt j1 j1c) j2c) j3c
     replace HBw := kU HBw jm1
     have jm2 := tt j2c j3c
     replace HX1 := kV jm2 HX1
     go_roundw
     case rel => exact ⟨4, 4, _, by omega, by omega, by go_num, rfl, HS2, HX1, HBw⟩
     case measure => simp [intOf]
    ·have hne := str_some (txtN x 3) htn
     rw [← HS.out] at hne
     rcases tri_rat (x.e) hq with hpos | hneg
     ·have HSG : Hid (Int.sign (x.e).num = 1) := (num_sign _).1.2 hpos
      obtain ⟨SP, hSP⟩ : ∃ S2 : ByteArray, S2 = ⟨(txtN x 3 ++ [43]).toArray⟩ := ⟨_, rfl⟩
      have ha0 : ∀ w', (Op.stringOp .add S ⟨#[43]⟩).run Tryz.prog w' = .ok (.string SP) w' := fun w' => by rw [HS.out]; exact add_str _ [43] (by omega) (by decide) SP hSP w'
      obtain ⟨S2, hS2⟩ : ∃ S2 : ByteArray, S2 = ⟨((txtN x 3 ++ [43]) ++ (ratS (x.e) ++ markL 3)).toArray⟩ := ⟨_, rfl⟩
      have ha2 : ∀ w', (Op.stringOp .add SP RM).run Tryz.prog w' = .ok (.string S2) w' := fun w' => by rw [hSP, hRM]; exact add_str _ _ (by first | omega | (simp only [List.length_append, List.length_cons, List.length_nil]; omega)) (by rw [List.length_append, ← hp]; omega) S2 hS2 w'
      have HS2 : Hid (S2 = ⟨(txtN x 4).toArray⟩) := by show _ = _; rw [hS2, txt_pos (show 0 < partN x 3 from hpos) htn]; rfl
      clear hp hq hR hRM hl hl2 hm hS2 htn hSP hpos
      have ix1 : ∀ w, (Instr.index 255 (.agg #[.bool g1a, .slice A1a k1a c1a, .slice B1a m1a d1a, .bool g1b, .slice A1b k1b c1b, .slice B1b m1b d1b, .bool g1c, .slice A1c k1c c1c, .slice B1c m1c d1c, .bool g1d, .slice A1d k1d c1d, .slice B1d m1d d1d]) (.int .i64 3)).run Tryz.prog w = .ok (.agg #[.bool g1d, .slice A1d k1d c1d, .slice B1d m1d d1d]) w := fun _ => by kernel_rfl
      obtain ⟨W2, HW2, HB3, s2w, j1⟩ := st_al0 wr #[.bool g1d, .slice A1d k1d c1d, .slice B1d m1d d1d] 32
      have l3b : Hid (w.heap.size ≤ wr.heap.size) := by show _ ≤ _; have hlt := HBw.out.size; omega
      go_wp2_with fail
      rw [← HW2.out]
      clear ix1
      replace HX1 := kV j1 HX1
      refine mV (zero_no _ (x.e) _ HX1.out.q3 HZ.out) fun w1 j1c => ?_
      replace HB3 := kB HB3 j1c
      have c4 := kC HB3 0 rfl
      have c5 := kC HB3 1 rfl
      have c6 := kC HB3 2 rfl
      go_wp2_with fail
      clear c4 c5 c6
      replace HX1 := kV j1c HX1
      refine mV (sign_is _ (x.e) 1 _ HX1.out.q3 HSG.out) fun w2 j2c => ?_
      replace HB3 := kB HB3 j2c
      have c7 := kC HB3 0 rfl
      have c8 := kC HB3 1 rfl
      have c9 := kC HB3 2 rfl
      go_wp2_with fail
      clear c7 c8 c9
      replace HX1 := kV j2c HX1
      refine mV (HRT.out _ HX1.out.q3) fun w3 j3c => ?_
      go_wp2_with fail
      refine mV (marks_any _) fun w4 j4c => ?_
      have ix10 : ∀ w, (Instr.index 257 (.agg #[.string ⟨#[]⟩, .string ⟨#[114, 50]⟩, .string ⟨#[114, 51]⟩, .string ⟨#[114, 54]⟩]) (.int .i64 3)).run Tryz.prog w = .ok (.string ⟨#[114, 54]⟩) w := fun _ => by kernel_rfl
      go_wp2_with fail
      clear ix10
      have jm1 := tt (tt (tt (tt j1 j1c) j2c) j3c) j4c
      replace HBw := kU HBw jm1
      have jm2 := tt j3c j4c
      replace HX1 := kV jm2 HX1
      go_roundw
      case rel => exact ⟨4, 4, _, by omega, by omega, by go_num, rfl, HS2, HX1, HBw⟩
      case measure => simp [intOf]
     ·have HSG : Hid (Int.sign (x.e).num = -1) := (num_sign _).2.2.2 hneg
      obtain ⟨S2, hS2⟩ : ∃ S2 : ByteArray, S2 = ⟨(txtN x 3 ++ (ratS (x.e) ++ markL 3)).toArray⟩ := ⟨_, rfl⟩
      have ha2 : ∀ w', (Op.stringOp .add S RM).run Tryz.prog w' = .ok (.string S2) w' := fun w' => by rw [HS.out, hRM]; exact add_str _ _ (by first | omega | (simp only [List.length_append, List.length_cons, List.length_nil]; omega)) (by rw [List.length_append, ← hp]; omega) S2 hS2 w'
      have HS2 : Hid (S2 = ⟨(txtN x 4).toArray⟩) := by show _ = _; rw [hS2, txt_neg (show partN x 3 < 0 from hneg)]; rfl
      clear hp hq hR hRM hl hl2 hm hS2 htn hneg
      have ix1 : ∀ w, (Instr.index 255 (.agg #[.bool g1a, .slice A1a k1a c1a, .slice B1a m1a d1a, .bool g1b, .slice A1b k1b c1b, .slice B1b m1b d1b, .bool g1c, .slice A1c k1c c1c, .slice B1c m1c d1c, .bool g1d, .slice A1d k1d c1d, .slice B1d m1d d1d]) (.int .i64 3)).run Tryz.prog w = .ok (.agg #[.bool g1d, .slice A1d k1d c1d, .slice B1d m1d d1d]) w := fun _ => by kernel_rfl
      obtain ⟨W2, HW2, HB3, s2w, j1⟩ := st_al0 wr #[.bool g1d, .slice A1d k1d c1d, .slice B1d m1d d1d] 32
      have l3b : Hid (w.heap.size ≤ wr.heap.size) := by show _ ≤ _; have hlt := HBw.out.size; omega
      go_wp2_with fail
      rw [← HW2.out]
      clear ix1
      replace HX1 := kV j1 HX1
      refine mV (zero_no _ (x.e) _ HX1.out.q3 HZ.out) fun w1 j1c => ?_
      replace HB3 := kB HB3 j1c
      have c4 := kC HB3 0 rfl
      have c5 := kC HB3 1 rfl
      have c6 := kC HB3 2 rfl
      go_wp2_with fail
      clear c4 c5 c6
      replace HX1 := kV j1c HX1
      refine mV (sign_is _ (x.e) (-1) _ HX1.out.q3 HSG.out) fun w2 j2c => ?_
      replace HB3 := kB HB3 j2c
      have c7 := kC HB3 0 rfl
      have c8 := kC HB3 1 rfl
      have c9 := kC HB3 2 rfl
      go_wp2_with fail
      clear c7 c8 c9
      replace HX1 := kV j2c HX1
      refine mV (HRT.out _ HX1.out.q3) fun w3 j3c => ?_
      go_wp2_with fail
      refine mV (marks_any _) fun w4 j4c => ?_
      have ix10 : ∀ w, (Instr.index 257 (.agg #[.string ⟨#[]⟩, .string ⟨#[114, 50]⟩, .string ⟨#[114, 51]⟩, .string ⟨#[114, 54]⟩]) (.int .i64 3)).run Tryz.prog w = .ok (.string ⟨#[114, 54]⟩) w := fun _ => by kernel_rfl
      go_wp2_with fail
      clear ix10
      have jm1 := tt (tt (tt (tt j1 j1c) j2c) j3c) j4c
      replace HBw := kU HBw jm1
      have jm2 := tt j3c j4c
      replace HX1 := kV jm2 HX1
      go_roundw
      case rel => exact ⟨4, 4, _, by omega, by omega, by go_num, rfl, HS2, HX1, HBw⟩
      case measure => simp [intOf]
  ·obtain rfl : z = 4 := by omega
   clear hz hk
   by_cases ht : txtN x 4 = []
   ·have hSe : S = ⟨#[]⟩ := by rw [HS.out, ht]
    subst hSe
    have HE : Hid (strV (surS x) = .string ⟨#[48]⟩) := by show _ = _; unfold surS; rw [if_pos ht]; rfl
    clear ht
    go_wp2_with fail
    go_ret
    exact ⟨by rw [HE.out]; rfl, HBw.out⟩
   ·have hne := str_some (txtN x 4) ht
    have HE : Hid (strV (surS x) = .string S) := by show _ = _; unfold surS; rw [if_neg ht, HS.out]; rfl
    rw [← HS.out] at hne
    clear ht
    go_wp2_with fail
    go_ret
    exact ⟨by rw [HE.out]; rfl, HBw.out⟩
end Go.Proofs.YtodckaioeomccaaGreat
