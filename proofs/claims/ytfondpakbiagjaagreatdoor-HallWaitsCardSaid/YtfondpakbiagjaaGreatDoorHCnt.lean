/- The walk of Counts at three tyres. -/
import Derived.Test.YtfondpakbiagjaaGreatDoorHNum
namespace Go.Proofs.YtfondpakbiagjaaGreatDoor
open Go.RowKit Go.Lib
set_option linter.unusedVariables false
set_option linter.unusedSimpArgs false
set_option maxRecDepth 100000
set_option maxHeartbeats 4000000
def cntV (a b c d : Int) : List Value := [.int .i64 a, .int .i64 b, .int .i64 c, .int .i64 d, .int .i64 0, .int .i64 0, .int .i64 0, .int .i64 0, .int .i64 0]
def cnt3 : Nat → List Value
  | 0 => cntV 0 0 0 0
  | 1 => cntV 1 0 0 1
  | 2 => cntV 2 0 1 1
  | _ => cntV 3 1 1 1
def T3 : List TyD := [⟨1, 3⟩, ⟨2, 2⟩, ⟨3, 1⟩]
theorem counts_any (hb : Nat) (tv jv : Value) (J : List Int) (w : World) (h : HallIs w hb tv jv T3 J) :
    Calls Tryz.prog 96 #[.pointer (some ⟨hb, 0, none⟩)] w fun e w' => e = .returned (.agg (cntV 3 1 1 1).toArray) ∧ Below w.heap.size w w' := by
  obtain ⟨W1, HW1, HB1, HS1, j1⟩ := st_al0 w (cntV 0 0 0 0).toArray 174
  obtain ⟨W2, HW2, HB2, HS2, j2⟩ := st_alk 1 2 (cntV 0 0 0 0).toArray 174 HS1 rfl
  have HT := Lib.hid (tyres_any hb tv jv T3 J W2 ((h.stay j1).stay j2) (by decide))
  replace HB1 := kB HB1 j2
  have HJ := Lib.hid (tt j1 j2)
  have HBL : Hid (W2.heap.size = w.heap.size + 2) := HS2
  clear h j1 j2 HS1 HS2
  go_enter Tryz.func96, Tryz.ntmps96
  unfold cntV at HW1 HW2
  go_wp2_with fail
  rw [← HW1.out, ← HW2.out]
  refine HT.out.mono ?_
  rintro e w3 ⟨⟨v', rfl, hv'⟩, j3⟩
  replace HB1 := kB HB1 j3
  replace HB2 := kB HB2 j3
  replace HJ := kU HJ j3
  have HR : Hid (RdT w3 v' T3) := hv'.rd
  obtain ⟨A, cap, rfl⟩ := hv'.slice
  have HNB : Hid (∀ ad n c, (.slice A T3.length cap : Value) = .slice (some ad) n c → w.heap.size + 1 < ad.block) := fun ad n c e => by
    rw [e] at hv'
    have := hv'.block
    have := HBL.out
    omega
  obtain ⟨cb, hcb⟩ : ∃ q, q = w.heap.size + 1 := ⟨_, rfl⟩
  rw [← hcb] at HB2 HNB ⊢
  have HLE : Hid (w.heap.size ≤ cb) := by show _ ≤ _; omega
  have HNE : Hid (w.heap.size ≠ cb) := by show _ ≠ _; omega
  clear hv' j3 HT HW1 HW2 hcb HBL
  rw [show T3.length = 3 from rfl] at HNB HR ⊢
  go_wp2_with fail
  go_loopw [9] (fun iv wr => ∃ k : Nat, k ≤ 3 ∧ iv = .int .i64 (k : Int) ∧ Hid (wr.heap[cb]? = some (.cells (cnt3 k).toArray 174 (0, 0))) ∧ Hid (wr.heap[w.heap.size]? = some (.cells (cntV 0 0 0 0).toArray 174 (0, 0))) ∧ Hid (Below w.heap.size w wr) ∧ Hid (RdT wr (.slice A 3 cap) T3)) (fun iv _ => 3 - (RowKit.intOf iv).toNat)
  case atStart => exact ⟨0, Nat.zero_le _, rfl, HB2.out, HB1.out, HJ.out, HR.out⟩
  case round =>
    clear HB1 HB2 HJ HR
    obtain ⟨k, hk, rfl, HB2, HB1, HJ, HR⟩ := hrel
    rcases (by omega : k = 0 ∨ k = 1 ∨ k = 2 ∨ k = 3) with rfl | rfl | rfl | rfl
    · obtain ⟨A2, cap2, e2, -, hat⟩ := HR.out.at
      injection e2 with e1 e22 e3
      clear e22
      subst e1 e3
      obtain ⟨b, off, rfl, hb, hrg⟩ := hat 0 ⟨1, 3⟩ rfl
      obtain ⟨hth, W5, HW5, HB5, j5⟩ := box_new wr 184 (z := [.int .i64 0, .int .i64 0, .int .i64 0, .int .i64 0, .int .i64 0, .complex .f32 0 0, .complex .f32 0 0, .complex .f32 0 0, .complex .f32 0 0, .complex .f32 0 0, .complex .f32 0 0, .complex .f32 0 0, .complex .f32 0 0, .complex .f32 0 0, .complex .f32 0 0, .complex .f32 0 0, .complex .f32 0 0, .complex .f32 0 0]) (cs := tyC ⟨1, 3⟩) (n := 18) rfl rfl
      have HTH := Lib.hid hth
      have HC5 := kB (o := .cells (cntV 0 0 0 0).toArray 174 (0, 0)) HB2 j5
      replace HB1 := kB HB1 j5
      replace HJ := kU HJ j5
      have HR5 : Hid (RdT W5 (.slice (some ⟨b, off, none⟩) 3 cap) T3) := HR.out.below j5
      have HX : Hid (wr.heap.size ≠ cb) := Nat.ne_of_gt (klt HB2).out
      obtain ⟨W6, HW6⟩ : ∃ W, Hid (W = W5.setCell ⟨cb, 0, none⟩ (.int .i64 1)) := ⟨_, rfl⟩
      obtain ⟨W7, HW7⟩ : ∃ W, Hid (W = W6.setCell ⟨cb, 3, none⟩ (.int .i64 1)) := ⟨_, rfl⟩
      have HC6 := kP (cs := cntV 0 0 0 0) (ds := cntV 1 0 0 0) (kM1 HW6) HC5 rfl rfl
      have HC7 := kP (cs := cntV 1 0 0 0) (ds := cntV 1 0 0 1) (kM1 HW7) HC6 rfl rfl
      have e0 := kC (cs := cntV 0 0 0 0) HC5 0 rfl
      have f0 := kF HC5 0
      have e1 := kC (cs := cntV 1 0 0 0) HC6 3 rfl
      have f1 := kF HC6 3
      have d1 : W6.cell? ⟨wr.heap.size, 1, none⟩ = some (.int .i64 3) := kC (kO (kM1 HW6) HB5 HX.out) 1 rfl
      rw [HW6.out] at e1 f1 d1
      have HB7 := kO (kM1 HW7) (kO (kM1 HW6) HB1 HNE.out) HNE.out
      have HJ7 := kS (kM1 HW7) HLE (kS (kM1 HW6) HLE HJ)
      have HR7 : Hid (RdT W7 (.slice (some ⟨b, off, none⟩) 3 cap) T3) := by show RdT W7 (.slice (some ⟨b, off, none⟩) 3 cap) T3; rw [HW7.out, HW6.out]; exact (HR5.out.setOther HNB.out).setOther HNB.out
      clear hat hb hth j5 HB5 HR HB2 HC6 HC5 HR5 HB1 HJ HX
      go_wp2_with (first | (refine wpList_load_mid (by rfl) 184 _ (by rfl) b (off + 0 * 18) (by rfl) _ _ (by exact hrg) Tryz.underlying184 rfl (by kernel_rfl) ?_) | (refine smd 184 wr.heap.size 0 (ht := HTH) (h := ?_); rw [← HW5.out]))
      rw [← HW6.out, ← HW7.out]
      go_roundw
      case rel => exact ⟨1, by omega, rfl, HC7.out, HB7.out, HJ7.out, HR7.out⟩
      case measure => decide
    · obtain ⟨A2, cap2, e2, -, hat⟩ := HR.out.at
      injection e2 with e1 e22 e3
      clear e22
      subst e1 e3
      obtain ⟨b, off, rfl, hb, hrg⟩ := hat 1 ⟨2, 2⟩ rfl
      obtain ⟨hth, W5, HW5, HB5, j5⟩ := box_new wr 184 (z := [.int .i64 0, .int .i64 0, .int .i64 0, .int .i64 0, .int .i64 0, .complex .f32 0 0, .complex .f32 0 0, .complex .f32 0 0, .complex .f32 0 0, .complex .f32 0 0, .complex .f32 0 0, .complex .f32 0 0, .complex .f32 0 0, .complex .f32 0 0, .complex .f32 0 0, .complex .f32 0 0, .complex .f32 0 0, .complex .f32 0 0]) (cs := tyC ⟨2, 2⟩) (n := 18) rfl rfl
      have HTH := Lib.hid hth
      have HC5 := kB (o := .cells (cntV 1 0 0 1).toArray 174 (0, 0)) HB2 j5
      replace HB1 := kB HB1 j5
      replace HJ := kU HJ j5
      have HR5 : Hid (RdT W5 (.slice (some ⟨b, off, none⟩) 3 cap) T3) := HR.out.below j5
      have HX : Hid (wr.heap.size ≠ cb) := Nat.ne_of_gt (klt HB2).out
      obtain ⟨W6, HW6⟩ : ∃ W, Hid (W = W5.setCell ⟨cb, 0, none⟩ (.int .i64 2)) := ⟨_, rfl⟩
      obtain ⟨W7, HW7⟩ : ∃ W, Hid (W = W6.setCell ⟨cb, 2, none⟩ (.int .i64 1)) := ⟨_, rfl⟩
      have HC6 := kP (cs := cntV 1 0 0 1) (ds := cntV 2 0 0 1) (kM1 HW6) HC5 rfl rfl
      have HC7 := kP (cs := cntV 2 0 0 1) (ds := cntV 2 0 1 1) (kM1 HW7) HC6 rfl rfl
      have e0 := kC (cs := cntV 1 0 0 1) HC5 0 rfl
      have f0 := kF HC5 0
      have e1 := kC (cs := cntV 2 0 0 1) HC6 2 rfl
      have f1 := kF HC6 2
      have d1 : W6.cell? ⟨wr.heap.size, 1, none⟩ = some (.int .i64 2) := kC (kO (kM1 HW6) HB5 HX.out) 1 rfl
      rw [HW6.out] at e1 f1 d1
      have HB7 := kO (kM1 HW7) (kO (kM1 HW6) HB1 HNE.out) HNE.out
      have HJ7 := kS (kM1 HW7) HLE (kS (kM1 HW6) HLE HJ)
      have HR7 : Hid (RdT W7 (.slice (some ⟨b, off, none⟩) 3 cap) T3) := by show RdT W7 (.slice (some ⟨b, off, none⟩) 3 cap) T3; rw [HW7.out, HW6.out]; exact (HR5.out.setOther HNB.out).setOther HNB.out
      clear hat hb hth j5 HB5 HR HB2 HC6 HC5 HR5 HB1 HJ HX
      go_wp2_with (first | (refine wpList_load_mid (by rfl) 184 _ (by rfl) b (off + 1 * 18) (by rfl) _ _ (by exact hrg) Tryz.underlying184 rfl (by kernel_rfl) ?_) | (refine smd 184 wr.heap.size 0 (ht := HTH) (h := ?_); rw [← HW5.out]))
      rw [← HW6.out, ← HW7.out]
      go_roundw
      case rel => exact ⟨2, by omega, rfl, HC7.out, HB7.out, HJ7.out, HR7.out⟩
      case measure => decide
    · obtain ⟨A2, cap2, e2, -, hat⟩ := HR.out.at
      injection e2 with e1 e22 e3
      clear e22
      subst e1 e3
      obtain ⟨b, off, rfl, hb, hrg⟩ := hat 2 ⟨3, 1⟩ rfl
      obtain ⟨hth, W5, HW5, HB5, j5⟩ := box_new wr 184 (z := [.int .i64 0, .int .i64 0, .int .i64 0, .int .i64 0, .int .i64 0, .complex .f32 0 0, .complex .f32 0 0, .complex .f32 0 0, .complex .f32 0 0, .complex .f32 0 0, .complex .f32 0 0, .complex .f32 0 0, .complex .f32 0 0, .complex .f32 0 0, .complex .f32 0 0, .complex .f32 0 0, .complex .f32 0 0, .complex .f32 0 0]) (cs := tyC ⟨3, 1⟩) (n := 18) rfl rfl
      have HTH := Lib.hid hth
      have HC5 := kB (o := .cells (cntV 2 0 1 1).toArray 174 (0, 0)) HB2 j5
      replace HB1 := kB HB1 j5
      replace HJ := kU HJ j5
      have HR5 : Hid (RdT W5 (.slice (some ⟨b, off, none⟩) 3 cap) T3) := HR.out.below j5
      have HX : Hid (wr.heap.size ≠ cb) := Nat.ne_of_gt (klt HB2).out
      obtain ⟨W6, HW6⟩ : ∃ W, Hid (W = W5.setCell ⟨cb, 0, none⟩ (.int .i64 3)) := ⟨_, rfl⟩
      obtain ⟨W7, HW7⟩ : ∃ W, Hid (W = W6.setCell ⟨cb, 1, none⟩ (.int .i64 1)) := ⟨_, rfl⟩
      have HC6 := kP (cs := cntV 2 0 1 1) (ds := cntV 3 0 1 1) (kM1 HW6) HC5 rfl rfl
      have HC7 := kP (cs := cntV 3 0 1 1) (ds := cntV 3 1 1 1) (kM1 HW7) HC6 rfl rfl
      have e0 := kC (cs := cntV 2 0 1 1) HC5 0 rfl
      have f0 := kF HC5 0
      have e1 := kC (cs := cntV 3 0 1 1) HC6 1 rfl
      have f1 := kF HC6 1
      have d1 : W6.cell? ⟨wr.heap.size, 1, none⟩ = some (.int .i64 1) := kC (kO (kM1 HW6) HB5 HX.out) 1 rfl
      rw [HW6.out] at e1 f1 d1
      have HB7 := kO (kM1 HW7) (kO (kM1 HW6) HB1 HNE.out) HNE.out
      have HJ7 := kS (kM1 HW7) HLE (kS (kM1 HW6) HLE HJ)
      have HR7 : Hid (RdT W7 (.slice (some ⟨b, off, none⟩) 3 cap) T3) := by show RdT W7 (.slice (some ⟨b, off, none⟩) 3 cap) T3; rw [HW7.out, HW6.out]; exact (HR5.out.setOther HNB.out).setOther HNB.out
      clear hat hb hth j5 HB5 HR HB2 HC6 HC5 HR5 HB1 HJ HX
      go_wp2_with (first | (refine wpList_load_mid (by rfl) 184 _ (by rfl) b (off + 2 * 18) (by rfl) _ _ (by exact hrg) Tryz.underlying184 rfl (by kernel_rfl) ?_) | (refine smd 184 wr.heap.size 0 (ht := HTH) (h := ?_); rw [← HW5.out]))
      rw [← HW6.out, ← HW7.out]
      go_roundw
      case rel => exact ⟨3, by omega, rfl, HC7.out, HB7.out, HJ7.out, HR7.out⟩
      case measure => decide
    · obtain ⟨W4, HW4⟩ : ∃ W, Hid (W = wr.setCells w.heap.size 0 (cntV 3 1 1 1)) := ⟨_, rfl⟩
      have hL : wr.rangeAt cb 0 (cntV 3 1 1 1) := blk_all (cs := cntV 3 1 1 1) HB2.out
      have HTH := kth 0 9 HB1
      have HB4 := kPf (cs := cntV 0 0 0 0) (kM HW4) HB1 rfl
      have HJ4 := kS (kM HW4) (Nat.le_refl _) HJ
      clear HR HB1 HB2 HJ
      go_wp2_with (first | (refine wpList_load_mid (by rfl) 174 _ (by rfl) cb 0 (by rfl) _ _ (by exact hL) Tryz.underlying174 rfl (by kernel_rfl) ?_) | (refine smd 174 w.heap.size 0 (ht := HTH) (h := ?_); rw [← HW4.out]))
      exact bodyPost_ret (results_cell rfl (by rfl) (blk_all HB4.out) Tryz.underlying174 rfl (by kernel_rfl)) rfl ⟨rfl, HJ4.out⟩
end Go.Proofs.YtfondpakbiagjaaGreatDoor
