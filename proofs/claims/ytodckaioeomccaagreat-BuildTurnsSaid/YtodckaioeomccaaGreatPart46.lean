/- Walks of Vector (where the splices are right) and Cmp. The walk of Worst, where the splices are right. -/
import Derived.Test.YtodckaioeomccaaGreatPart41
import Derived.Test.YtodckaioeomccaaGreatPart42
namespace Go.Proofs.YtodckaioeomccaaGreat
open Go.RowKit Go.Proofs.S4P Go.Proofs.ImpP Go.Proofs.TurP
set_option linter.unusedVariables false
set_option linter.unusedSimpArgs false
set_option maxRecDepth 100000
set_option maxHeartbeats 4000000
theorem scmp_any (v u : Value) (x y : S4) (K L : Nat) (w : World) (hv : RdS w v x K) (hu : RdS w u y L) (hK : K ≤ 20000) (hL : L ≤ 20000) :
  Calls Tryz.prog 66 #[v, u] w fun e w' => e = .returned (.int .i64 (sgnS (x.sub y))) ∧ Below w.heap.size w w' := by
 obtain ⟨gp0a, Ap0a, kp0a, cp0a, gp0b, Ap0b, kp0b, cp0b, gp0c, Ap0c, kp0c, cp0c, gp0d, Ap0d, kp0d, cp0d, Ap0e, kp0e, cp0e, rfl, hv⟩ := hv.open
 have HX0 := h0d hv
 clear hv
 obtain ⟨gp1a, Ap1a, kp1a, cp1a, gp1b, Ap1b, kp1b, cp1b, gp1c, Ap1c, kp1c, cp1c, gp1d, Ap1d, kp1d, cp1d, Ap1e, kp1e, cp1e, rfl, hu⟩ := hu.open
 have HX1 := h0d hu
 clear hu
 go_enter Tryz.func66, Tryz.ntmps66
 obtain ⟨W1, HW1, HB2, s1w, j1⟩ := st_al0 w #[.bool gp0a, .slice Ap0a kp0a cp0a, .bool gp0b, .slice Ap0b kp0b cp0b, .bool gp0c, .slice Ap0c kp0c cp0c, .bool gp0d, .slice Ap0d kp0d cp0d, .slice Ap0e kp0e cp0e] 30
 have HBw := h0d j1
 obtain ⟨W3, HW3, HB4, s3w, j2⟩ := st_alk 1 2 #[.bool gp1a, .slice Ap1a kp1a cp1a, .bool gp1b, .slice Ap1b kp1b cp1b, .bool gp1c, .slice Ap1c kp1c cp1c, .bool gp1d, .slice Ap1d kp1d cp1d, .slice Ap1e kp1e cp1e] 30 s1w rfl
 go_wp2_with fail
 rw [← HW1.out, ← HW3.out]
 replace HBw := kU HBw j2
 replace HX0 := kV HBw.out HX0
 replace HX1 := kV HBw.out HX1
 refine (ssubS_any _ _ x y K L _ HX0.out HX1.out (by omega) (by omega)).mono ?_
 rintro e w1 ⟨⟨vx, rfl, hr⟩, j1c⟩
 obtain ⟨g1a, A1a, k1a, c1a, g1b, A1b, k1b, c1b, g1c, A1c, k1c, c1c, g1d, A1d, k1d, c1d, A1e, k1e, c1e, rfl, hr⟩ := hr.open
 have HR1 := h0d hr
 clear hr
 go_wp2_with fail
 refine (ssign_any _ (x.sub y) (K + L + 1) _ HR1.out (by omega)).mono ?_
 rintro e w2 ⟨rfl, j2c⟩
 go_wp2_with fail
 go_ret
 replace HBw := kU (kU HBw j1c) j2c
 exact ⟨rfl, HBw.out⟩
theorem vectorE_any (v : Value) (l : List Sp) (o : Int) (w : World) (h : RdP w v l) (h8 : l.length ≤ 8) (hok : ∀ x ∈ l, OkS x) (ho : 0 ≤ o ∧ o ≤ 12) :
  Calls Tryz.prog 61 #[v, .int .i64 o] w fun e w' => (∃ v', e = .returned (.tuple #[v', .int .i64 0]) ∧ RdWv w' v' (vsum o l) 300) ∧ Below w.heap.size w w' := by
 have HPV : Hid (∀ W, Below w.heap.size w W → RdP W v l) := fun W hW => h.below hW
 have HL8 := h0d h8
 have HOK := h0d hok
 have HO := h0d ho
 have hno1 : ¬ o < 0 := by omega
 have hno2 : ¬ 12 < o := by omega
 obtain ⟨A, n, cap, rfl, -⟩ := h.open_
 clear h8 hok ho
 go_enter Tryz.func61, Tryz.ntmps61
 obtain ⟨W1, HW1, HB2, s1w, j1⟩ := st_al0 w #[.bool false, .slice none 0 0, .bool false, .slice none 0 0, .bool false, .slice none 0 0, .bool false, .slice none 0 0, .slice none 0 0, .bool false, .slice none 0 0, .bool false, .slice none 0 0, .bool false, .slice none 0 0, .bool false, .slice none 0 0, .slice none 0 0] 88
 have l2b : Hid (w.heap.size ≤ w.heap.size) := by show _ ≤ _; omega
 have HBw := h0d j1
 go_wp2_with fail
 rw [← HW1.out]
 refine (spliced_ok _ l _ (HPV.out _ HBw.out) HL8.out HOK.out).mono ?_
 rintro e w1 ⟨rfl, j1c⟩
 go_wp2_with fail
 replace HBw := kU HBw j1c
 refine (vector_any _ l o _ (HPV.out _ HBw.out) (by have := HL8.out; omega) HOK.out HO.out).mono ?_
 rintro e w2 ⟨⟨vx, rfl, hr⟩, j2c⟩
 obtain ⟨g2a, A2a, k2a, c2a, g2b, A2b, k2b, c2b, g2c, A2c, k2c, c2c, g2d, A2d, k2d, c2d, A2e, k2e, c2e, g2f, A2f, k2f, c2f, g2g, A2g, k2g, c2g, g2h, A2h, k2h, c2h, g2i, A2i, k2i, c2i, A2j, k2j, c2j, rfl, hr⟩ := hr.open
 have HR2 := h0d hr
 clear hr
 replace HB2 := kB (kB HB2 j1c) j2c
 have t3h : Hid (w2.there (w.heap.size) 0 18) := blk_there HB2.out (Nat.le_of_ble_eq_true rfl)
 obtain ⟨W4, HW4⟩ : ∃ W, Hid (W = w2.setCells (w.heap.size) 0 [.bool g2a, .slice A2a k2a c2a, .bool g2b, .slice A2b k2b c2b, .bool g2c, .slice A2c k2c c2c, .bool g2d, .slice A2d k2d c2d, .slice A2e k2e c2e, .bool g2f, .slice A2f k2f c2f, .bool g2g, .slice A2g k2g c2g, .bool g2h, .slice A2h k2h c2h, .bool g2i, .slice A2i k2i c2i, .slice A2j k2j c2j]) := ⟨_, rfl⟩
 have TW4 := kN (kM HW4) HB2 rfl rfl
 replace HB2 := kP (ds := [.bool g2a, .slice A2a k2a c2a, .bool g2b, .slice A2b k2b c2b, .bool g2c, .slice A2c k2c c2c, .bool g2d, .slice A2d k2d c2d, .slice A2e k2e c2e, .bool g2f, .slice A2f k2f c2f, .bool g2g, .slice A2g k2g c2g, .bool g2h, .slice A2h k2h c2h, .bool g2i, .slice A2i k2i c2i, .slice A2j k2j c2j]) (kM HW4) HB2 rfl rfl
 go_wp2_with (refine wpList_store_mid (by rfl) 88 _ _ (by rfl) (w.heap.size) 0 _ (by rfl) (by rfl) (by exact t3h.out) (by kernel_rfl) (by kernel_rfl) ?_)
 rw [← HW4.out]
 clear t3h
 replace HR2 := kW TW4 HR2
 replace HBw := kS (kM HW4) l2b (kU HBw j2c)
 exact bodyPost_ret (results_cell_tmp rfl (by rfl) (blk_all HB2.out) Tryz.underlying88 rfl (by kernel_rfl)) rfl ⟨⟨_, rfl, HR2.out⟩, HBw.out⟩
end Go.Proofs.YtodckaioeomccaaGreat
namespace Go.Proofs.YtodckaioeomccaaGreat
open Go.RowKit Go.Proofs.S4P Go.Proofs.ImpP Go.Proofs.TurP
set_option linter.unusedVariables false
set_option linter.unusedSimpArgs false
set_option maxRecDepth 100000
set_option maxHeartbeats 4000000
def SAt (w : World) (b : Nat) (x : S4) (K : Nat) : Prop := ∃ cs, w.heap[b]? = some (.cells cs 30 (0, 0)) ∧ RdS w (.agg cs) x K
theorem worstE_any (v : Value) (l : List Sp) (o : Int) (w : World) (h : RdP w v l) (h8 : l.length ≤ 8) (hok : ∀ x ∈ l, OkS x) (ho : 1 ≤ o ∧ o ≤ 12) :
  Calls Tryz.prog 63 #[v, .int .i64 o] w fun e w' => (∃ v', e = .returned (.tuple #[v', .int .i64 0]) ∧ RdS w' v' (worstS l o.toNat) 1209) ∧ Below w.heap.size w w' := by
 obtain ⟨n, hn⟩ : ∃ n, n = o.toNat := ⟨_, rfl⟩
 obtain rfl : o = (n : Int) := by omega
 rw [← hn]
 obtain ⟨W1, HW1, HBR0, s1w, j1⟩ := st_al0 w #[.bool false, .slice none 0 0, .bool false, .slice none 0 0, .bool false, .slice none 0 0, .bool false, .slice none 0 0, .slice none 0 0] 30
 have HB1 := h0d j1
 have HSP := h0d (spliced_ok v l W1 (h.below j1) h8 hok)
 have HPV : Hid (∀ W, Below w.heap.size w W → RdP W v l) := fun W hW => h.below hW
 have HL8 := h0d h8
 have HOK := h0d hok
 have HO := h0d ho
 have hno1 : ¬ (n : Int) < 1 := by omega
 have hno2 : ¬ (12 : Int) < (n : Int) := by omega
 have hno3 : ¬ n < 1 := by omega
 have hno4 : ¬ 12 < n := by omega
 obtain ⟨A, m, cap, rfl, -⟩ := h.open_
 clear h h8 hok ho j1 hn
 go_enter Tryz.func63, Tryz.ntmps63
 go_wp2_with fail
 rw [← HW1.out]
 refine HSP.out.mono ?_
 rintro e w1 ⟨rfl, hbx⟩
 have HBR1 := kB HBR0 hbx
 have HB2 := kU HB1 hbx
 obtain ⟨W3, HW3, HBT0, s3w, j3⟩ := st_al0 w1 #[.bool false, .slice none 0 0, .bool false, .slice none 0 0, .bool false, .slice none 0 0, .bool false, .slice none 0 0, .slice none 0 0] 30
 have HB3 := kU HB2 j3
 have HBR3 := kB HBR1 j3
 have HLT : Hid (w.heap.size ≤ w1.heap.size) := HB2.out.size
 have HNE : Hid (w.heap.size ≠ w1.heap.size) := by show _ ≠ _; have := blk_lt HBR1.out; omega
 obtain ⟨gt, hgt⟩ : ∃ g, g = w1.heap.size := ⟨_, rfl⟩
 have HT0 : Hid (SAt W3 w1.heap.size (worstS l 0) 1209) := ⟨_, HBT0.out, rdS_zero _ (by omega)⟩
 have HGT := h0d hgt
 go_wp2_with fail
 rw [← HW3.out]
 rw [← HGT.out] at HT0 HLT HNE ⊢
 clear hbx HBR0 HBR1 HB1 HB2 HBT0 HW1 HW3 s1w s3w j3 hgt HGT HSP
 go_loopw [8] (fun iv wr => ∃ (k : Nat), k ≤ n ∧ iv = .int .i64 ((k + 1 : Nat) : Int) ∧ Hid (SAt wr gt (worstS l k) 1209) ∧ Hid (wr.heap[w.heap.size]? = some (.cells #[.bool false, .slice none 0 0, .bool false, .slice none 0 0, .bool false, .slice none 0 0, .bool false, .slice none 0 0, .slice none 0 0] 30 (0, 0))) ∧ Hid (Below w.heap.size w wr)) (fun iv _ => n + 1 - (intOf iv).toNat)
 case atStart => exact ⟨0, Nat.zero_le _, rfl, HT0.out, HBR3.out, HB3.out⟩
 case round =>
  clear HT0 HBR3 HB3
  obtain ⟨k, hk, rfl, HT, HBR, HBw⟩ := hrel
  obtain ⟨cz, hbt, hrd⟩ := HT.out
  obtain ⟨gqa, Aqa, kqa, cqa, gqb, Aqb, kqb, cqb, gqc, Aqc, kqc, cqc, gqd, Aqd, kqd, cqd, Aqe, kqe, cqe, e, hrd⟩ := hrd.open
  injection e with e
  subst e
  have HBT := h0d hbt
  have HX1 := h0d hrd
  obtain ⟨z, hz⟩ : ∃ z : Int, z = ((k + 1 : Nat) : Int) := ⟨_, rfl⟩
  have hz1 : z = (k : Int) + 1 := by omega
  rw [← hz]
  clear hbt hrd HT
  by_cases hlt : k < n
  ·have hle : z ≤ (n : Int) := by omega
   have hwz : IntKind.i64.wrap (z + 1) = z + 1 := IntWalk.i64_in _ (by omega)
   have HZB : Hid (0 ≤ z ∧ z ≤ 12) := ⟨by omega, by omega⟩
   have HWS : Hid (worstS l (k + 1) = if 0 < sgnS ((vsum z l).norm.sub (worstS l k)) then (vsum z l).norm else worstS l k) := by show _ = _; rw [hz]; rfl
   have hz2 : z + 1 = ((k + 1 + 1 : Nat) : Int) := by omega
   have HZ2 := h0d hz2
   obtain ⟨M, hM⟩ : ∃ M, M = worstS l k := ⟨_, rfl⟩
   rw [← hM] at HWS HX1
   have HKL : Hid (k < n) := hlt
   clear hz hz2 hM hz1
   have HLE_T := HLT
   go_wp2_with fail
   refine (vector_any _ l z _ (HPV.out _ HBw.out) (by have := HL8.out; omega) HOK.out HZB.out).mono ?_
   rintro e w1 ⟨⟨vx, rfl, hr⟩, j1c⟩
   obtain ⟨g1a, A1a, k1a, c1a, g1b, A1b, k1b, c1b, g1c, A1c, k1c, c1c, g1d, A1d, k1d, c1d, A1e, k1e, c1e, g1f, A1f, k1f, c1f, g1g, A1g, k1g, c1g, g1h, A1h, k1h, c1h, g1i, A1i, k1i, c1i, A1j, k1j, c1j, rfl, hr⟩ := hr.open
   have HR1 := h0d hr
   clear hr
   go_wp2_with fail
   refine (wnorm_any _ (vsum z l) 300 _ HR1.out (by omega)).mono ?_
   rintro e w2 ⟨⟨vx, rfl, hr⟩, j2c⟩
   obtain ⟨g2a, A2a, k2a, c2a, g2b, A2b, k2b, c2b, g2c, A2c, k2c, c2c, g2d, A2d, k2d, c2d, A2e, k2e, c2e, rfl, hr⟩ := hr.open
   have HR2 := h0d hr
   clear hr
   obtain ⟨W1, HW1, HB2, s1w, j1⟩ := st_al0 w2 #[.bool g2a, .slice A2a k2a c2a, .bool g2b, .slice A2b k2b c2b, .bool g2c, .slice A2c k2c c2c, .bool g2d, .slice A2d k2d c2d, .slice A2e k2e c2e] 30
   have HNE_R_B2 : Hid (w.heap.size ≠ w2.heap.size) := by show _ ≠ _; have hlt := blk_lt HBR.out; have := j1c.size; have := j2c.size; omega
   have HNE_T_B2 : Hid (gt ≠ w2.heap.size) := by show _ ≠ _; have hlt := blk_lt HBT.out; have := j1c.size; have := j2c.size; omega
   have l2b : Hid (w.heap.size ≤ w2.heap.size) := by show _ ≤ _; have hlt := HBw.out.size; have := j1c.size; have := j2c.size; omega
   replace HBT := kB (kB (kB HBT j1c) j2c) j1
   have c3 := kC HBT 0 rfl
   have c4 := kC HBT 1 rfl
   have c5 := kC HBT 2 rfl
   have c6 := kC HBT 3 rfl
   have c7 := kC HBT 4 rfl
   have c8 := kC HBT 5 rfl
   have c9 := kC HBT 6 rfl
   have c10 := kC HBT 7 rfl
   have c11 := kC HBT 8 rfl
   rw [HW1.out] at c3
   rw [HW1.out] at c4
   rw [HW1.out] at c5
   rw [HW1.out] at c6
   rw [HW1.out] at c7
   rw [HW1.out] at c8
   rw [HW1.out] at c9
   rw [HW1.out] at c10
   rw [HW1.out] at c11
   go_wp2_with fail
   rw [← HW1.out]
   clear c3 c4 c5 c6 c7 c8 c9 c10 c11
   replace HR2 := kV j1 HR2
   replace HX1 := kV j1 (kV j2c (kV j1c HX1))
   refine (scmp_any _ _ (vsum z l).norm M (300 + 300 + 4 + (300 + 300 + 4) + 1) 1209 _ HR2.out HX1.out (by omega) (by omega)).mono ?_
   rintro e w3 ⟨rfl, j3c⟩
   by_cases hs : 0 < sgnS ((vsum z l).norm.sub M)
   ·skip
    replace HB2 := kB HB2 j3c
    have c12 := kC HB2 0 rfl
    have c13 := kC HB2 1 rfl
    have c14 := kC HB2 2 rfl
    have c15 := kC HB2 3 rfl
    have c16 := kC HB2 4 rfl
    have c17 := kC HB2 5 rfl
    have c18 := kC HB2 6 rfl
    have c19 := kC HB2 7 rfl
    have c20 := kC HB2 8 rfl
    replace HBT := kB HBT j3c
    have t21h : Hid (w3.there (gt) 0 9) := blk_there HBT.out (Nat.le_of_ble_eq_true rfl)
    obtain ⟨W22, HW22⟩ : ∃ W, Hid (W = w3.setCells (gt) 0 [.bool g2a, .slice A2a k2a c2a, .bool g2b, .slice A2b k2b c2b, .bool g2c, .slice A2c k2c c2c, .bool g2d, .slice A2d k2d c2d, .slice A2e k2e c2e]) := ⟨_, rfl⟩
    have TW22 := kN (kM HW22) HBT rfl rfl
    replace HBT := kP (ds := [.bool g2a, .slice A2a k2a c2a, .bool g2b, .slice A2b k2b c2b, .bool g2c, .slice A2c k2c c2c, .bool g2d, .slice A2d k2d c2d, .slice A2e k2e c2e]) (kM HW22) HBT rfl rfl
    have s22w := kZ (kM HW22)
    go_wp2_with (refine wpList_store_mid (by rfl) 30 _ _ (by rfl) (gt) 0 _ (by rfl) (by rfl) (by exact t21h.out) (by kernel_rfl) (by kernel_rfl) ?_)
    rw [← HW22.out]
    clear c12 c13 c14 c15 c16 c17 c18 c19 c20 t21h
    replace HBw := kS (kM HW22) HLE_T (kU (kU (kU (kU HBw j1c) j2c) j1) j3c)
    replace HBR := kO (kM HW22) (kB (kB (kB (kB HBR j1c) j2c) j1) j3c) HNE.out
    replace HR2 := kW TW22 (kV j3c HR2)
    have HWS1 : Hid (worstS l (k + 1) = (vsum z l).norm) := by show _ = _; rw [HWS.out, if_pos hs]
    go_roundw
    case rel => exact ⟨k + 1, by have := HKL.out; omega, by rw [← HZ2.out], ⟨_, HBT.out, by rw [HWS1.out]; exact (show RdS _ _ _ _ from HR2.out).mono (by omega)⟩, HBR.out, HBw.out⟩
    case measure => have := HZB.out; simp [intOf]; omega
   ·skip
    go_wp2_with fail
    replace HBw := kU (kU (kU (kU HBw j1c) j2c) j1) j3c
    replace HBR := kB (kB (kB (kB HBR j1c) j2c) j1) j3c
    replace HBT := kB HBT j3c
    replace HX1 := kV j3c HX1
    have HWS1 : Hid (worstS l (k + 1) = M) := by show _ = _; rw [HWS.out, if_neg (by omega)]
    go_roundw
    case rel => exact ⟨k + 1, by have := HKL.out; omega, by rw [← HZ2.out], ⟨_, HBT.out, by rw [HWS1.out]; exact (show RdS _ _ _ _ from HX1.out).mono (by omega)⟩, HBR.out, HBw.out⟩
    case measure => have := HZB.out; simp [intOf]; omega
  ·have hle : ¬ z ≤ (n : Int) := by omega
   obtain rfl : n = k := by omega
   clear hz hz1
   have HLE_R : Hid (w.heap.size ≤ w.heap.size) := Nat.le_refl _
   have c1 := kC HBT 0 rfl
   have c2 := kC HBT 1 rfl
   have c3 := kC HBT 2 rfl
   have c4 := kC HBT 3 rfl
   have c5 := kC HBT 4 rfl
   have c6 := kC HBT 5 rfl
   have c7 := kC HBT 6 rfl
   have c8 := kC HBT 7 rfl
   have c9 := kC HBT 8 rfl
   have t10h : Hid (wr.there (w.heap.size) 0 9) := blk_there HBR.out (Nat.le_of_ble_eq_true rfl)
   obtain ⟨W11, HW11⟩ : ∃ W, Hid (W = wr.setCells (w.heap.size) 0 [.bool gqa, .slice Aqa kqa cqa, .bool gqb, .slice Aqb kqb cqb, .bool gqc, .slice Aqc kqc cqc, .bool gqd, .slice Aqd kqd cqd, .slice Aqe kqe cqe]) := ⟨_, rfl⟩
   have TW11 := kN (kM HW11) HBR rfl rfl
   replace HBR := kP (ds := [.bool gqa, .slice Aqa kqa cqa, .bool gqb, .slice Aqb kqb cqb, .bool gqc, .slice Aqc kqc cqc, .bool gqd, .slice Aqd kqd cqd, .slice Aqe kqe cqe]) (kM HW11) HBR rfl rfl
   have s11w := kZ (kM HW11)
   go_wp2_with (refine wpList_store_mid (by rfl) 30 _ _ (by rfl) (w.heap.size) 0 _ (by rfl) (by rfl) (by exact t10h.out) (by kernel_rfl) (by kernel_rfl) ?_)
   rw [← HW11.out]
   clear c1 c2 c3 c4 c5 c6 c7 c8 c9 t10h
   replace HX1 := kW TW11 HX1
   replace HBw := kS (kM HW11) HLE_R HBw
   exact bodyPost_ret (results_cell_tmp rfl (by rfl) (blk_all HBR.out) Tryz.underlying30 rfl (by kernel_rfl)) rfl ⟨⟨_, rfl, HX1.out⟩, HBw.out⟩
end Go.Proofs.YtodckaioeomccaaGreat
