/- Walk of the reference's Energy. -/
import Derived.Test.YtogccnngdfancaaGreatPart36
import Derived.Test.YtogccnngdfancaaGreatPart40
namespace Go.Proofs.YtogccnngdfancaaGreat
open Go.RowKit
set_option linter.unusedVariables false
set_option linter.unusedSimpArgs false
def REnPost (d : WorksD) (l : List JobD) (qs : List Rat) (ch : Rat) (w : World) (e : Ending) (w' : World) : Prop :=
  (∃ v', e = .returned (.tuple #[v', .int .i64 (enErr d l qs.length)]) ∧ RdF w' v' (enSum d l qs ch)) ∧ Below w.heap.size w w'
theorem RdF.shape {w : World} {v : Value} {x : Rat} (h : RdF w v x) : ∃ s A k c B l m, v = .agg #[.bool s, .slice A k c, .slice B l m] :=
  let ⟨A, k, c, B, l, m, e, _, _⟩ := h.parts; ⟨_, A, k, c, B, l, m, e⟩
theorem CellF.drew {w : World} {b t : Nat} {s : Bool} {A : Option Addr} {k c : Nat} {B : Option Addr} {k' c' : Nat} {x : Rat} (h : CellF w b t s A k c B k' c' x) : CellF w.drew b t s A k c B k' c' x := ⟨h.blk, h.rd.below ((Below.refl _ _).drew)⟩
theorem dm_imul (z : Int) (n : Nat) : dm (z * n).natAbs ≤ dm z.natAbs + dm n := by rw [Int.natAbs_mul, Int.natAbs_natCast]; exact dm_mul _ _
theorem dm_two (z y : Int) : dm (z + y).natAbs ≤ max (dm z.natAbs) (dm y.natAbs) + 1 := Nat.le_trans (dm_mono (Int.natAbs_add_le z y)) (dm_add _ _)
theorem QM.mono {a b : Nat} {x : Rat} (h : QM a x) (hab : a ≤ b) : QM b x := ⟨Nat.le_trans h.1 hab, Nat.le_trans h.2 hab⟩
theorem QM.zero {k : Nat} (h : 1 ≤ k) : QM k 0 := ⟨by show dm 0 ≤ k; rw [dm_zero]; omega, by show dm 1 ≤ k; exact Nat.le_trans dm_one h⟩
theorem QM.add {a b : Nat} {x y : Rat} (h : QM a x) (k : QM b y) : QM (a + b + 1) (x + y) := by
  have hz : x.den * y.den ≠ 0 := Nat.mul_ne_zero x.den_nz y.den_nz
  rw [Rat.add_def' x y]
  obtain ⟨_, h2, h3⟩ := mk_parts (z := x.num * y.den + y.num * x.den) hz
  refine ⟨?_, ?_⟩
  · rw [h2]
    refine Nat.le_trans (dm_mono (Nat.div_le_self _ _)) (Nat.le_trans (dm_two _ _) ?_)
    have e1 := dm_imul x.num y.den
    have e2 := dm_imul y.num x.den
    have := h.1; have := h.2; have := k.1; have := k.2
    omega
  · rw [h3]
    refine Nat.le_trans (dm_mono (Nat.div_le_self _ _)) (Nat.le_trans (dm_mul _ _) ?_)
    have := h.2; have := k.2
    omega
set_option maxRecDepth 100000 in
set_option maxHeartbeats 4000000 in
theorem renergy_any (v vl vq vc : Value) (d : WorksD) (l : List JobD) (qs : List Rat) (ch : Rat) (S T U : Nat → Prop) (w : World) (hv : WkV w S v d) (hl : RdK 3 jobC w T vl l) (hll : l.length ≤ 1000) (hq : RdFs w U vq qs) (hc : RdF w vc ch) (hq4 : ∀ q ∈ qs, QM 4 q) (hc4 : QM 4 ch) :
    Calls Tryz.prog 16 #[v, vl, vq, vc] w (REnPost d l qs ch w) := by
  have HCH := Lib.hid (fun w' (h : Below w.heap.size w w') => rCheck_any v vl d l S T w' (hv.below h) (hl.below jobC_0 h) hll)
  have HAH := Lib.hid (fun w' (h : Below w.heap.size w w') i (hi : i < l.length) => ahead_any vl l i T w' (hl.below jobC_0 h) hi hll)
  have HWH := Lib.hid (fun w' => rwhole_any 0 w' (by omega) (by omega))
  obtain ⟨vcu, vn, vm, rfl, hcu, -, -⟩ := hv.lt
  obtain ⟨Au, nu, cu, rfl, hnu, -, -, -⟩ := hcu.open_
  obtain ⟨A, n, cap, rfl, hn, hcap, hmax, hlc⟩ := (hl.lt jobC_0).open_
  obtain ⟨cs, hcs, hcl, hcq⟩ := hq
  obtain ⟨Aq, nq, cq, rfl, hnq, hcapq, hmaxq, hqc⟩ := (hcs.lt ratC_0).open_
  obtain ⟨Ca, ka, ca, Cb, kb, cb, rfl, ha, hb⟩ := hc.parts
  have HQQ := Lib.hid (fun w' (h : Below w.heap.size w w') i c q (h1 : cs[i]? = some c) (h2 : qs[i]? = some q) => (hcq i c q h1 h2).below h)
  have HQC := Lib.hid hqc
  have HLC := Lib.hid hlc
  have HCQ := Lib.hid (fun w' (h : Below w.heap.size w w') => hc.below h)
  have HQ4 := Lib.hid hq4
  have HC4 := Lib.hid hc4
  have HNQ : Hid (qs.length = nq) := hcl.symm.trans hnq
  have HNU := Lib.hid hnu
  have HN := Lib.hid hn
  obtain ⟨ce, hce⟩ : ∃ ce, ce = chkE d l := ⟨_, rfl⟩
  unfold RCheckPost at HCH
  rw [rchk_eq] at HCH
  unfold REnPost
  have HER : Hid (enErr d l qs.length = if ce ≠ 0 then ce else if nq ≠ nu then 4 else 0) := by show _ = _; rw [hce]; unfold enErr; rw [HNQ.out, hnu]
  have HSM : Hid (enSum d l qs ch = if enErr d l qs.length = 0 then eSum (enF qs ch l) l else 0) := rfl
  rw [← hce] at HCH
  have HCE := Lib.hid hce
  obtain ⟨ds, hds⟩ : ∃ b, b = decide (ch.num < 0) := ⟨_, rfl⟩
  rw [← hds] at HCQ ⊢
  obtain ⟨W1, hW1⟩ : ∃ W1, W1 = ((w.alloc (.cells #[.int .i64 d.presses, .int .i64 d.change, .slice Au nu cu, vn, vm] 40)).alloc (.cells #[.bool ds, .slice Ca ka ca, .slice Cb kb cb] 56)).alloc (.cells #[.bool false, .slice none 0 0, .slice none 0 0] 56) := ⟨_, rfl⟩
  have hb1 : Below w.heap.size w W1 := by rw [hW1]; exact (((Below.refl _ w).alloc (Nat.le_refl _) _).alloc (by simp) _).alloc (by simp <;> omega) _
  have HSZ : Hid (W1.heap.size = w.heap.size + 3) := by show _ = _; rw [hW1]; simp
  have hm4 : W1.heap[w.heap.size]? = some (.cells #[.int .i64 d.presses, .int .i64 d.change, .slice Au nu cu, vn, vm] 40 (0, 0)) := by
    rw [hW1]
    exact (((Below.refl (w.alloc _).heap.size (w.alloc _)).alloc (Nat.le_refl _) _).alloc (by simp) _ |>.block _ (by simp)).trans (heap_alloc_new w _)
  have hm7 : W1.heap[w.heap.size + 1]? = some (.cells #[.bool ds, .slice Ca ka ca, .slice Cb kb cb] 56 (0, 0)) := by
    rw [hW1]
    have := heap_alloc_new (w.alloc (.cells #[.int .i64 d.presses, .int .i64 d.change, .slice Au nu cu, vn, vm] 40)) (.cells #[.bool ds, .slice Ca ka ca, .slice Cb kb cb] 56)
    rw [show (w.alloc (.cells #[.int .i64 d.presses, .int .i64 d.change, .slice Au nu cu, vn, vm] 40)).heap.size = w.heap.size + 1 by simp] at this
    rw [← this]
    exact ((Below.refl _ _).alloc (Nat.le_refl _) _).block _ (by simp)
  have hm8 : W1.heap[w.heap.size + 2]? = some (.cells #[.bool false, .slice none 0 0, .slice none 0 0] 56 (0, 0)) := by
    rw [hW1]
    have := heap_alloc_new ((w.alloc (.cells #[.int .i64 d.presses, .int .i64 d.change, .slice Au nu cu, vn, vm] 40)).alloc (.cells #[.bool ds, .slice Ca ka ca, .slice Cb kb cb] 56)) (.cells #[.bool false, .slice none 0 0, .slice none 0 0] 56)
    rw [show ((w.alloc (.cells #[.int .i64 d.presses, .int .i64 d.change, .slice Au nu cu, vn, vm] 40)).alloc (.cells #[.bool ds, .slice Ca ka ca, .slice Cb kb cb] 56)).heap.size = w.heap.size + 2 by simp] at this
    exact this
  have HC4' : Hid (∀ w', Below W1.heap.size W1 w' → ∀ i, w'.cell? ⟨w.heap.size, i, none⟩ = _ ∧ _) := fun w' hb => resL hm4 hb
  have HC7 : Hid (∀ w', Below W1.heap.size W1 w' → _) := fun w' hb => res3 hm7 hb
  have HC8 : Hid (∀ w', Below W1.heap.size W1 w' → _) := fun w' hb => res3 hm8 hb
  have HW1 := Lib.hid hW1
  have HB1 := Lib.hid hb1
  have hnn : n ≤ 1000 := by rw [← hn]; exact hll
  clear hW1 hm4 hm7 hm8 hb1 hv hl hn hll hcu hnu hcs hcl hcq hnq hqc hc ha hb hq4 hc4 hce hds hlc
  obtain ⟨c40, c41, c42, c43, c44⟩ : _ ∧ _ ∧ _ ∧ _ ∧ _ := ⟨(HC4'.out W1 (Below.refl _ _) 0).1, (HC4'.out W1 (Below.refl _ _) 1).1, (HC4'.out W1 (Below.refl _ _) 2).1, (HC4'.out W1 (Below.refl _ _) 3).1, (HC4'.out W1 (Below.refl _ _) 4).1⟩
  simp only [List.getElem?_toArray, List.getElem?_cons_zero, List.getElem?_cons_succ] at c40 c41 c42 c43 c44
  by_cases hz : ce = 0
  · subst hz
    by_cases hnn2 : nq = nu
    · subst hnn2
      have HVA := Lib.hid (chkE_zero.1 HCE.out.symm)
      have HA : Hid (enErr d l qs.length = 0) := by show _ = _; rw [HER.out]; simp
      have HAS : Hid (enSum d l qs ch = eSum (enF qs ch l) l) := by show _ = _; rw [HSM.out, HA.out, if_pos rfl]
      rw [HA.out, HAS.out]
      have HRN : Hid (∀ x ∈ l, InRange d x) := HVA.out.2.2.rng
      have HONE := Lib.hid (oneAt_of (wgood_of HVA.out.1) HRN.out HVA.out.2.2.pair)
      go_enter Tryz.func16, Tryz.ntmps16
      go_wp2_with fail
      rw [← HW1.out]
      refine (HWH.out W1).mono ?_
      rintro e wh ⟨⟨vh, rfl, hrh⟩, hbh⟩
      rw [← zero_parts] at hrh
      obtain ⟨s0, A0, k0, c0, B0, l0, m0, rfl⟩ := hrh.shape
      go_upto_region 2 with fail
      obtain ⟨W2, hW2⟩ : ∃ W2, W2 = wh.alloc (.cells #[.bool s0, .slice A0 k0 c0, .slice B0 l0 m0] 56) := ⟨_, rfl⟩
      obtain ⟨bo, hbo⟩ : ∃ bo, bo = wh.heap.size := ⟨_, rfl⟩
      have hm10 : W2.heap[bo]? = some (.cells #[.bool s0, .slice A0 k0 c0, .slice B0 l0 m0] 56 (0, 0)) := by rw [hW2, hbo]; exact heap_alloc_new wh _
      have hb2 : Below W1.heap.size W1 W2 := by rw [hW2]; exact hbh.alloc hbh.size _
      have HBO : Hid (W1.heap.size ≤ bo ∧ bo < W2.heap.size) := ⟨by rw [hbo]; exact hbh.size, by rw [hW2, hbo]; simp⟩
      have hr2 : RdF W2 (.agg #[.bool s0, .slice A0 k0 c0, .slice B0 l0 m0]) 0 := by rw [hW2]; exact hrh.below ((Below.refl _ _).alloc (Nat.le_refl _) _)
      rw [← hbo, ← hW2]
      have HM10 := Lib.hid hm10
      have HR2 := Lib.hid hr2
      have HB2 := Lib.hid hb2
      clear hm10 hb2 hW2 hbo hr2 hrh hbh
      obtain ⟨x0, x1, x2, x3, x4⟩ : _ ∧ _ ∧ _ ∧ _ ∧ _ := ⟨(HC4'.out W2 HB2.out 0).1, (HC4'.out W2 HB2.out 1).1, (HC4'.out W2 HB2.out 2).1, (HC4'.out W2 HB2.out 3).1, (HC4'.out W2 HB2.out 4).1⟩
      simp only [List.getElem?_toArray, List.getElem?_cons_zero, List.getElem?_cons_succ] at x0 x1 x2 x3 x4
      go_wp2_with fail
      clear x0 x1 x2 x3 x4
      refine (HCH.out W2 (HB1.out.trans (HB2.out.mono HB1.out.size))).mono ?_
      rintro e w4 ⟨rfl, hb4⟩
      have HB4 : Hid (Below W2.heap.size W2 w4) := hb4
      have HBW1 : Hid (Below W1.heap.size W1 w4) := HB2.out.trans (hb4.mono HB2.out.size)
      have HCQ0 : Hid (CellF w4 bo 56 s0 A0 k0 c0 B0 l0 m0 0) := ⟨(HB4.out.block _ HBO.out.2).trans HM10.out, HR2.out.below hb4⟩
      clear hb4
      obtain ⟨y0, y1, y2, -, -, -⟩ := cells3 HCQ0.out.blk
      obtain ⟨x0, x1, x2, x3, x4⟩ : _ ∧ _ ∧ _ ∧ _ ∧ _ := ⟨(HC4'.out w4 HBW1.out 0).1, (HC4'.out w4 HBW1.out 1).1, (HC4'.out w4 HBW1.out 2).1, (HC4'.out w4 HBW1.out 3).1, (HC4'.out w4 HBW1.out 4).1⟩
      simp only [List.getElem?_toArray, List.getElem?_cons_zero, List.getElem?_cons_succ] at x0 x1 x2 x3 x4
      go_wp2_with fail
      have hn64 : n ≤ 64 := by have := HVA.out.2.1; rw [HN.out] at this; exact this
      clear x0 x1 x2 x3 x4 y0 y1 y2 c40 c41 c42 c43 c44
      go_loopw [12] (fun iv wr => ∃ (i : Nat) (sg : Bool) (A : Option Addr) (k c : Nat) (B : Option Addr) (k' c' : Nat) (x : Rat), i ≤ n ∧ iv = .int .i64 (i : Int) ∧ x = eSum (enF qs ch l) (l.take i) ∧ QM (10 * i + 4) x ∧ CellF wr bo 56 sg A k c B k' c' x ∧ Keep (fun b => b ≠ bo ∧ b < w4.heap.size) w4 wr) (fun iv _ => n - (intOf iv).toNat)
      case atStart => exact ⟨0, _, _, _, _, _, _, _, _, Nat.zero_le _, rfl, rfl, QM.zero (by omega), HCQ0.out, Keep.refl _ _⟩
      case round =>
        clear HCQ0
        obtain ⟨i, sg, A1, k1, c1, B1, k2, c2, x, hi, rfl, hx, hqs, hcq, hkp⟩ := hrel
        have HX := Lib.hid hx
        have HQS := Lib.hid hqs
        have HCQX := Lib.hid hcq
        have HKP := Lib.hid hkp
        have HBEL : Hid (Below W1.heap.size W1 wr) := HBW1.out.trans (Keep.below (hkp.mono fun k hk => ⟨by have := HBO.out.1; omega, by have := HBW1.out.size; omega⟩))
        have HBR := Lib.hid (HB1.out.trans (HBEL.out.mono HB1.out.size))
        clear hx hqs hcq hkp
        by_cases hlt : i < n
        · obtain ⟨b, off, x0, rfl, ⟨_, hbl⟩, hj, hcell⟩ := HLC.out i hlt
          have d0 : wr.cell? ⟨b, off + i * 3, none⟩ = some (.int .i64 x0.press) := (HBR.out.cell (p := ⟨b, _, none⟩) hbl).trans (hcell 0 _ rfl)
          have d1 : wr.cell? ⟨b, off + i * 3 + 1, none⟩ = some (.int .i64 x0.kind) := (HBR.out.cell (p := ⟨b, _, none⟩) hbl).trans (hcell 1 _ rfl)
          have hrg := HRN.out x0 (mem_of_get? hj)
          have HTK : Hid (eSum (enF qs ch l) (l.take (i + 1)) = x + enF qs ch l x0) := by show _ = _; rw [eSum_take hj, HX.out]
          have hk0 := hrg.k0
          have hk1 := hrg.k1
          have HJN : Hid (jobAt l i = x0) := jobAt_of hj
          obtain ⟨xp, xk, xs⟩ := x0
          simp only [] at d0 d1 hk0 hk1
          obtain ⟨kn, rfl⟩ : ∃ kn : Nat, xk = (kn : Int) := ⟨xk.toNat, by omega⟩
          have hkn : kn < nq := by have := HNU.out; omega
          obtain ⟨bq, fq, cq3, rfl, ⟨_, hbq⟩, hcqk, hcellq⟩ := HQC.out kn hkn
          obtain ⟨q, hqk⟩ : ∃ q, qs[kn]? = some q := ⟨_, List.getElem?_eq_getElem (by rw [HNQ.out]; exact hkn)⟩
          have HQQk := Lib.hid (fun w' (h : Below w.heap.size w w') => HQQ.out w' h kn cq3 q hcqk hqk)
          obtain ⟨Aa, ka2, ca2, Ab, kb2, cb2, he, _, _⟩ := (HQQk.out w (Below.refl _ _)).parts
          obtain ⟨qb, qv1, qv2⟩ := cq3
          simp only [aggC, Value.agg.injEq, Array.mk.injEq, List.cons.injEq, and_true] at he
          obtain ⟨hqb, rfl, rfl⟩ := he
          have HQ4k : Hid (QM 4 q) := HQ4.out q (mem_of_get? hqk)
          have HQA : Hid (qAt qs (kn : Int) = q) := by show _ = _; unfold qAt; rw [Int.toNat_natCast, hqk]; rfl
          have hqc0 : w.cell? ⟨bq, fq + kn * 3, none⟩ = some (.bool qb) := hcellq 0 _ rfl
          have hqc1 : w.cell? ⟨bq, fq + kn * 3 + 1, none⟩ = some (.slice Aa ka2 ca2) := hcellq 1 _ rfl
          have hqc2 : w.cell? ⟨bq, fq + kn * 3 + 2, none⟩ = some (.slice Ab kb2 cb2) := hcellq 2 _ rfl
          clear hj hcell hrg hcqk hcellq hqk hqb
          have hsr : bo < wr.heap.size := Array.getElem?_eq_some_iff.1 HCQX.out.blk |>.1
          have HSR := Lib.hid hsr
          have hli : (i : Int) < (n : Int) := by omega
          have hi00 : (0 : Int) ≤ (i : Int) := by omega
          clear hsr
          obtain ⟨y0, y1, y2, -, -, -⟩ := cells3 HCQX.out.blk
          have z0 := (HBR.out.cell (p := ⟨bq, _, none⟩) hbq).trans hqc0
          have z1 := (HBR.out.cell (p := ⟨bq, _, none⟩) hbq).trans hqc1
          have z2 := (HBR.out.cell (p := ⟨bq, _, none⟩) hbq).trans hqc2
          have hkI : (kn : Int) < (nq : Int) := by omega
          have hk0' : (0 : Int) ≤ (kn : Int) := by omega
          go_upto_region 10 with fail
          go_still_tail 9, (by kernel_rfl)
          change wpList _ _ _ _ _ wr.drew
          obtain ⟨wd, hwd⟩ : ∃ wd, wd = wr.drew := ⟨_, rfl⟩
          rw [← hwd]
          have hbd : Below wr.heap.size wr wd := by rw [hwd]; exact (Below.refl _ _).drew
          have HBD := Lib.hid hbd
          have HAD := Lib.hid (radd_any _ _ x q wd (HCQX.out.rd.below hbd) (HQQk.out wd (HBR.out.trans (hbd.mono HBR.out.size))) (HQS.out.mono (by omega)) (HQ4k.out.mono (by omega)))
          clear hwd hbd y0 y1 y2 z0 z1 z2 hqc0 hqc1 hqc2
          go_wp2_with fail
          refine HAD.out.mono ?_
          rintro e w5 ⟨⟨v5, rfl, hr5⟩, hb5⟩
          have HB5 := Lib.hid (HBD.out.trans (hb5.mono HBD.out.size))
          obtain ⟨s5, A5, k5, c5, B5, l5, m5, rfl⟩ := hr5.shape
          have hblk5 : w5.heap[bo]? = some (.cells #[.bool sg, .slice A1 k1 c1, .slice B1 k2 c2] 56 (0, 0)) := (HB5.out.block _ HSR.out).trans HCQX.out.blk
          obtain ⟨y0, y1, y2, f0, f1, f2⟩ := cells3 hblk5
          go_wp2_with fail
          obtain ⟨w6, hw6⟩ : ∃ w6, w6 = ((w5.setCell ⟨bo, 0, none⟩ (.bool s5)).setCell ⟨bo, 1, none⟩ (.slice A5 k5 c5)).setCell ⟨bo, 2, none⟩ (.slice B5 l5 m5) := ⟨_, rfl⟩
          have HCQ6 : Hid (CellF w6 bo 56 s5 A5 k5 c5 B5 l5 m5 (x + q)) := by rw [hw6]; exact ⟨set3_blk hblk5 _ _ _, hr5.set3 y0 y1 y2 _ _ _⟩
          have hk56 : Keep (· ≠ bo) w5 w6 := by rw [hw6]; exact ((((Keep.refl _ w5).setCell (fun h => h rfl) _).setCell (fun h => h rfl) _).setCell (fun h => h rfl) _)
          have HKP6 : Hid (Keep (fun b => b ≠ bo ∧ b < w4.heap.size) w4 w6) := (HKP.out.trans ((Keep.of_below HB5.out).mono fun k hk => by have := HKP.out.size; omega)).trans (hk56.mono fun k hk => hk.1)
          have HQS6 : Hid (QM (10 * i + 9) (x + q)) := (HQS.out.add HQ4k.out).mono (by omega)
          rw [← hw6]
          have hbel6 : Below W1.heap.size W1 w6 := HBW1.out.trans (Keep.below (HKP6.out.mono fun k hk => ⟨by have := HBO.out.1; omega, by have := HBW1.out.size; omega⟩))
          have HBR6 := Lib.hid (HB1.out.trans (hbel6.mono HB1.out.size))
          have HNO : Hid (¬ Turns l ⟨xp, kn, xs⟩ → eSum (enF qs ch l) (l.take (i + 1)) = x + q) := fun h => by rw [HTK.out, enF_no h, HQA.out]
          have HYES : Hid (Turns l ⟨xp, kn, xs⟩ → eSum (enF qs ch l) (l.take (i + 1)) = x + q + ch) := fun h => by rw [HTK.out, enF_yes h, HQA.out, Rat.add_assoc]
          have hil : i < l.length := by rw [HN.out]; exact hlt
          have HTT : Hid (Turns l ⟨xp, kn, xs⟩ ↔ 0 ≤ ahdN l i l.length ∧ (jobAt l (ahdN l i l.length)).kind ≠ (kn : Int)) := by
            have := turns_ahead HONE.out hil
            rw [HJN.out] at this
            exact this
          have HAHi := Lib.hid (HAH.out w6 HBR6.out i hil)
          have HAB := ahdN_bd l i l.length
          obtain ⟨ah, hah⟩ : ∃ ah, ah = ahdN l i l.length := ⟨_, rfl⟩
          rw [← hah] at HTT HAHi HAB
          obtain ⟨hab1, hab2⟩ := HAB
          rw [HN.out] at hab2
          clear y0 y1 y2 f0 f1 f2 hblk5 hk56 hr5 hb5 hw6 hbel6 hah hil
          go_wp2_with fail
          refine HAHi.out.mono ?_
          rintro e w7 ⟨rfl, hb7⟩
          have HCQ7 : Hid (CellF w7 bo 56 s5 A5 k5 c5 B5 l5 m5 (x + q)) := ⟨(hb7.block _ (Array.getElem?_eq_some_iff.1 HCQ6.out.blk).1).trans HCQ6.out.blk, HCQ6.out.rd.below hb7⟩
          have HKP7 : Hid (Keep (fun b => b ≠ bo ∧ b < w4.heap.size) w4 w7) := HKP6.out.trans ((Keep.of_below hb7).mono fun k hk => by have := HKP6.out.size; omega)
          have hbr7 := HBR6.out.trans (hb7.mono HBR6.out.size)
          have q1 : w7.cell? ⟨b, off + i * 3 + 1, none⟩ = some (.int .i64 (kn : Int)) := ((hbr7.cell (p := ⟨b, _, none⟩) hbl).trans (HBR.out.cell (p := ⟨b, _, none⟩) hbl).symm).trans d1
          have HBR7 := Lib.hid hbr7
          clear d0 d1 hb7 hbr7
          have hi64 : (i : Int) ≤ 64 := by omega
          by_cases hi0 : ah < 0
          · have HNT := Lib.hid (HNO.out (fun h => by have := (HTT.out.1 h).1; omega))
            have hig1 : ¬ (0 ≤ ah) := by omega
            have hig2 : decide (0 ≤ ah) = false := decide_eq_false (by omega)
            have hig3 : decide (ah ≥ 0) = false := decide_eq_false (by omega)
            clear hi0
            go_upto_region 12 with fail
            refine seq_start (S := fun w' => w'.cell? ⟨b, off + i * 3 + 1, none⟩ = some (.int .i64 (kn : Int))) (by kernel_rfl) (by kernel_rfl) (by exact q1) ?_
            repeat (first
              | (refine seq_take0 (v := ?_) ?_ (fun _ _ _ h => h) (by kernel_rfl) ?_ ?_; rotate_left; (focus rfl); (focus (intro w' hSw; (try dsimp only at hSw); go_simp; (try with_reducible rfl); done)); (try simp only [Act.put, List.setIfInBounds_toArray, List.set_cons_zero, List.set_cons_succ]))
              | (refine seq_takeG (v := ?_) (g := ?_) (d := ?_) (b := ?_) (u := ?_) ?_ ?_ ?_ ?_ (fun _ _ _ h => h) (by kernel_rfl) ?_ ?_; rotate_left 5; (focus rfl); (focus rfl); (focus rfl); (focus (first | rfl | (go_simp; done))); (focus (intro w' hSw; (try dsimp only at hSw); go_simp; (try with_reducible rfl); done)); (try simp only [Act.put, List.setIfInBounds_toArray, List.set_cons_zero, List.set_cons_succ]))
              | (refine seq_skipG (g := ?_) (d := ?_) (b := ?_) (u := ?_) ?_ ?_ ?_ ?_ (fun _ _ _ h => h) (by kernel_rfl) ?_; rotate_left 4; (focus rfl); (focus rfl); (focus rfl); (focus (first | rfl | (go_simp; done))); (try simp only [Act.put, List.setIfInBounds_toArray, List.set_cons_zero, List.set_cons_succ])))
            refine seq_done (by kernel_rfl) ?_
            clear q1
            go_wp2_with fail
            go_roundw
            case rel => exact ⟨i + 1, _, _, _, _, _, _, _, _, by omega, by go_num, HNT.out.symm, HQS6.out.mono (by omega), HCQ7.out.drew, HKP7.out.trans (Keep.drew _ _)⟩
            case measure => simp [intOf]; omega
          · obtain ⟨m, rfl⟩ : ∃ m : Nat, ah = (m : Int) := ⟨ah.toNat, by omega⟩
            obtain ⟨b', off', xm, hA', ⟨_, hbl'⟩, hjm, hcm⟩ := HLC.out m (by omega)
            cases hA'
            have p1 : w7.cell? ⟨b, off + m * 3 + 1, none⟩ = some (.int .i64 xm.kind) := (HBR7.out.cell (p := ⟨b, _, none⟩) hbl).trans (hcm 1 _ rfl)
            rw [jobAt_of hjm] at HTT
            obtain ⟨mp, mk, ms⟩ := xm
            simp only [] at p1 HTT
            have hm0 : (0 : Int) ≤ (m : Int) := by omega
            have hig2 : decide (0 ≤ (m : Int)) = true := decide_eq_true hm0
            clear hcm hjm hi0
            by_cases hkk : mk = (kn : Int)
            · subst hkk
              have HNT := Lib.hid (HNO.out (fun h => (HTT.out.1 h).2 rfl))
              go_upto_region 12 with fail
              refine seq_start (S := fun w' => w'.cell? ⟨b, off + i * 3 + 1, none⟩ = some (.int .i64 (kn : Int)) ∧ w'.cell? ⟨b, off + m * 3 + 1, none⟩ = some (.int .i64 (kn : Int))) (by kernel_rfl) (by kernel_rfl) (by exact ⟨q1, p1⟩) ?_
              repeat (first
                | (refine seq_take0 (v := ?_) ?_ (fun _ _ _ h => h) (by kernel_rfl) ?_ ?_; rotate_left; (focus rfl); (focus (intro w' hSw; (try dsimp only at hSw); go_simp; (try with_reducible rfl); done)); (try simp only [Act.put, List.setIfInBounds_toArray, List.set_cons_zero, List.set_cons_succ]))
                | (refine seq_takeG (v := ?_) (g := ?_) (d := ?_) (b := ?_) (u := ?_) ?_ ?_ ?_ ?_ (fun _ _ _ h => h) (by kernel_rfl) ?_ ?_; rotate_left 5; (focus rfl); (focus rfl); (focus rfl); (focus (first | rfl | (go_simp; done))); (focus (intro w' hSw; (try dsimp only at hSw); go_simp; (try with_reducible rfl); done)); (try simp only [Act.put, List.setIfInBounds_toArray, List.set_cons_zero, List.set_cons_succ]))
                | (refine seq_skipG (g := ?_) (d := ?_) (b := ?_) (u := ?_) ?_ ?_ ?_ ?_ (fun _ _ _ h => h) (by kernel_rfl) ?_; rotate_left 4; (focus rfl); (focus rfl); (focus rfl); (focus (first | rfl | (go_simp; done))); (try simp only [Act.put, List.setIfInBounds_toArray, List.set_cons_zero, List.set_cons_succ])))
              refine seq_done (by kernel_rfl) ?_
              clear q1 p1
              go_wp2_with fail
              go_roundw
              case rel => exact ⟨i + 1, _, _, _, _, _, _, _, _, by omega, by go_num, HNT.out.symm, HQS6.out.mono (by omega), HCQ7.out.drew, HKP7.out.trans (Keep.drew _ _)⟩
              case measure => simp [intOf]; omega
            · have hkk1 : (mk != (kn : Int)) = true := by simpa using hkk
              have hkk2 : decide (mk = (kn : Int)) = false := decide_eq_false hkk
              have HNT := Lib.hid (HYES.out (HTT.out.2 ⟨hm0, hkk⟩))
              go_upto_region 12 with fail
              refine seq_start (S := fun w' => w'.cell? ⟨b, off + i * 3 + 1, none⟩ = some (.int .i64 (kn : Int)) ∧ w'.cell? ⟨b, off + m * 3 + 1, none⟩ = some (.int .i64 mk)) (by kernel_rfl) (by kernel_rfl) (by exact ⟨q1, p1⟩) ?_
              repeat (first
                | (refine seq_take0 (v := ?_) ?_ (fun _ _ _ h => h) (by kernel_rfl) ?_ ?_; rotate_left; (focus rfl); (focus (intro w' hSw; (try dsimp only at hSw); go_simp; (try with_reducible rfl); done)); (try simp only [Act.put, List.setIfInBounds_toArray, List.set_cons_zero, List.set_cons_succ]))
                | (refine seq_takeG (v := ?_) (g := ?_) (d := ?_) (b := ?_) (u := ?_) ?_ ?_ ?_ ?_ (fun _ _ _ h => h) (by kernel_rfl) ?_ ?_; rotate_left 5; (focus rfl); (focus rfl); (focus rfl); (focus (first | rfl | (go_simp; done))); (focus (intro w' hSw; (try dsimp only at hSw); go_simp; (try with_reducible rfl); done)); (try simp only [Act.put, List.setIfInBounds_toArray, List.set_cons_zero, List.set_cons_succ]))
                | (refine seq_skipG (g := ?_) (d := ?_) (b := ?_) (u := ?_) ?_ ?_ ?_ ?_ (fun _ _ _ h => h) (by kernel_rfl) ?_; rotate_left 4; (focus rfl); (focus rfl); (focus rfl); (focus (first | rfl | (go_simp; done))); (try simp only [Act.put, List.setIfInBounds_toArray, List.set_cons_zero, List.set_cons_succ])))
              refine seq_done (by kernel_rfl) ?_
              clear q1 p1
              obtain ⟨wd6, hwd6⟩ : ∃ wd, wd = w7.drew := ⟨_, rfl⟩
              rw [← hwd6]
              have HCQ8' : Hid (CellF wd6 bo 56 s5 A5 k5 c5 B5 l5 m5 (x + q)) := by rw [hwd6]; exact HCQ7.out.drew
              have HKP8' : Hid (Keep (fun b => b ≠ bo ∧ b < w4.heap.size) w4 wd6) := by rw [hwd6]; exact HKP7.out.trans (Keep.drew _ _)
              have hbel7 : Below W1.heap.size W1 wd6 := HBW1.out.trans (Keep.below (HKP8'.out.mono fun k hk => ⟨by have := HBO.out.1; omega, by have := HBW1.out.size; omega⟩))
              have HBR8 := Lib.hid (HB1.out.trans (hbel7.mono HB1.out.size))
              obtain ⟨y0, y1, y2, f0, f1, f2⟩ := cells3 HCQ8'.out.blk
              obtain ⟨z0, z1, z2, -, -, -⟩ := HC7.out wd6 hbel7
              have HAD7 := Lib.hid (radd_any _ _ (x + q) ch wd6 HCQ8'.out.rd (HCQ.out wd6 HBR8.out) (HQS6.out.mono (by omega)) (HC4.out.mono (by omega)))
              clear hwd6 hbel7
              go_wp2_with fail
              refine HAD7.out.mono ?_
              rintro e w8 ⟨⟨v8, rfl, hr8⟩, hb8⟩
              have HB8 := Lib.hid hb8
              obtain ⟨s8, A8, k8, c8, B8, l8, m8, rfl⟩ := hr8.shape
              have hblk8 := (hb8.block _ (Array.getElem?_eq_some_iff.1 HCQ8'.out.blk).1).trans HCQ8'.out.blk
              clear y0 y1 y2 f0 f1 f2 z0 z1 z2
              obtain ⟨y0, y1, y2, f0, f1, f2⟩ := cells3 hblk8
              go_wp2_with fail
              have HCQ8 := Lib.hid (show CellF (((w8.setCell ⟨bo, 0, none⟩ (.bool s8)).setCell ⟨bo, 1, none⟩ (.slice A8 k8 c8)).setCell ⟨bo, 2, none⟩ (.slice B8 l8 m8)) bo 56 s8 A8 k8 c8 B8 l8 m8 (x + q + ch) from ⟨set3_blk hblk8 _ _ _, hr8.set3 y0 y1 y2 _ _ _⟩)
              have HKP8 : Hid (Keep (fun b => b ≠ bo ∧ b < w4.heap.size) w4 (((w8.setCell ⟨bo, 0, none⟩ (.bool s8)).setCell ⟨bo, 1, none⟩ (.slice A8 k8 c8)).setCell ⟨bo, 2, none⟩ (.slice B8 l8 m8))) :=
                (HKP8'.out.trans ((Keep.of_below HB8.out).mono fun k hk => by have := HKP8'.out.size; omega)).trans ((((Keep.refl _ w8).setCell (fun h => h.1 rfl) _).setCell (fun h => h.1 rfl) _).setCell (fun h => h.1 rfl) _)
              clear y0 y1 y2 f0 f1 f2 hblk8 hr8 hb8
              go_roundw
              case rel => exact ⟨i + 1, _, _, _, _, _, _, _, _, by omega, by go_num, HNT.out.symm, (HQS6.out.add HC4.out).mono (by omega), HCQ8.out, HKP8.out⟩
              case measure => simp [intOf]; omega
        · have hin : i = n := by omega
          have hli : ¬ ((i : Int) < (n : Int)) := by omega
          have HFIN : Hid (x = eSum (enF qs ch l) l) := by
            show _ = _
            rw [HX.out, hin, ← HN.out, List.take_length]
          obtain ⟨y0, y1, y2, -, -, -⟩ := cells3 HCQX.out.blk
          obtain ⟨z0, z1, z2, f0, f1, f2⟩ := HC8.out wr HBEL.out
          clear hin hlt
          go_wp2_with fail
          rw [← HFIN.out]
          exact bodyPost_ret (v := .tuple #[.agg #[.bool sg, .slice A1 k1 c1, .slice B1 k2 c2], .int .i64 0]) (by simp [results, Tryz.results16, go_sem, z0, z1, z2]) rfl ⟨⟨_, rfl, HCQX.out.rd.set3 z0 z1 z2 _ _ _⟩, ((HBR.out.setCell (by simp <;> omega) _).setCell (by simp <;> omega) _).setCell (by simp <;> omega) _⟩
    · have hne : ((nq : Int) != (nu : Int)) = true := by rw [bne_iff_ne]; omega
      have hne2 : (nq != nu) = true := by rw [bne_iff_ne]; exact hnn2
      have hne3 : decide ((nq : Int) = (nu : Int)) = false := decide_eq_false (by omega)
      have hne4 : decide (nq = nu) = false := decide_eq_false hnn2
      have HA : Hid (enErr d l qs.length = 4) := by show _ = _; rw [HER.out]; simp [hnn2]
      have HAS : Hid (enSum d l qs ch = 0) := by show _ = _; rw [HSM.out, HA.out]; rfl
      rw [HA.out, HAS.out]
      clear hnn2
      go_enter Tryz.func16, Tryz.ntmps16
      go_wp2_with fail
      rw [← HW1.out]
      refine (HWH.out W1).mono ?_
      rintro e wh ⟨⟨vh, rfl, hrh⟩, hbh⟩
      rw [← zero_parts] at hrh
      obtain ⟨s0, A0, k0, c0, B0, l0, m0, rfl⟩ := hrh.shape
      go_upto_region 2 with fail
      obtain ⟨W2, hW2⟩ : ∃ W2, W2 = wh.alloc (.cells #[.bool s0, .slice A0 k0 c0, .slice B0 l0 m0] 56) := ⟨_, rfl⟩
      obtain ⟨bo, hbo⟩ : ∃ bo, bo = wh.heap.size := ⟨_, rfl⟩
      have hm10 : W2.heap[bo]? = some (.cells #[.bool s0, .slice A0 k0 c0, .slice B0 l0 m0] 56 (0, 0)) := by rw [hW2, hbo]; exact heap_alloc_new wh _
      have hb2 : Below W1.heap.size W1 W2 := by rw [hW2]; exact hbh.alloc hbh.size _
      have HBO : Hid (W1.heap.size ≤ bo ∧ bo < W2.heap.size) := ⟨by rw [hbo]; exact hbh.size, by rw [hW2, hbo]; simp⟩
      have hr2 : RdF W2 (.agg #[.bool s0, .slice A0 k0 c0, .slice B0 l0 m0]) 0 := by rw [hW2]; exact hrh.below ((Below.refl _ _).alloc (Nat.le_refl _) _)
      rw [← hbo, ← hW2]
      have HM10 := Lib.hid hm10
      have HR2 := Lib.hid hr2
      have HB2 := Lib.hid hb2
      clear hm10 hb2 hW2 hbo hr2 hrh hbh
      obtain ⟨x0, x1, x2, x3, x4⟩ : _ ∧ _ ∧ _ ∧ _ ∧ _ := ⟨(HC4'.out W2 HB2.out 0).1, (HC4'.out W2 HB2.out 1).1, (HC4'.out W2 HB2.out 2).1, (HC4'.out W2 HB2.out 3).1, (HC4'.out W2 HB2.out 4).1⟩
      simp only [List.getElem?_toArray, List.getElem?_cons_zero, List.getElem?_cons_succ] at x0 x1 x2 x3 x4
      go_wp2_with fail
      clear x0 x1 x2 x3 x4
      refine (HCH.out W2 (HB1.out.trans (HB2.out.mono HB1.out.size))).mono ?_
      rintro e w4 ⟨rfl, hb4⟩
      have HB4 : Hid (Below W2.heap.size W2 w4) := hb4
      have HBW1 : Hid (Below W1.heap.size W1 w4) := HB2.out.trans (hb4.mono HB2.out.size)
      have HCQ0 : Hid (CellF w4 bo 56 s0 A0 k0 c0 B0 l0 m0 0) := ⟨(HB4.out.block _ HBO.out.2).trans HM10.out, HR2.out.below hb4⟩
      clear hb4
      obtain ⟨y0, y1, y2, -, -, -⟩ := cells3 HCQ0.out.blk
      obtain ⟨x0, x1, x2, x3, x4⟩ : _ ∧ _ ∧ _ ∧ _ ∧ _ := ⟨(HC4'.out w4 HBW1.out 0).1, (HC4'.out w4 HBW1.out 1).1, (HC4'.out w4 HBW1.out 2).1, (HC4'.out w4 HBW1.out 3).1, (HC4'.out w4 HBW1.out 4).1⟩
      simp only [List.getElem?_toArray, List.getElem?_cons_zero, List.getElem?_cons_succ] at x0 x1 x2 x3 x4
      obtain ⟨z0, z1, z2, f0, f1, f2⟩ := HC8.out w4 HBW1.out
      have HBW := Lib.hid (HB1.out.trans (HBW1.out.mono HB1.out.size))
      go_wp2_with fail
      exact bodyPost_ret (v := .tuple #[.agg #[.bool s0, .slice A0 k0 c0, .slice B0 l0 m0], .int .i64 4]) (by simp [results, Tryz.results16, go_sem, z0, z1, z2]) rfl ⟨⟨_, rfl, HCQ0.out.rd.set3 z0 z1 z2 _ _ _⟩, ((HBW.out.setCell (by simp <;> omega) _).setCell (by simp <;> omega) _).setCell (by simp <;> omega) _⟩
  · have hz' : (ce != 0) = true := by rw [bne_iff_ne]; exact hz
    have HA : Hid (enErr d l qs.length = ce) := by show _ = _; rw [HER.out, if_pos hz]
    have HAS : Hid (enSum d l qs ch = 0) := by show _ = _; rw [HSM.out, HA.out, if_neg hz]
    rw [HA.out, HAS.out]
    clear hz
    go_enter Tryz.func16, Tryz.ntmps16
    go_wp2_with fail
    rw [← HW1.out]
    refine (HWH.out W1).mono ?_
    rintro e wh ⟨⟨vh, rfl, hrh⟩, hbh⟩
    rw [← zero_parts] at hrh
    obtain ⟨s0, A0, k0, c0, B0, l0, m0, rfl⟩ := hrh.shape
    go_upto_region 2 with fail
    obtain ⟨W2, hW2⟩ : ∃ W2, W2 = wh.alloc (.cells #[.bool s0, .slice A0 k0 c0, .slice B0 l0 m0] 56) := ⟨_, rfl⟩
    obtain ⟨bo, hbo⟩ : ∃ bo, bo = wh.heap.size := ⟨_, rfl⟩
    have hm10 : W2.heap[bo]? = some (.cells #[.bool s0, .slice A0 k0 c0, .slice B0 l0 m0] 56 (0, 0)) := by rw [hW2, hbo]; exact heap_alloc_new wh _
    have hb2 : Below W1.heap.size W1 W2 := by rw [hW2]; exact hbh.alloc hbh.size _
    have HBO : Hid (W1.heap.size ≤ bo ∧ bo < W2.heap.size) := ⟨by rw [hbo]; exact hbh.size, by rw [hW2, hbo]; simp⟩
    have hr2 : RdF W2 (.agg #[.bool s0, .slice A0 k0 c0, .slice B0 l0 m0]) 0 := by rw [hW2]; exact hrh.below ((Below.refl _ _).alloc (Nat.le_refl _) _)
    rw [← hbo, ← hW2]
    have HM10 := Lib.hid hm10
    have HR2 := Lib.hid hr2
    have HB2 := Lib.hid hb2
    clear hm10 hb2 hW2 hbo hr2 hrh hbh
    obtain ⟨x0, x1, x2, x3, x4⟩ : _ ∧ _ ∧ _ ∧ _ ∧ _ := ⟨(HC4'.out W2 HB2.out 0).1, (HC4'.out W2 HB2.out 1).1, (HC4'.out W2 HB2.out 2).1, (HC4'.out W2 HB2.out 3).1, (HC4'.out W2 HB2.out 4).1⟩
    simp only [List.getElem?_toArray, List.getElem?_cons_zero, List.getElem?_cons_succ] at x0 x1 x2 x3 x4
    go_wp2_with fail
    clear x0 x1 x2 x3 x4
    refine (HCH.out W2 (HB1.out.trans (HB2.out.mono HB1.out.size))).mono ?_
    rintro e w4 ⟨rfl, hb4⟩
    have HB4 : Hid (Below W2.heap.size W2 w4) := hb4
    have HBW1 : Hid (Below W1.heap.size W1 w4) := HB2.out.trans (hb4.mono HB2.out.size)
    have HCQ0 : Hid (CellF w4 bo 56 s0 A0 k0 c0 B0 l0 m0 0) := ⟨(HB4.out.block _ HBO.out.2).trans HM10.out, HR2.out.below hb4⟩
    clear hb4
    obtain ⟨y0, y1, y2, -, -, -⟩ := cells3 HCQ0.out.blk
    obtain ⟨z0, z1, z2, f0, f1, f2⟩ := HC8.out w4 HBW1.out
    have HBW := Lib.hid (HB1.out.trans (HBW1.out.mono HB1.out.size))
    go_wp2_with fail
    exact bodyPost_ret (v := .tuple #[.agg #[.bool s0, .slice A0 k0 c0, .slice B0 l0 m0], .int .i64 ce]) (by simp [results, Tryz.results16, go_sem, z0, z1, z2]) rfl ⟨⟨_, rfl, HCQ0.out.rd.set3 z0 z1 z2 _ _ _⟩, ((HBW.out.setCell (by simp <;> omega) _).setCell (by simp <;> omega) _).setCell (by simp <;> omega) _⟩
end Go.Proofs.YtogccnngdfancaaGreat
