/- Walk of plant.Energy. -/
import Derived.Test.YtogccnngdfancaaGreatPart32
import Derived.Test.YtogccnngdfancaaGreatPart34
import Derived.Test.YtogccnngdfancaaGreatPart35
namespace Go.Proofs.YtogccnngdfancaaGreat
open Go.RowKit
set_option linter.unusedVariables false
set_option linter.unusedSimpArgs false
def EnPost (d : WorksD) (l : List JobD) (qs : List Rat) (ch : Rat) (w : World) (e : Ending) (w' : World) : Prop :=
  (∃ v', e = .returned (.tuple #[v', .int .i64 (enErr d l qs.length)]) ∧ RdQ w' v' (enSum d l qs ch)) ∧ Below w.heap.size w w'
theorem cells3 {w : World} {b t : Nat} {c0 c1 c2 : Value} (h : w.heap[b]? = some (.cells #[c0, c1, c2] t (0, 0))) :
    w.cell? ⟨b, 0, none⟩ = some c0 ∧ w.cell? ⟨b, 1, none⟩ = some c1 ∧ w.cell? ⟨b, 2, none⟩ = some c2 ∧ w.frozen? ⟨b, 0, none⟩ = false ∧ w.frozen? ⟨b, 1, none⟩ = false ∧ w.frozen? ⟨b, 2, none⟩ = false :=
  res3 h (Below.refl _ _)
theorem RdQ.shape {w : World} {v : Value} {x : Rat} (h : RdQ w v x) : ∃ s A k c B l m, v = .agg #[.bool s, .slice A k c, .slice B l m] :=
  let ⟨A, k, c, B, l, m, e, _, _⟩ := h.parts; ⟨_, A, k, c, B, l, m, e⟩
theorem enF_yes {qs : List Rat} {ch : Rat} {l : List JobD} {j : JobD} (h : Turns l j) : enF qs ch l j = qAt qs j.kind + ch := by unfold enF; rw [if_pos h]
theorem enF_no {qs : List Rat} {ch : Rat} {l : List JobD} {j : JobD} (h : ¬ Turns l j) : enF qs ch l j = qAt qs j.kind := by unfold enF; rw [if_neg h, Rat.add_zero]
theorem CellQ.drew {w : World} {b t : Nat} {s : Bool} {A : Option Addr} {k c : Nat} {B : Option Addr} {k' c' : Nat} {x : Rat} (h : CellQ w b t s A k c B k' c' x) : CellQ w.drew b t s A k c B k' c' x := ⟨h.blk, h.rd.below ((Below.refl _ _).drew)⟩
theorem QS.zero {k : Nat} (h : 1 ≤ k) : QS k 0 := ⟨by show dl 0 ≤ k; rw [dl_zero]; omega, by show dl 1 ≤ k; rw [dl_one]; exact h⟩
set_option maxRecDepth 100000 in
set_option maxHeartbeats 4000000 in
theorem energy_any (v vl vq vc : Value) (d : WorksD) (l : List JobD) (qs : List Rat) (ch : Rat) (S T U : Nat → Prop) (w : World) (hv : WkV w S v d) (hl : RdK 3 jobC w T vl l) (hll : l.length ≤ 1000) (hq : RdQs w U vq qs) (hc : RdQ w vc ch) (hq4 : ∀ q ∈ qs, QS 2 q) (hc4 : QS 2 ch) :
    Calls Tryz.prog 15 #[v, vl, vq, vc] w (EnPost d l qs ch w) := by
  have HCH := Lib.hid (fun w' (h : Below w.heap.size w w') => Check_any v vl d l S T w' (hv.below h) (hl.below jobC_0 h) hll)
  have HSO := Lib.hid (fun w' (h : Below w.heap.size w w') (h2 : l.length ≤ 64) => sorted_any vl l T w' (hl.below jobC_0 h) h2)
  obtain ⟨vcu, vn, vm, rfl, hcu, -, -⟩ := hv.lt
  obtain ⟨Au, nu, cu, rfl, hnu, -, -, -⟩ := hcu.open_
  obtain ⟨A, n, cap, rfl, hn, hcap, hmax, -⟩ := (hl.lt jobC_0).open_
  obtain ⟨cs, hcs, hcl, hcq⟩ := hq
  obtain ⟨Aq, nq, cq, rfl, hnq, hcapq, hmaxq, hqc⟩ := (hcs.lt ratC_0).open_
  obtain ⟨Ca, ka, ca, Cb, kb, cb, rfl, ha, hb⟩ := hc.parts
  have HQQ := Lib.hid (fun w' (h : Below w.heap.size w w') i c q (h1 : cs[i]? = some c) (h2 : qs[i]? = some q) => (hcq i c q h1 h2).below h)
  have HQC := Lib.hid hqc
  have HCQ := Lib.hid (fun w' (h : Below w.heap.size w w') => hc.below h)
  have HQ4 := Lib.hid hq4
  have HC4 := Lib.hid hc4
  have HNQ : Hid (qs.length = nq) := hcl.symm.trans hnq
  have HNU := Lib.hid hnu
  have HN := Lib.hid hn
  obtain ⟨ce, hce⟩ : ∃ ce, ce = chkE d l := ⟨_, rfl⟩
  unfold CheckPost at HCH
  unfold EnPost
  have HER : Hid (enErr d l qs.length = if ce ≠ 0 then ce else if nq ≠ nu then 4 else 0) := by show _ = _; rw [hce]; unfold enErr; rw [HNQ.out, hnu]
  have HSM : Hid (enSum d l qs ch = if enErr d l qs.length = 0 then eSum (enF qs ch l) l else 0) := rfl
  rw [← hce] at HCH
  have HCE := Lib.hid hce
  obtain ⟨ds, hds⟩ : ∃ b, b = decide (ch.num < 0) := ⟨_, rfl⟩
  rw [← hds] at HCQ ⊢
  obtain ⟨W1, hW1⟩ : ∃ W1, W1 = ((w.alloc (.cells #[.int .i64 d.presses, .int .i64 d.change, .slice Au nu cu, vn, vm] 38)).alloc (.cells #[.bool ds, .slice Ca ka ca, .slice Cb kb cb] 52)).alloc (.cells #[.bool false, .slice none 0 0, .slice none 0 0] 52) := ⟨_, rfl⟩
  have hb1 : Below w.heap.size w W1 := by rw [hW1]; exact (((Below.refl _ w).alloc (Nat.le_refl _) _).alloc (by simp) _).alloc (by simp <;> omega) _
  have HSZ : Hid (W1.heap.size = w.heap.size + 3) := by show _ = _; rw [hW1]; simp
  have hm4 : W1.heap[w.heap.size]? = some (.cells #[.int .i64 d.presses, .int .i64 d.change, .slice Au nu cu, vn, vm] 38 (0, 0)) := by
    rw [hW1]
    exact (((Below.refl (w.alloc _).heap.size (w.alloc _)).alloc (Nat.le_refl _) _).alloc (by simp) _ |>.block _ (by simp)).trans (heap_alloc_new w _)
  have hm7 : W1.heap[w.heap.size + 1]? = some (.cells #[.bool ds, .slice Ca ka ca, .slice Cb kb cb] 52 (0, 0)) := by
    rw [hW1]
    have := heap_alloc_new (w.alloc (.cells #[.int .i64 d.presses, .int .i64 d.change, .slice Au nu cu, vn, vm] 38)) (.cells #[.bool ds, .slice Ca ka ca, .slice Cb kb cb] 52)
    rw [show (w.alloc (.cells #[.int .i64 d.presses, .int .i64 d.change, .slice Au nu cu, vn, vm] 38)).heap.size = w.heap.size + 1 by simp] at this
    rw [← this]
    exact ((Below.refl _ _).alloc (Nat.le_refl _) _).block _ (by simp)
  have hm8 : W1.heap[w.heap.size + 2]? = some (.cells #[.bool false, .slice none 0 0, .slice none 0 0] 52 (0, 0)) := by
    rw [hW1]
    have := heap_alloc_new ((w.alloc (.cells #[.int .i64 d.presses, .int .i64 d.change, .slice Au nu cu, vn, vm] 38)).alloc (.cells #[.bool ds, .slice Ca ka ca, .slice Cb kb cb] 52)) (.cells #[.bool false, .slice none 0 0, .slice none 0 0] 52)
    rw [show ((w.alloc (.cells #[.int .i64 d.presses, .int .i64 d.change, .slice Au nu cu, vn, vm] 38)).alloc (.cells #[.bool ds, .slice Ca ka ca, .slice Cb kb cb] 52)).heap.size = w.heap.size + 2 by simp] at this
    exact this
  have HC4' : Hid (∀ w', Below W1.heap.size W1 w' → ∀ i, w'.cell? ⟨w.heap.size, i, none⟩ = _ ∧ _) := fun w' hb => resL hm4 hb
  have HC7 : Hid (∀ w', Below W1.heap.size W1 w' → _) := fun w' hb => res3 hm7 hb
  have HC8 : Hid (∀ w', Below W1.heap.size W1 w' → _) := fun w' hb => res3 hm8 hb
  have HW1 := Lib.hid hW1
  have HB1 := Lib.hid hb1
  have hnn : n ≤ 1000 := by rw [← hn]; exact hll
  clear hW1 hm4 hm7 hm8 hb1 hv hl hn hll hcu hnu hcs hcl hcq hnq hqc hc ha hb hq4 hc4 hce hds
  have c40 := (HC4'.out W1 (Below.refl _ _) 0).1
  have c41 := (HC4'.out W1 (Below.refl _ _) 1).1
  have c42 := (HC4'.out W1 (Below.refl _ _) 2).1
  have c43 := (HC4'.out W1 (Below.refl _ _) 3).1
  have c44 := (HC4'.out W1 (Below.refl _ _) 4).1
  simp only [List.getElem?_toArray, List.getElem?_cons_zero, List.getElem?_cons_succ] at c40 c41 c42 c43 c44
  by_cases hz : ce = 0
  · subst hz
    by_cases hnn2 : nq = nu
    · subst hnn2
      have HVA := Lib.hid (chkE_zero.1 HCE.out.symm)
      have HVA := Lib.hid (chkE_zero.1 HCE.out.symm)
      have HA : Hid (enErr d l qs.length = 0) := by show _ = _; rw [HER.out]; simp
      have HAS : Hid (enSum d l qs ch = eSum (enF qs ch l) l) := by show _ = _; rw [HSM.out, HA.out, if_pos rfl]
      rw [HA.out, HAS.out]
      have HRN : Hid (∀ x ∈ l, InRange d x) := HVA.out.2.2.rng
      have HONE := Lib.hid (oneAt_of (wgood_of HVA.out.1) HRN.out HVA.out.2.2.pair)
      go_enter Tryz.func15, Tryz.ntmps15
      go_wp2_with fail
      rw [← HW1.out]
      refine (HCH.out W1 HB1.out).mono ?_
      rintro e w2 ⟨rfl, hb2⟩
      have HB2' : Hid (Below W1.heap.size W1 w2) := hb2
      have x0 := (HC4'.out w2 hb2 0).1
      have x1 := (HC4'.out w2 hb2 1).1
      have x2 := (HC4'.out w2 hb2 2).1
      have x3 := (HC4'.out w2 hb2 3).1
      have x4 := (HC4'.out w2 hb2 4).1
      simp only [List.getElem?_toArray, List.getElem?_cons_zero, List.getElem?_cons_succ] at x0 x1 x2 x3 x4
      clear hb2 c40 c41 c42 c43 c44
      go_wp2_with fail
      clear x0 x1 x2 x3 x4
      obtain ⟨W3, hW3⟩ : ∃ W3, W3 = w2.alloc (.cells #[.bool false, .slice none 0 0, .slice none 0 0] 52) := ⟨_, rfl⟩
      obtain ⟨bo, hbo⟩ : ∃ bo, bo = w2.heap.size := ⟨_, rfl⟩
      have hm11 : W3.heap[bo]? = some (.cells #[.bool false, .slice none 0 0, .slice none 0 0] 52 (0, 0)) := by rw [hW3, hbo]; exact heap_alloc_new w2 _
      have hb3 : Below W1.heap.size W1 W3 := by rw [hW3]; exact HB2'.out.alloc HB2'.out.size _
      have HBO : Hid (W1.heap.size ≤ bo ∧ bo < W3.heap.size) := ⟨by rw [hbo]; exact HB2'.out.size, by rw [hW3, hbo]; simp⟩
      rw [← hbo, ← hW3]
      have HM11 := Lib.hid hm11
      have HB3 := Lib.hid hb3
      clear hm11 hb3 hW3 hbo
      refine (HSO.out W3 (HB1.out.trans (HB3.out.mono HB1.out.size)) HVA.out.2.1).mono ?_
      rintro e w4 ⟨⟨v4, s, rfl, hown, hperm, hsrt⟩, hb4⟩
      have HB4 : Hid (Below W3.heap.size W3 w4) := hb4
      have hsn : s.length = n := by rw [hperm.length_eq, HN.out]
      have hrd := (RdK.of_own jobC_len hown hperm.length_eq).lt jobC_0
      obtain ⟨As, ns, caps, rfl, hns, -, -, hsc⟩ := hrd.open_
      obtain rfl : n = ns := by rw [← hns, hsn]
      have HSC := Lib.hid hsc
      have HPERM := Lib.hid hperm
      have HONE2 : Hid (OneAt s) := oneAt_of (wgood_of HVA.out.1) (fun x hx => HRN.out x (hperm.mem_iff.1 hx)) ((pairs_perm hperm).2 HVA.out.2.2.pair)
      have HSRT := Lib.hid hsrt
      have HSN := Lib.hid hsn
      have HRS : Hid (∀ x ∈ s, InRange d x) := fun x hx => HRN.out x (hperm.mem_iff.1 hx)
      have HCQ0 : Hid (CellQ w4 bo 52 false none 0 0 none 0 0 0) := ⟨(HB4.out.block _ HBO.out.2).trans HM11.out, RdQ.zero _⟩
      clear hown hperm hsrt hb4 hsn hrd hns hsc HONE HRN
      go_wp2_with fail

      have hn64 : n ≤ 64 := by have := HVA.out.2.1; rw [HN.out] at this; exact this
      go_loopw [33] (fun iv wr => ∃ (i : Nat) (sg : Bool) (A : Option Addr) (k c : Nat) (B : Option Addr) (k' c' : Nat) (x : Rat), i ≤ n ∧ iv = .int .i64 (i : Int) ∧ x = eSum (enF qs ch s) (s.take i) ∧ QS (6 * i + 2) x ∧ CellQ wr bo 52 sg A k c B k' c' x ∧ Keep (fun b => b ≠ bo ∧ b < w4.heap.size) w4 wr) (fun iv _ => n - (intOf iv).toNat)
      case atStart => exact ⟨0, _, _, _, _, _, _, _, _, Nat.zero_le _, rfl, rfl, QS.zero (by omega), HCQ0.out, Keep.refl _ _⟩
      case round =>
        clear HCQ0
        obtain ⟨i, sg, A1, k1, c1, B1, k2, c2, x, hi, rfl, hx, hqs, hcq, hkp⟩ := hrel
        have HX := Lib.hid hx
        have HQS := Lib.hid hqs
        have HCQX := Lib.hid hcq
        have HKP := Lib.hid hkp
        have hbel : Below W1.heap.size W1 wr := HB3.out.trans ((HB4.out.mono HB3.out.size).trans (Keep.below (hkp.mono fun k hk => ⟨by have := HBO.out.1; omega, by have := HB3.out.size; have := HB4.out.size; omega⟩)))
        have HBEL := Lib.hid hbel
        have HBR := Lib.hid (HB1.out.trans (hbel.mono HB1.out.size))
        clear hx hqs hcq hkp hbel
        by_cases hlt : i < n
        · obtain ⟨b, off, x0, rfl, ⟨hb1, hbl⟩, hj, hcell⟩ := HSC.out i hlt
          have hbne : b ≠ bo := by have := HBO.out.2; omega
          have d0 : wr.cell? ⟨b, off + i * 3, none⟩ = some (.int .i64 x0.press) := (HKP.out.cell (p := ⟨b, _, none⟩) ⟨hbne, hbl⟩).trans (hcell 0 _ rfl)
          have d1 : wr.cell? ⟨b, off + i * 3 + 1, none⟩ = some (.int .i64 x0.kind) := (HKP.out.cell (p := ⟨b, _, none⟩) ⟨hbne, hbl⟩).trans (hcell 1 _ rfl)
          have d2 : wr.cell? ⟨b, off + i * 3 + 2, none⟩ = some (.int .i64 x0.start) := (HKP.out.cell (p := ⟨b, _, none⟩) ⟨hbne, hbl⟩).trans (hcell 2 _ rfl)
          have HJ := Lib.hid hj
          have hrg := HRS.out x0 (mem_of_get? hj)
          have HTK : Hid (eSum (enF qs ch s) (s.take (i + 1)) = x + enF qs ch s x0) := by show _ = _; rw [eSum_take hj, HX.out]
          have hk0 := hrg.k0
          have hk1 := hrg.k1
          have hjn : jobN s i = x0 := jobAt_of hj
          have HJN := Lib.hid hjn
          obtain ⟨xp, xk, xs⟩ := x0
          simp only [] at d0 d1 d2 hk0 hk1
          obtain ⟨kn, rfl⟩ : ∃ kn : Nat, xk = (kn : Int) := ⟨xk.toNat, by omega⟩
          have hkn : kn < nq := by have := HNU.out; omega
          obtain ⟨bq, fq, cq3, rfl, ⟨_, hbq⟩, hcqk, hcellq⟩ := HQC.out kn hkn
          obtain ⟨q, hqk⟩ : ∃ q, qs[kn]? = some q := ⟨_, List.getElem?_eq_getElem (by rw [HNQ.out]; exact hkn)⟩
          have HQQk := Lib.hid (fun w' (h : Below w.heap.size w w') => HQQ.out w' h kn cq3 q hcqk hqk)
          obtain ⟨Aa, ka2, ca2, Ab, kb2, cb2, he, _, _⟩ := (HQQk.out w (Below.refl _ _)).parts
          obtain ⟨qb, qv1, qv2⟩ := cq3
          simp only [aggC, Value.agg.injEq, Array.mk.injEq, List.cons.injEq, and_true] at he
          obtain ⟨hqb, rfl, rfl⟩ := he
          have HQ4k : Hid (QS 2 q) := HQ4.out q (mem_of_get? hqk)
          have HQA : Hid (qAt qs (kn : Int) = q) := by show _ = _; unfold qAt; rw [Int.toNat_natCast, hqk]; rfl
          have hqc0 : w.cell? ⟨bq, fq + kn * 3, none⟩ = some (.bool qb) := hcellq 0 _ rfl
          have hqc1 : w.cell? ⟨bq, fq + kn * 3 + 1, none⟩ = some (.slice Aa ka2 ca2) := hcellq 1 _ rfl
          have hqc2 : w.cell? ⟨bq, fq + kn * 3 + 2, none⟩ = some (.slice Ab kb2 cb2) := hcellq 2 _ rfl
          clear hj hcell hrg hjn hcqk hcellq hqk hqb
          obtain ⟨wa, hwa⟩ : ∃ wa, wa = wr.alloc (.cells #[.int .i64 xp, .int .i64 (kn : Int), .int .i64 xs] 79) := ⟨_, rfl⟩
          have hma := heap_alloc_new wr (.cells #[.int .i64 xp, .int .i64 (kn : Int), .int .i64 xs] 79)
          have hba : Below wr.heap.size wr wa := by rw [hwa]; exact (Below.refl _ _).alloc (Nat.le_refl _) _
          rw [← hwa] at hma
          have HWA := Lib.hid hwa
          have HBRa : Hid (Below w.heap.size w wa) := HBR.out.trans (hba.mono HBR.out.size)
          have HBELa : Hid (Below W1.heap.size W1 wa) := HBEL.out.trans (hba.mono HBEL.out.size)
          have hsr : bo < wr.heap.size := Array.getElem?_eq_some_iff.1 HCQX.out.blk |>.1
          have HCQa : Hid (CellQ wa bo 52 sg A1 k1 c1 B1 k2 c2 x) := ⟨(hba.block _ hsr).trans HCQX.out.blk, HCQX.out.rd.below hba⟩
          have HKPa : Hid (Keep (fun b => b ≠ bo ∧ b < w4.heap.size) w4 wa) := HKP.out.trans ((Keep.of_below hba).mono fun k hk => by have := HKP.out.size; omega)
          have HMA := Lib.hid hma
          have HSR : Hid (wr.heap.size + 1 = wa.heap.size ∧ bo < wr.heap.size) := ⟨by rw [hwa]; simp, hsr⟩
          have HBA := Lib.hid hba
          have hli : (i : Int) < (n : Int) := by omega
          clear hwa hma hba hsr
          go_upto_region 11 with fail
          clear d0 d1 d2
          rw [← HWA.out]
          have q1 := cell_of_row wa _ 1 _ _ _ HMA.out
          obtain ⟨y0, y1, y2, -, -, -⟩ := cells3 HCQa.out.blk
          have z0 := (HBRa.out.cell (p := ⟨bq, _, none⟩) hbq).trans hqc0
          have z1 := (HBRa.out.cell (p := ⟨bq, _, none⟩) hbq).trans hqc1
          have z2 := (HBRa.out.cell (p := ⟨bq, _, none⟩) hbq).trans hqc2
          have hkI : (kn : Int) < (nq : Int) := by omega
          have hk0' : (0 : Int) ≤ (kn : Int) := by omega
          go_still_tail 6, (by kernel_rfl)
          change wpList _ _ _ _ _ wa.drew
          obtain ⟨wd, hwd⟩ : ∃ wd, wd = wa.drew := ⟨_, rfl⟩
          rw [← hwd]
          have hbd : Below wa.heap.size wa wd := by rw [hwd]; exact (Below.refl _ _).drew
          have HBD := Lib.hid hbd
          have HAD := Lib.hid (add_any _ _ x q wd (HCQa.out.rd.below hbd) (HQQk.out wd (HBRa.out.trans (hbd.mono HBRa.out.size))) (HQS.out.mono (by omega)) (HQ4k.out.mono (by omega)))
          clear hwd hbd y0 y1 y2 z0 z1 z2 q1 hqc0 hqc1 hqc2
          go_wp2_with fail
          refine HAD.out.mono ?_
          rintro e w5 ⟨⟨v5, rfl, hr5⟩, hb5⟩
          have HB5 := Lib.hid (HBD.out.trans (hb5.mono HBD.out.size))
          obtain ⟨s5, A5, k5, c5, B5, l5, m5, rfl⟩ := hr5.shape
          have hblk5 : w5.heap[bo]? = some (.cells #[.bool sg, .slice A1 k1 c1, .slice B1 k2 c2] 52 (0, 0)) := (HB5.out.block _ (by have := HSR.out; omega)).trans HCQa.out.blk
          obtain ⟨y0, y1, y2, f0, f1, f2⟩ := cells3 hblk5
          go_wp2_with fail
          obtain ⟨w6, hw6⟩ : ∃ w6, w6 = ((w5.setCell ⟨bo, 0, none⟩ (.bool s5)).setCell ⟨bo, 1, none⟩ (.slice A5 k5 c5)).setCell ⟨bo, 2, none⟩ (.slice B5 l5 m5) := ⟨_, rfl⟩
          have HCQ6 : Hid (CellQ w6 bo 52 s5 A5 k5 c5 B5 l5 m5 (x + q)) := by rw [hw6]; exact ⟨set3_blk hblk5 _ _ _, hr5.set3 y0 y1 y2 _ _ _⟩
          have hk56 : Keep (· ≠ bo) w5 w6 := by rw [hw6]; exact ((((Keep.refl _ w5).setCell (fun h => h rfl) _).setCell (fun h => h rfl) _).setCell (fun h => h rfl) _)
          have HKP6 : Hid (Keep (fun b => b ≠ bo ∧ b < w4.heap.size) w4 w6) := (HKPa.out.trans ((Keep.of_below HB5.out).mono fun k hk => by have := HKPa.out.size; omega)).trans (hk56.mono fun k hk => hk.1)
          have hm6 : w6.heap[wr.heap.size]? = some (.cells #[.int .i64 xp, .int .i64 (kn : Int), .int .i64 xs] 79 (0, 0)) := (hk56.block _ (by have := HSR.out; omega)).trans ((HB5.out.block _ (by have := HSR.out; omega)).trans HMA.out)
          have q0 := cell_of_row w6 _ 0 _ _ _ hm6
          have q1 := cell_of_row w6 _ 1 _ _ _ hm6
          have HQS6 : Hid (QS (6 * i + 5) (x + q)) := (HQS.out.add HQ4k.out).mono (by omega)
          rw [← hw6]
          have HNO : Hid (¬ Turns s ⟨xp, kn, xs⟩ → eSum (enF qs ch s) (s.take (i + 1)) = x + q) := fun h => by rw [HTK.out, enF_no h, HQA.out]
          have HYES : Hid (Turns s ⟨xp, kn, xs⟩ → eSum (enF qs ch s) (s.take (i + 1)) = x + q + ch) := fun h => by rw [HTK.out, enF_yes h, HQA.out, Rat.add_assoc]
          have HW6 := Lib.hid hw6
          clear y0 y1 y2 f0 f1 f2 hblk5 hk56 hm6 hr5 hb5 hw6
          have hi64 : (i : Int) ≤ 64 := by omega
          by_cases hi0 : i = 0
          · have HNT : Hid (eSum (enF qs ch s) (s.take (i + 1)) = x + q) := by
              refine HNO.out ?_
              have := turns_first HSRT.out (by have := HSN.out; omega)
              rw [← hi0, HJN.out] at this
              exact this
            have hig2 : decide (0 < (i : Int)) = false := decide_eq_false (by omega)
            have hig3 : decide (0 < i) = false := decide_eq_false (by omega)
            have HI := Lib.hid hi0
            clear hi0
            refine seq_start (S := fun w' => w'.cell? ⟨wr.heap.size, 0, none⟩ = some (.int .i64 xp) ∧ w'.cell? ⟨wr.heap.size, 1, none⟩ = some (.int .i64 (kn : Int))) (by kernel_rfl) (by kernel_rfl) (by exact ⟨q0, q1⟩) ?_
            repeat (first
              | (refine seq_take0 (v := ?_) ?_ (fun _ _ _ h => h) (by kernel_rfl) ?_ ?_; rotate_left; (focus rfl); (focus (intro w' hSw; (try dsimp only at hSw); go_simp; (try with_reducible rfl); done)); (try simp only [Act.put, List.setIfInBounds_toArray, List.set_cons_zero, List.set_cons_succ]))
              | (refine seq_takeG (v := ?_) (g := ?_) (d := ?_) (b := ?_) (u := ?_) ?_ ?_ ?_ ?_ (fun _ _ _ h => h) (by kernel_rfl) ?_ ?_; rotate_left 5; (focus rfl); (focus rfl); (focus rfl); (focus (first | rfl | (go_simp; done))); (focus (intro w' hSw; (try dsimp only at hSw); go_simp; (try with_reducible rfl); done)); (try simp only [Act.put, List.setIfInBounds_toArray, List.set_cons_zero, List.set_cons_succ]))
              | (refine seq_skipG (g := ?_) (d := ?_) (b := ?_) (u := ?_) ?_ ?_ ?_ ?_ (fun _ _ _ h => h) (by kernel_rfl) ?_; rotate_left 4; (focus rfl); (focus rfl); (focus rfl); (focus (first | rfl | (go_simp; done))); (try simp only [Act.put, List.setIfInBounds_toArray, List.set_cons_zero, List.set_cons_succ])))
            refine seq_done (by kernel_rfl) ?_
            clear q0 q1
            go_wp2_with fail
            go_roundw
            case rel => exact ⟨i + 1, _, _, _, _, _, _, _, _, by omega, by go_num, HNT.out.symm, HQS6.out.mono (by omega), HCQ6.out.drew, HKP6.out.trans (Keep.drew _ _)⟩
            case measure => simp [intOf]; omega
          · obtain ⟨m, hm⟩ : ∃ m, i = m + 1 := ⟨i - 1, by omega⟩
            obtain ⟨b', off', xm, hA', ⟨hb1', hbl'⟩, hjm, hcm⟩ := HSC.out m (by omega)
            cases hA'
            have p0 : w6.cell? ⟨b, off + m * 3, none⟩ = some (.int .i64 xm.press) := (HKP6.out.cell (p := ⟨b, _, none⟩) ⟨hbne, hbl⟩).trans (hcm 0 _ rfl)
            have p1 : w6.cell? ⟨b, off + m * 3 + 1, none⟩ = some (.int .i64 xm.kind) := (HKP6.out.cell (p := ⟨b, _, none⟩) ⟨hbne, hbl⟩).trans (hcm 1 _ rfl)
            have hjnm : jobN s m = xm := jobAt_of hjm
            have HTT : Hid (Turns s ⟨xp, kn, xs⟩ ↔ xm.press = xp ∧ xm.kind ≠ (kn : Int)) := by
              have := turns_next HSRT.out HONE2.out (i := m) (by have := HSN.out; omega)
              rw [← hm, HJN.out, hjnm] at this
              exact this
            obtain ⟨mp, mk, ms⟩ := xm
            simp only [] at p0 p1 HTT
            have hig2 : decide (0 < (i : Int)) = true := decide_eq_true (by omega)
            have hig3 : decide (0 < i) = true := decide_eq_true (by omega)
            have hwm : IntKind.i64.wrap ((i : Int) - 1) = (m : Int) := by have h0 : IntKind.i64.wrap ((i : Int) - 1) = (i : Int) - 1 := IntWalk.i64_in _ (by omega); rw [h0]; omega
            have hm0 : (0 : Int) ≤ (m : Int) := by omega
            have hmn : (m : Int) < (n : Int) := by omega
            clear hcm hjm hjnm hm hi0
            by_cases hp : mp = xp
            · subst hp
              by_cases hkk : mk = (kn : Int)
              · subst hkk
                have HNT := Lib.hid (HNO.out (fun h => (HTT.out.1 h).2 rfl))
                refine seq_start (S := fun w' => w'.cell? ⟨wr.heap.size, 0, none⟩ = some (.int .i64 mp) ∧ w'.cell? ⟨wr.heap.size, 1, none⟩ = some (.int .i64 (kn : Int)) ∧ w'.cell? ⟨b, off + m * 3, none⟩ = some (.int .i64 mp) ∧ w'.cell? ⟨b, off + m * 3 + 1, none⟩ = some (.int .i64 (kn : Int))) (by kernel_rfl) (by kernel_rfl) (by exact ⟨q0, q1, p0, p1⟩) ?_
                repeat (first
                  | (refine seq_take0 (v := ?_) ?_ (fun _ _ _ h => h) (by kernel_rfl) ?_ ?_; rotate_left; (focus rfl); (focus (intro w' hSw; (try dsimp only at hSw); go_simp; (try with_reducible rfl); done)); (try simp only [Act.put, List.setIfInBounds_toArray, List.set_cons_zero, List.set_cons_succ]))
                  | (refine seq_takeG (v := ?_) (g := ?_) (d := ?_) (b := ?_) (u := ?_) ?_ ?_ ?_ ?_ (fun _ _ _ h => h) (by kernel_rfl) ?_ ?_; rotate_left 5; (focus rfl); (focus rfl); (focus rfl); (focus (first | rfl | (go_simp; done))); (focus (intro w' hSw; (try dsimp only at hSw); go_simp; (try with_reducible rfl); done)); (try simp only [Act.put, List.setIfInBounds_toArray, List.set_cons_zero, List.set_cons_succ]))
                  | (refine seq_skipG (g := ?_) (d := ?_) (b := ?_) (u := ?_) ?_ ?_ ?_ ?_ (fun _ _ _ h => h) (by kernel_rfl) ?_; rotate_left 4; (focus rfl); (focus rfl); (focus rfl); (focus (first | rfl | (go_simp; done))); (try simp only [Act.put, List.setIfInBounds_toArray, List.set_cons_zero, List.set_cons_succ])))
                refine seq_done (by kernel_rfl) ?_
                clear q0 q1 p0 p1
                go_wp2_with fail
                go_roundw
                case rel => exact ⟨i + 1, _, _, _, _, _, _, _, _, by omega, by go_num, HNT.out.symm, HQS6.out.mono (by omega), HCQ6.out.drew, HKP6.out.trans (Keep.drew _ _)⟩
                case measure => simp [intOf]; omega
              · have hkk1 : (mk != (kn : Int)) = true := by simpa using hkk
                have hkk2 : decide (mk = (kn : Int)) = false := decide_eq_false hkk
                have HNT := Lib.hid (HYES.out (HTT.out.2 ⟨rfl, hkk⟩))
                refine seq_start (S := fun w' => w'.cell? ⟨wr.heap.size, 0, none⟩ = some (.int .i64 mp) ∧ w'.cell? ⟨wr.heap.size, 1, none⟩ = some (.int .i64 (kn : Int)) ∧ w'.cell? ⟨b, off + m * 3, none⟩ = some (.int .i64 mp) ∧ w'.cell? ⟨b, off + m * 3 + 1, none⟩ = some (.int .i64 mk)) (by kernel_rfl) (by kernel_rfl) (by exact ⟨q0, q1, p0, p1⟩) ?_
                repeat (first
                  | (refine seq_take0 (v := ?_) ?_ (fun _ _ _ h => h) (by kernel_rfl) ?_ ?_; rotate_left; (focus rfl); (focus (intro w' hSw; (try dsimp only at hSw); go_simp; (try with_reducible rfl); done)); (try simp only [Act.put, List.setIfInBounds_toArray, List.set_cons_zero, List.set_cons_succ]))
                  | (refine seq_takeG (v := ?_) (g := ?_) (d := ?_) (b := ?_) (u := ?_) ?_ ?_ ?_ ?_ (fun _ _ _ h => h) (by kernel_rfl) ?_ ?_; rotate_left 5; (focus rfl); (focus rfl); (focus rfl); (focus (first | rfl | (go_simp; done))); (focus (intro w' hSw; (try dsimp only at hSw); go_simp; (try with_reducible rfl); done)); (try simp only [Act.put, List.setIfInBounds_toArray, List.set_cons_zero, List.set_cons_succ]))
                  | (refine seq_skipG (g := ?_) (d := ?_) (b := ?_) (u := ?_) ?_ ?_ ?_ ?_ (fun _ _ _ h => h) (by kernel_rfl) ?_; rotate_left 4; (focus rfl); (focus rfl); (focus rfl); (focus (first | rfl | (go_simp; done))); (try simp only [Act.put, List.setIfInBounds_toArray, List.set_cons_zero, List.set_cons_succ])))
                refine seq_done (by kernel_rfl) ?_
                clear q0 q1 p0 p1
                obtain ⟨wd6, hwd6⟩ : ∃ wd, wd = w6.drew := ⟨_, rfl⟩
                rw [← hwd6]
                have HCQ7 : Hid (CellQ wd6 bo 52 s5 A5 k5 c5 B5 l5 m5 (x + q)) := by rw [hwd6]; exact HCQ6.out.drew
                have HKP7 : Hid (Keep (fun b => b ≠ bo ∧ b < w4.heap.size) w4 wd6) := by rw [hwd6]; exact HKP6.out.trans (Keep.drew _ _)
                have hbel7 : Below W1.heap.size W1 wd6 := HB3.out.trans ((HB4.out.mono HB3.out.size).trans (Keep.below (HKP7.out.mono fun k hk => ⟨by have := HBO.out.1; omega, by have := HB3.out.size; have := HB4.out.size; omega⟩)))
                have HBR7 := Lib.hid (HB1.out.trans (hbel7.mono HB1.out.size))
                obtain ⟨y0, y1, y2, f0, f1, f2⟩ := cells3 HCQ7.out.blk
                obtain ⟨z0, z1, z2, -, -, -⟩ := HC7.out wd6 hbel7
                have HAD7 := Lib.hid (add_any _ _ (x + q) ch wd6 HCQ7.out.rd (HCQ.out wd6 HBR7.out) (HQS6.out.mono (by omega)) (HC4.out.mono (by omega)))
                clear hwd6 hbel7
                go_wp2_with fail
                refine HAD7.out.mono ?_
                rintro e w8 ⟨⟨v8, rfl, hr8⟩, hb8⟩
                have HB8 := Lib.hid hb8
                obtain ⟨s8, A8, k8, c8, B8, l8, m8, rfl⟩ := hr8.shape
                have hblk8 := (hb8.block _ (Array.getElem?_eq_some_iff.1 HCQ7.out.blk).1).trans HCQ7.out.blk
                clear y0 y1 y2 f0 f1 f2 z0 z1 z2
                obtain ⟨y0, y1, y2, f0, f1, f2⟩ := cells3 hblk8
                go_wp2_with fail
                have HCQ8 := Lib.hid (show CellQ (((w8.setCell ⟨bo, 0, none⟩ (.bool s8)).setCell ⟨bo, 1, none⟩ (.slice A8 k8 c8)).setCell ⟨bo, 2, none⟩ (.slice B8 l8 m8)) bo 52 s8 A8 k8 c8 B8 l8 m8 (x + q + ch) from ⟨set3_blk hblk8 _ _ _, hr8.set3 y0 y1 y2 _ _ _⟩)
                have HKP8 : Hid (Keep (fun b => b ≠ bo ∧ b < w4.heap.size) w4 (((w8.setCell ⟨bo, 0, none⟩ (.bool s8)).setCell ⟨bo, 1, none⟩ (.slice A8 k8 c8)).setCell ⟨bo, 2, none⟩ (.slice B8 l8 m8))) :=
                  (HKP7.out.trans ((Keep.of_below HB8.out).mono fun k hk => by have := HKP7.out.size; omega)).trans ((((Keep.refl _ w8).setCell (fun h => h.1 rfl) _).setCell (fun h => h.1 rfl) _).setCell (fun h => h.1 rfl) _)
                clear y0 y1 y2 f0 f1 f2 hblk8 hr8 hb8
                go_roundw
                case rel => exact ⟨i + 1, _, _, _, _, _, _, _, _, by omega, by go_num, HNT.out.symm, (HQS6.out.add HC4.out).mono (by omega), HCQ8.out, HKP8.out⟩
                case measure => simp [intOf]; omega
            · have hp1 : (mp == xp) = false := by simpa using hp
              have hp2 : decide (mp = xp) = false := decide_eq_false hp
              have HNT := Lib.hid (HNO.out (fun h => hp (HTT.out.1 h).1))
              refine seq_start (S := fun w' => w'.cell? ⟨wr.heap.size, 0, none⟩ = some (.int .i64 xp) ∧ w'.cell? ⟨wr.heap.size, 1, none⟩ = some (.int .i64 (kn : Int)) ∧ w'.cell? ⟨b, off + m * 3, none⟩ = some (.int .i64 mp) ∧ w'.cell? ⟨b, off + m * 3 + 1, none⟩ = some (.int .i64 mk)) (by kernel_rfl) (by kernel_rfl) (by exact ⟨q0, q1, p0, p1⟩) ?_
              repeat (first
                | (refine seq_take0 (v := ?_) ?_ (fun _ _ _ h => h) (by kernel_rfl) ?_ ?_; rotate_left; (focus rfl); (focus (intro w' hSw; (try dsimp only at hSw); go_simp; (try with_reducible rfl); done)); (try simp only [Act.put, List.setIfInBounds_toArray, List.set_cons_zero, List.set_cons_succ]))
                | (refine seq_takeG (v := ?_) (g := ?_) (d := ?_) (b := ?_) (u := ?_) ?_ ?_ ?_ ?_ (fun _ _ _ h => h) (by kernel_rfl) ?_ ?_; rotate_left 5; (focus rfl); (focus rfl); (focus rfl); (focus (first | rfl | (go_simp; done))); (focus (intro w' hSw; (try dsimp only at hSw); go_simp; (try with_reducible rfl); done)); (try simp only [Act.put, List.setIfInBounds_toArray, List.set_cons_zero, List.set_cons_succ]))
                | (refine seq_skipG (g := ?_) (d := ?_) (b := ?_) (u := ?_) ?_ ?_ ?_ ?_ (fun _ _ _ h => h) (by kernel_rfl) ?_; rotate_left 4; (focus rfl); (focus rfl); (focus rfl); (focus (first | rfl | (go_simp; done))); (try simp only [Act.put, List.setIfInBounds_toArray, List.set_cons_zero, List.set_cons_succ])))
              refine seq_done (by kernel_rfl) ?_
              clear q0 q1 p0 p1
              go_wp2_with fail
              go_roundw
              case rel => exact ⟨i + 1, _, _, _, _, _, _, _, _, by omega, by go_num, HNT.out.symm, HQS6.out.mono (by omega), HCQ6.out.drew, HKP6.out.trans (Keep.drew _ _)⟩
              case measure => simp [intOf]; omega
        · have hin : i = n := by omega
          have hli : ¬ ((i : Int) < (n : Int)) := by omega
          have HFIN : Hid (x = eSum (enF qs ch l) l) := by
            show _ = _
            rw [HX.out, hin, ← HSN.out, List.take_length, enF_perm HPERM.out, eSum_perm _ HPERM.out]
          obtain ⟨y0, y1, y2, -, -, -⟩ := cells3 HCQX.out.blk
          obtain ⟨z0, z1, z2, f0, f1, f2⟩ := HC8.out wr HBEL.out
          clear hin hlt
          go_wp2_with fail
          rw [← HFIN.out]
          exact bodyPost_ret (v := .tuple #[.agg #[.bool sg, .slice A1 k1 c1, .slice B1 k2 c2], .int .i64 0]) (by simp [results, Tryz.results15, go_sem, z0, z1, z2]) rfl ⟨⟨_, rfl, HCQX.out.rd.set3 z0 z1 z2 _ _ _⟩, ((HBR.out.setCell (by simp <;> omega) _).setCell (by simp <;> omega) _).setCell (by simp <;> omega) _⟩
    · have hne : ((nq : Int) != (nu : Int)) = true := by rw [bne_iff_ne]; omega
      have hne2 : (nq != nu) = true := by rw [bne_iff_ne]; exact hnn2
      have hne3 : decide ((nq : Int) = (nu : Int)) = false := decide_eq_false (by omega)
      have hne4 : decide (nq = nu) = false := decide_eq_false hnn2
      have HA : Hid (enErr d l qs.length = 4) := by show _ = _; rw [HER.out]; simp [hnn2]
      have HAS : Hid (enSum d l qs ch = 0) := by show _ = _; rw [HSM.out, HA.out]; rfl
      rw [HA.out, HAS.out]
      clear hnn2
      go_enter Tryz.func15, Tryz.ntmps15
      go_wp2_with fail
      rw [← HW1.out]
      refine (HCH.out W1 HB1.out).mono ?_
      rintro e w2 ⟨rfl, hb2⟩
      have x0 := (HC4'.out w2 hb2 0).1
      have x1 := (HC4'.out w2 hb2 1).1
      have x2 := (HC4'.out w2 hb2 2).1
      have x3 := (HC4'.out w2 hb2 3).1
      have x4 := (HC4'.out w2 hb2 4).1
      simp only [List.getElem?_toArray, List.getElem?_cons_zero, List.getElem?_cons_succ] at x0 x1 x2 x3 x4
      obtain ⟨y0, y1, y2, y3, y4, y5⟩ := HC8.out w2 hb2
      have HBW := Lib.hid (HB1.out.trans (hb2.mono HB1.out.size))
      clear hb2 c40 c41 c42 c43 c44
      go_wp2_with fail
      exact bodyPost_ret (v := .tuple #[.agg #[.bool false, .slice none 0 0, .slice none 0 0], .int .i64 4]) (by simp [results, Tryz.results15, go_sem, y0, y1, y2]) rfl ⟨⟨_, rfl, RdQ.zero _⟩, ((HBW.out.setCell (by simp <;> omega) _).setCell (by simp <;> omega) _).setCell (by simp <;> omega) _⟩
  · have hz' : (ce != 0) = true := by rw [bne_iff_ne]; exact hz
    have HA : Hid (enErr d l qs.length = ce) := by show _ = _; rw [HER.out, if_pos hz]
    have HAS : Hid (enSum d l qs ch = 0) := by show _ = _; rw [HSM.out, HA.out, if_neg hz]
    rw [HA.out, HAS.out]
    clear hz
    go_enter Tryz.func15, Tryz.ntmps15
    go_wp2_with fail
    rw [← HW1.out]
    refine (HCH.out W1 HB1.out).mono ?_
    rintro e w2 ⟨rfl, hb2⟩
    obtain ⟨y0, y1, y2, y3, y4, y5⟩ := HC8.out w2 hb2
    have HBW := Lib.hid (HB1.out.trans (hb2.mono HB1.out.size))
    clear hb2 c40 c41 c42 c43 c44
    go_wp2_with fail
    exact bodyPost_ret (v := .tuple #[.agg #[.bool false, .slice none 0 0, .slice none 0 0], .int .i64 ce]) (by simp [results, Tryz.results15, go_sem, y0, y1, y2]) rfl ⟨⟨_, rfl, RdQ.zero _⟩, ((HBW.out.setCell (by simp <;> omega) _).setCell (by simp <;> omega) _).setCell (by simp <;> omega) _⟩
end Go.Proofs.YtogccnngdfancaaGreat
