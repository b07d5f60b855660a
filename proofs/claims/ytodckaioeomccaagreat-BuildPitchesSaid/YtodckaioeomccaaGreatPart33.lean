/- The walk of the searcher's value. -/
import Derived.Test.YtodckaioeomccaaGreatPart25
import Derived.Test.YtodckaioeomccaaGreatPart28
import Derived.StillTailTactics
namespace Go.Proofs.YtodckaioeomccaaGreat
open Go.RowKit Go.Proofs.Plc
set_option linter.unusedVariables false
set_option linter.unusedSimpArgs false
set_option maxRecDepth 100000 in
set_option maxHeartbeats 4000000 in
theorem value_any (lt : Qd → Qd → Bool) (Q : Qd → Prop) (gv pv bv : Value) (o : Nat) (ap : Int) (gs ps : List Int) (q : Qd) (b : Nat) (w : World)
  (hb : SrB w b gv o ap pv bv q) (hg : RdL w gv gs) (hp : RdL w pv ps) (hl : ps.length = gs.length) (hn : ps.length ≤ 4) (hgs : Grams gs) (hps : ∀ i, 0 ≤ at0 ps i ∧ at0 ps i < 24) (ho : o ≤ 3)
  (HL : ∀ x y w, Q x → Q y → Calls Tryz.prog 181 #[quadV x, quadV y] w fun e w' => e = .returned (.bool (lt x y)) ∧ Below w.heap.size w w')
  (HQ : ∀ j : Nat, j < o → Q (normN gs ps ((j : Int) + 1) ps.length)) :
  Calls Tryz.prog 180 #[.pointer (some ⟨b, 0, none⟩)] w fun e w' => e = .returned (quadV (worstN lt gs ps o)) ∧ Below w.heap.size w w' := by
 have HB := h0d hb
 obtain ⟨A, n, cap, rfl, hpn, hcap, hmax, hcm, hpc⟩ := hp.open_
 obtain ⟨A', n', cap', rfl, hgn, hcap', hmax', hcm', hgc⟩ := hg.open_
 have HPC : Hid (∀ i, i < n → ∃ b off, A = some ⟨b, off, none⟩ ∧ b < w.heap.size ∧ w.cell? ⟨b, off + i, none⟩ = some (.int .i64 (at0 ps i))) := fun i hi => by
  obtain ⟨pb, off, x, h1, h2, h3, h4⟩ := hpc i hi
  refine ⟨pb, off, h1, h2, ?_⟩
  rw [h4]; unfold at0; rw [List.getD_eq_getElem?_getD, h3]; rfl
 have HGC : Hid (∀ i, i < n → ∃ b off, A' = some ⟨b, off, none⟩ ∧ b < w.heap.size ∧ w.cell? ⟨b, off + i, none⟩ = some (.int .i64 (at0 gs i))) := fun i hi => by
  obtain ⟨pb, off, x, h1, h2, h3, h4⟩ := hgc i (by omega)
  refine ⟨pb, off, h1, h2, ?_⟩
  rw [h4]; unfold at0; rw [List.getD_eq_getElem?_getD, h3]; rfl
 obtain rfl : n' = n := by omega
 have HGS := h0d hgs
 have HPS := h0d hps
 have HN : Hid (ps.length = n') := hpn
 have HWQ : Hid (∀ k, k < o → Q (worstN lt gs ps (k + 1))) := worst_q HQ
 rw [hpn] at HQ hn
 have HHL := h0d HL
 have HHQ := h0d HQ
 have HWN : Hid (∀ k, k < o → worstN lt gs ps (k + 1) = if k = 0 ∨ lt (worstN lt gs ps k) (normN gs ps ((k : Int) + 1) n') = true then normN gs ps ((k : Int) + 1) n' else worstN lt gs ps k) := fun k _ => by rw [← hpn]; rfl
 have hbl := blk_lt hb
 obtain ⟨WF, hWF⟩ : ∃ f, f = worstN lt gs ps := ⟨_, rfl⟩
 rw [← hWF] at HWN HWQ ⊢
 have HW0 : Hid (WF 0 = .zero) := by show _ = _; rw [hWF]; rfl
 clear hb hg hp hpc hgc hgs hps hpn hgn hl HL HQ hWF hcm hcm'
 obtain ⟨W1, HW1, HB1, HSZ1, hbx⟩ := st_al0 w #[.int .i64 0, .int .i64 0, .int .i64 0, .int .i64 0] 183
 obtain ⟨W2, HW2, HB2, HSZ2, hbx2⟩ := st_alk 1 2 #[.int .i64 0, .int .i64 0, .int .i64 0, .int .i64 0] 183 HSZ1 rfl
 have HBE := h0d (hbx.trans (hbx2.mono hbx.size))
 replace HB1 := kB HB1 hbx2
 have HR : Hid (QB W2 w.heap.size (co .zero) ∧ QB W2 (w.heap.size + 1) (co (WF 0))) := ⟨HB1.out, by rw [HW0.out]; exact HB2.out⟩
 clear hbx hbx2
 go_enter Tryz.func180, Tryz.ntmps180
 go_wp2_with fail
 rw [← HW1.out, ← HW2.out]
 clear HW1 HW2 HSZ1 HSZ2 HB1 HB2
 go_loopw [4] (fun jv wr => ∃ (k : Nat) (z : Int), k ≤ o ∧ z = (k : Int) + 1 ∧ jv = .int .i64 z ∧ Hid (Below w.heap.size w wr) ∧ Hid (QB wr w.heap.size (co .zero) ∧ QB wr (w.heap.size + 1) (co (WF k)))) (fun jv _ => o + 1 - (intOf jv).toNat)
 case atStart => exact ⟨0, 1, by omega, by omega, rfl, HBE, HR⟩
 case round =>
  obtain ⟨k, z, hk, hz, rfl, HBw, HQB⟩ := hrel
  have HZ := h0d hz
  clear HBE HR
  have c1 := (HB.out.below HBw.out).or
  by_cases hlt : k < o
  ·have hzo : z ≤ (o : Int) := by omega
   have hz3 : 1 ≤ z ∧ z ≤ 3 := by omega
   clear hz
   obtain ⟨wo, rfl⟩ : ∃ wo : World, wo = wr := ⟨_, rfl⟩
   obtain ⟨W1, HW1, HN1, HSZ1, hbx⟩ := st_al0 wo #[.int .i64 0, .int .i64 0, .int .i64 0, .int .i64 0] 183
   have HVS : Hid (VS w W1 wo.heap.size (WF k) (co .zero)) := ⟨HBw.out.trans (hbx.mono HBw.out.size), HQB.out.1.below hbx, HQB.out.2.below hbx, HN1.out, by have := blk_lt HQB.out.2; omega⟩
   have c2 := (HB.out.below HVS.out.bel).ps
   have c3 : W1.cell? ⟨b, 1, none⟩ = some (.int .i64 o) := (HB.out.below HVS.out.bel).or
   rw [HW1.out] at c2 c3
   clear hbx HN1 HSZ1
   go_wp2_with fail
   rw [← HW1.out]
   clear HW1 c1 c2 c3 HQB HBw
   obtain ⟨NF, hNF⟩ : ∃ f, f = normN gs ps z := ⟨_, rfl⟩
   have HNS : Hid (∀ i, i < n' → SQ 160000000 (NF i)) := fun i hi => by rw [hNF]; exact (normN_small HGS.out z i (by omega)).mono (by omega)
   have HN1 : Hid (∀ i, NF (i + 1) = inN gs ps z i ⟨(NF i).a + 4 * at0 gs i * at0 gs i, (NF i).b, (NF i).c, (NF i).d⟩ i) := fun i => by rw [hNF]; rfl
   have HN0 : Hid (NF 0 = .zero) := by show _ = _; rw [hNF]; rfl
   have HNF := h0d hNF
   clear hNF
   go_loopw [25] (fun iv wr => ∃ i : Nat, i ≤ n' ∧ iv = .int .i64 (i : Int) ∧ Hid (VS w wr wo.heap.size (WF k) (co (NF i)))) (fun iv _ => n' - (intOf iv).toNat)
   case atStart => exact ⟨0, by omega, rfl, by show VS _ _ _ _ _; rw [HN0.out]; exact HVS.out⟩
   case round =>
    obtain ⟨i, hi, rfl, HV⟩ := hrel
    clear HVS
    by_cases hin : i < n'
    ·obtain ⟨pb, poff, rfl, hpb, hcp⟩ := HPC.out i hin
     obtain ⟨gb, goff, rfl, hgb, hcg⟩ := HGC.out i hin
     obtain ⟨p, hp⟩ : ∃ p, p = at0 ps i := ⟨_, rfl⟩
     obtain ⟨g, hg⟩ : ∃ g, g = at0 gs i := ⟨_, rfl⟩
     obtain ⟨a, ha⟩ : ∃ a, a = (NF i).a := ⟨_, rfl⟩
     rw [← hp] at hcp
     rw [← hg] at hcg
     have HPI := h0d hp
     have HGI := h0d hg
     have HA := h0d ha
     have hgs := HGS.out i
     rw [← hg] at hgs
     have hgg := gg_small hgs (hgs)
     have hab := (HNS.out i hin).1
     rw [← ha] at hab
     have d1 : wr.cell? ⟨pb, poff + i, none⟩ = some (.int .i64 p) := (HV.out.bel.cell (p := ⟨pb, poff + i, none⟩) hpb).trans hcp
     have d2 : wr.cell? ⟨gb, goff + i, none⟩ = some (.int .i64 g) := (HV.out.bel.cell (p := ⟨gb, goff + i, none⟩) hgb).trans hcg
     have d3 := (HB.out.below HV.out.bel).gs
     have d4 : wr.cell? ⟨wo.heap.size, 0, none⟩ = some (.int .i64 a) := by rw [ha]; exact HV.out.qn.cell (j := 0) (by omega)
     have d5 := HV.out.qn.free 0
     have d6 := (HB.out.below HV.out.bel).ps
     have hne : b ≠ wo.heap.size := by have := HV.out.ge; omega
     have hne' : wo.heap.size ≠ b := hne.symm
     obtain ⟨x1, hx1⟩ : ∃ x, x = 4 * g := ⟨_, rfl⟩
     obtain ⟨x2, hx2⟩ : ∃ x, x = x1 * g := ⟨_, rfl⟩
     obtain ⟨s, hs⟩ : ∃ x, x = a + x2 := ⟨_, rfl⟩
     have hx2' : x2 = 4 * (g * g) := by rw [hx2, hx1, Int.mul_assoc]
     have hw1 : IntKind.i64.wrap (4 * g) = x1 := by rw [hx1]; exact IntWalk.i64_in _ (by omega)
     have hw2 : IntKind.i64.wrap (x1 * g) = x2 := by rw [← hx2]; exact IntWalk.i64_in _ (by omega)
     have hw3 : IntKind.i64.wrap (a + x2) = s := by rw [hs]; exact IntWalk.i64_in _ (by omega)
     obtain ⟨n0, hn0⟩ : ∃ n0 : Qd, n0 = ⟨(NF i).a + 4 * at0 gs i * at0 gs i, (NF i).b, (NF i).c, (NF i).d⟩ := ⟨_, rfl⟩
     have hna : n0.a = s := by rw [hn0, hs, hx2, hx1, hg, ha]
     have HN2 := h0d (HN1.out i)
     rw [← hn0] at HN2
     have HN3 : Hid (n0.b = (NF i).b ∧ n0.c = (NF i).c ∧ n0.d = (NF i).d) := by show _ ∧ _; rw [hn0]; exact ⟨rfl, rfl, rfl⟩
     have HNA := h0d hna
     have HN4 : Hid (SQ 164000000 n0) := by
      have h := HNS.out i hin
      obtain ⟨e1, e2, e3⟩ := HN3.out
      refine ⟨?_, ?_, ?_, ?_⟩
      ·rw [hna]; omega
      ·rw [e1]; have := h.2.1; omega
      ·rw [e2]; have := h.2.2.1; omega
      ·rw [e3]; have := h.2.2.2; omega
     have hic : i ≤ cap := by omega
     clear hp hg ha hx1 hx2 hx2' hs hn0 hna hgg hab hgs hcp hcg
     go_wp2_with fail
     go_still_tail 20, (by kernel_rfl)
     go_wp2_with fail
     obtain ⟨W3, hW3⟩ : ∃ W, W = (wr.setCell ⟨wo.heap.size, 0, none⟩ (.int .i64 s)).drew := ⟨_, rfl⟩
     have HV3 : Hid (VS w W3 wo.heap.size (WF k) (co n0)) := by
      show VS _ _ _ _ _
      rw [hW3]
      refine (HV.out.set (j := 0) (by omega) s).drew.congr fun j hj => ?_
      obtain ⟨e1, e2, e3⟩ := HN3.out
      rcases (show j = 0 ∨ j = 1 ∨ j = 2 ∨ j = 3 by omega) with rfl | rfl | rfl | rfl
      ·exact HNA.out.symm
      ·exact e1.symm
      ·exact e2.symm
      ·exact e3.symm
     rw [← hW3]
     clear hW3 d1 d2 d3 d4 d5 d6 hw1 hw2 hw3 HV
     obtain ⟨IF, hIF⟩ : ∃ f, f = inN gs ps z i n0 := ⟨_, rfl⟩
     rw [← hIF] at HN2
     have HIS : Hid (∀ kk, kk ≤ i → SQ 200000000 (IF kk)) := fun kk hkk => by rw [hIF]; exact (inN_small HGS.out z i HN4.out kk).mono (by omega)
     have HI1 : Hid (∀ kk, IF (kk + 1) = addQ (IF kk) (2 * at0 gs i * at0 gs kk) (cosT (plc (z * (at0 ps i - at0 ps kk))))) := fun kk => by rw [hIF]; rfl
     have HI0 : Hid (IF 0 = n0) := by show _ = _; rw [hIF]; rfl
     clear hIF
     go_loopw [57] (fun kv wr => ∃ kk : Nat, kk ≤ i ∧ kv = .int .i64 (kk : Int) ∧ Hid (VS w wr wo.heap.size (WF k) (co (IF kk)))) (fun kv _ => i - (intOf kv).toNat)
     case atStart => exact ⟨0, by omega, rfl, by show VS _ _ _ _ _; rw [HI0.out]; exact HV3.out⟩
     case round =>
      obtain ⟨kk, hkk, rfl, HV⟩ := hrel
      clear HV3
      by_cases hki : kk < i
      ·obtain ⟨pb', poff', e, hpb', hcp⟩ := HPC.out kk (by omega)
       obtain ⟨gb', goff', e2, hgb', hcg⟩ := HGC.out kk (by omega)
       simp only [Option.some.injEq, Addr.mk.injEq] at e e2
       obtain ⟨rfl, rfl, _⟩ := e
       obtain ⟨rfl, rfl, _⟩ := e2
       obtain ⟨r, hr⟩ : ∃ p, p = at0 ps kk := ⟨_, rfl⟩
       obtain ⟨h, hh⟩ : ∃ g, g = at0 gs kk := ⟨_, rfl⟩
       rw [← hr] at hcp
       rw [← hh] at hcg
       have hp24 := HPS.out i
       rw [← HPI.out] at hp24
       have hr24 := HPS.out kk
       rw [← hr] at hr24
       have hgs := HGS.out i
       rw [← HGI.out] at hgs
       have hhs := HGS.out kk
       rw [← hh] at hhs
       have d1 : wr.cell? ⟨pb, poff + kk, none⟩ = some (.int .i64 r) := (HV.out.bel.cell (p := ⟨pb, poff + kk, none⟩) hpb').trans hcp
       obtain ⟨x1, hx1⟩ : ∃ x, x = p - r := ⟨_, rfl⟩
       obtain ⟨x2, hx2⟩ : ∃ x, x = z * x1 := ⟨_, rfl⟩
       have hxb : -72 ≤ x2 ∧ x2 ≤ 72 := by
        rw [hx2]
        rcases (show z = 1 ∨ z = 2 ∨ z = 3 by omega) with h | h | h <;> rw [h] <;> omega
       obtain ⟨x3, hx3⟩ : ∃ x, x = x2.tmod 24 := ⟨_, rfl⟩
       have hx3b : -24 < x3 ∧ x3 < 24 ∧ (x3 + 24) % 24 = x2 % 24 := by
        have := Int.tmod_def x2 24
        have h1 := Int.emod_emod_of_dvd x2 (show (24 : Int) ∣ 24 from ⟨1, rfl⟩)
        have h2 : x3 = x2 - 24 * x2.tdiv 24 := by rw [hx3]; omega
        have h3 : -24 < x3 := by rw [hx3]; have := Int.lt_tmod_of_pos x2 (show (0 : Int) < 24 by omega); omega
        have h4 : x3 < 24 := by rw [hx3]; exact Int.tmod_lt_of_pos x2 (by omega)
        omega
       obtain ⟨x4, hx4⟩ : ∃ x, x = x3 + 24 := ⟨_, rfl⟩
       obtain ⟨t, ht⟩ : ∃ t, t = plc (z * (at0 ps i - at0 ps kk)) := ⟨_, rfl⟩
       have ht24 : t < 24 := by rw [ht]; exact plc_lt _
       have htx : x4.tmod 24 = (t : Int) := by
        rw [Int.tmod_eq_emod_of_nonneg (by omega), hx4, hx3b.2.2, ht, ← HPI.out, ← hr, ← hx1, ← hx2]
        unfold plc; omega
       have hw1 : IntKind.i64.wrap (p - r) = x1 := by rw [hx1]; exact IntWalk.i64_in _ (by omega)
       have hw2 : IntKind.i64.wrap (z * x1) = x2 := by rw [← hx2]; exact IntWalk.i64_in _ (by omega)
       have hw3 : IntKind.i64.wrap x3 = x3 := IntWalk.i64_in _ (by omega)
       have hw4 : IntKind.i64.wrap (x3 + 24) = x4 := by rw [hx4]; exact IntWalk.i64_in _ (by omega)
       have hw5 : IntKind.i64.wrap (t : Int) = (t : Int) := IntWalk.i64_in _ (by omega)
       have HT := h0d ht
       have HHI := h0d hh
       obtain ⟨q0, q1, q2, q3⟩ := (HB.out.below HV.out.bel).cos ht24
       obtain ⟨cf, hcf⟩ : ∃ cf, cf = co (cosT t) := ⟨_, rfl⟩
       have hx3' := hx3.symm
       clear hr hx1 hx2 hx3 hx4 ht hxb hx3b hh
       go_wp2_with fail
       obtain ⟨wk, rfl⟩ : ∃ wk : World, wk = wr := ⟨_, rfl⟩
       obtain ⟨W4, HW4, HC4, HSZ4, hbx⟩ := st_al0 wk #[.int .i64 (cosT t).a, .int .i64 (cosT t).b, .int .i64 (cosT t).c, .int .i64 (cosT t).d] 183
       have HV4 := h0d (HV.out.below hbx)
       have HCB : Hid (QB W4 wk.heap.size (co (cosT t))) := HC4.out
       have hlo : wo.heap.size < wk.heap.size := blk_lt HV.out.qn
       have hne2 : wo.heap.size ≠ wk.heap.size := by omega
       rw [← HW4.out]
       have HI2 := h0d (HI1.out kk)
       rw [← HPI.out] at HI2
       have HIK := HIS.out kk (by omega)
       have HIB := h0d (fun j => HIK.co j)
       have HCS := h0d (fun j => (cosT_small t ht24).co j)
       have hgh := gg_small hgs hhs
       clear hbx HC4 HW4 HSZ4 HIK q0 q1 q2 q3 hw1 hw2 hw3 hw4 hw5 htx hx3' d1 HV cf hcf
       have HTT : Hid (IF (kk + 1) = addQ (IF kk) (2 * at0 gs i * at0 gs kk) (cosT t)) := by show _ = _; rw [HT.out, ← HPI.out]; exact HI2.out
       go_loopw [75] (fun mv wr => ∃ m : Nat, m ≤ 4 ∧ mv = .int .i64 (m : Int) ∧ Hid (VS w wr wo.heap.size (WF k) (fun j => if j < m then co (IF (kk + 1)) j else co (IF kk) j)) ∧ Hid (QB wr wk.heap.size (co (cosT t)))) (fun mv _ => 4 - (intOf mv).toNat)
       case atStart => exact ⟨0, by omega, rfl, HV4.out.congr fun j _ => by rw [if_neg (by omega)], HCB⟩
       case round =>
        obtain ⟨m, hm, rfl, HV, HC⟩ := hrel
        clear HV4 HCB
        by_cases hm4 : m < 4
        ·obtain ⟨y, hy⟩ : ∃ y, y = co (IF kk) m := ⟨_, rfl⟩
         obtain ⟨c, hc⟩ : ∃ c, c = co (cosT t) m := ⟨_, rfl⟩
         have hyb := HIB.out m
         rw [← hy] at hyb
         have hcb := HCS.out m
         rw [← hc] at hcb
         have d1 : wr.cell? ⟨wo.heap.size, m, none⟩ = some (.int .i64 y) := by
          have := HV.out.qn.cell hm4
          rw [if_neg (by omega)] at this
          rw [hy]; exact this
         have d2 : wr.cell? ⟨wk.heap.size, m, none⟩ = some (.int .i64 c) := by rw [hc]; exact HC.out.cell hm4
         have d3 := (HB.out.below HV.out.bel).gs
         have d4 : wr.cell? ⟨gb, goff + i, none⟩ = some (.int .i64 g) := by
          rw [HGI.out]
          obtain ⟨_, _, e, h1, h2⟩ := HGC.out i hin
          simp only [Option.some.injEq, Addr.mk.injEq] at e
          obtain ⟨rfl, rfl, _⟩ := e
          exact (HV.out.bel.cell (p := ⟨gb, goff + i, none⟩) h1).trans h2
         have d5 : wr.cell? ⟨gb, goff + kk, none⟩ = some (.int .i64 h) := (HV.out.bel.cell (p := ⟨gb, goff + kk, none⟩) hgb').trans hcg
         have d6 := HV.out.qn.free m
         obtain ⟨y1, hy1⟩ : ∃ x, x = 2 * g := ⟨_, rfl⟩
         obtain ⟨y2, hy2⟩ : ∃ x, x = y1 * h := ⟨_, rfl⟩
         obtain ⟨y3, hy3⟩ : ∃ x, x = y2 * c := ⟨_, rfl⟩
         obtain ⟨s', hs'⟩ : ∃ x, x = y + y3 := ⟨_, rfl⟩
         have hy2' : y2 = 2 * (g * h) := by rw [hy2, hy1, Int.mul_assoc]
         have hy3b := mul4_small (x := y2) (c := c) (B := 2000000) (by omega) hcb
         rw [← hy3] at hy3b
         have hw1 : IntKind.i64.wrap (2 * g) = y1 := by rw [hy1]; exact IntWalk.i64_in _ (by omega)
         have hw2 : IntKind.i64.wrap (y1 * h) = y2 := by rw [← hy2]; exact IntWalk.i64_in _ (by omega)
         have hw3 : IntKind.i64.wrap (y2 * c) = y3 := by rw [← hy3]; exact IntWalk.i64_in _ (by omega)
         have hw4 : IntKind.i64.wrap (y + y3) = s' := by rw [hs']; exact IntWalk.i64_in _ (by omega)
         have HS : Hid (co (IF (kk + 1)) m = s') := by
          show _ = _
          rw [HTT.out, co_add, hs', hy3, hy2, hy1, HGI.out, HHI.out, hy, hc]
         clear hy hc hy1 hy2 hy3 hs' hy2' hy3b hyb hcb hgh
         have hm40 : (m : Int) < 4 := by omega
         have hkn : kk < n' := by omega
         go_wp2_with fail
         go_still_tail 25, (by kernel_rfl)
         go_wp2_with fail
         go_roundw
         case rel =>
          refine ⟨m + 1, by omega, by go_num, ?_, ?_⟩
          ·refine (HV.out.set hm4 s').drew.congr fun j hj => ?_
           by_cases hjm : j = m
           ·subst hjm; rw [if_pos rfl, if_pos (by omega)]; exact HS.out.symm
           ·rw [if_neg hjm]
            by_cases h1 : j < m
            ·rw [if_pos h1, if_pos (by omega)]
            ·rw [if_neg h1, if_neg (by omega)]
          ·exact (HC.out.other _ hne2.symm).below (Below.refl _ _).drew
         case measure => simp [intOf]; omega
        ·obtain rfl : m = 4 := by omega
         have HVE : Hid (VS w wr wo.heap.size (WF k) (co (IF (kk + 1)))) := HV.out.congr fun j hj => by rw [if_pos hj]
         go_wp2_with fail
         go_roundw
         case rel => exact ⟨kk + 1, by omega, by go_num, HVE⟩
         case measure => simp [intOf]; omega
      ·obtain rfl : kk = i := by omega
       have HVE : Hid (VS w wr wo.heap.size (WF k) (co (NF (kk + 1)))) := by show VS _ _ _ _ _; rw [HN2.out]; exact HV.out
       go_wp2_with fail
       go_roundw
       case rel => exact ⟨kk + 1, by omega, by go_num, HVE⟩
       case measure => simp [intOf]; omega
    ·obtain rfl : i = n' := by omega
     have HNN : Hid (normN gs ps ((k : Int) + 1) i = NF i) := by show _ = _; rw [HNF.out, ← HZ.out]
     have hQk := HHQ.out k hlt
     have HWK := h0d (HWN.out k hlt)
     rw [HNN.out] at HWK hQk
     obtain ⟨X, hX⟩ : ∃ X, X = WF k := ⟨_, rfl⟩
     obtain ⟨Y, hY⟩ : ∃ Y, Y = NF i := ⟨_, rfl⟩
     rw [← hX] at HV HWK
     rw [← hY] at HV HWK hQk
     have e0 : wr.cell? ⟨wo.heap.size, 0, none⟩ = some (.int .i64 Y.a) := HV.out.qn.cell (j := 0) (by omega)
     have e1 : wr.cell? ⟨wo.heap.size, 1, none⟩ = some (.int .i64 Y.b) := HV.out.qn.cell (j := 1) (by omega)
     have e2 : wr.cell? ⟨wo.heap.size, 2, none⟩ = some (.int .i64 Y.c) := HV.out.qn.cell (j := 2) (by omega)
     have e3 : wr.cell? ⟨wo.heap.size, 3, none⟩ = some (.int .i64 Y.d) := HV.out.qn.cell (j := 3) (by omega)
     have f0 : wr.cell? ⟨w.heap.size + 1, 0, none⟩ = some (.int .i64 X.a) := HV.out.qw.cell (j := 0) (by omega)
     have f1 : wr.cell? ⟨w.heap.size + 1, 1, none⟩ = some (.int .i64 X.b) := HV.out.qw.cell (j := 1) (by omega)
     have f2 : wr.cell? ⟨w.heap.size + 1, 2, none⟩ = some (.int .i64 X.c) := HV.out.qw.cell (j := 2) (by omega)
     have f3 : wr.cell? ⟨w.heap.size + 1, 3, none⟩ = some (.int .i64 X.d) := HV.out.qw.cell (j := 3) (by omega)
     have g0 := HV.out.qw.free 0
     have g1 := HV.out.qw.free 1
     have g2 := HV.out.qw.free 2
     have g3 := HV.out.qw.free 3
     have HQK := h0d hQk
     have HX := h0d hX
     clear hQk hX hY
     by_cases hk0 : k = 0
     ·have hz1 : (z == 1) = true := by rw [HZ.out, hk0]; rfl
      have HE : Hid (WF (k + 1) = Y) := by show _ = _; rw [HWK.out, if_pos (.inl hk0)]
      clear hk0
      go_wp2_with fail
      go_roundw
      case rel =>
       refine ⟨k + 1, z + 1, by omega, by rw [HZ.out]; omega, rfl, put_below HV.out.bel (by omega) Y, (HV.out.qr.others Y (by omega)), ?_⟩
       rw [HE.out]
       exact HV.out.qw.put Y
      case measure => simp [intOf]; omega
     ·have hz1 : (z == 1) = false := by rw [HZ.out]; exact beq_false_of_ne (by omega)
      have hQX : Q X := by
       rw [HX.out]
       have := HWQ.out (k - 1) (by omega)
       rwa [show k - 1 + 1 = k by omega] at this
      have HCL := h0d (fun w => HHL.out X Y w hQX HQK.out)
      by_cases hxy : lt X Y = true
      ·have HE : Hid (WF (k + 1) = Y) := by show _ = _; rw [HWK.out, if_pos (.inr hxy)]
       rw [hxy] at HCL
       clear hk0 hxy hQX
       go_wp2_with fail
       refine (HCL.out _).mono ?_
       rintro e w5 ⟨rfl, hbx⟩
       have HV5 := h0d (HV.out.below hbx)
       have e0 : w5.cell? ⟨wo.heap.size, 0, none⟩ = some (.int .i64 Y.a) := HV5.out.qn.cell (j := 0) (by omega)
       have e1 : w5.cell? ⟨wo.heap.size, 1, none⟩ = some (.int .i64 Y.b) := HV5.out.qn.cell (j := 1) (by omega)
       have e2 : w5.cell? ⟨wo.heap.size, 2, none⟩ = some (.int .i64 Y.c) := HV5.out.qn.cell (j := 2) (by omega)
       have e3 : w5.cell? ⟨wo.heap.size, 3, none⟩ = some (.int .i64 Y.d) := HV5.out.qn.cell (j := 3) (by omega)
       have f0 : w5.cell? ⟨w.heap.size + 1, 0, none⟩ = some (.int .i64 X.a) := HV5.out.qw.cell (j := 0) (by omega)
       have f1 : w5.cell? ⟨w.heap.size + 1, 1, none⟩ = some (.int .i64 X.b) := HV5.out.qw.cell (j := 1) (by omega)
       have f2 : w5.cell? ⟨w.heap.size + 1, 2, none⟩ = some (.int .i64 X.c) := HV5.out.qw.cell (j := 2) (by omega)
       have f3 : w5.cell? ⟨w.heap.size + 1, 3, none⟩ = some (.int .i64 X.d) := HV5.out.qw.cell (j := 3) (by omega)
       have g0 := HV5.out.qw.free 0
       have g1 := HV5.out.qw.free 1
       have g2 := HV5.out.qw.free 2
       have g3 := HV5.out.qw.free 3
       clear hbx
       go_wp2_with fail
       go_roundw
       case rel =>
        refine ⟨k + 1, z + 1, by omega, by rw [HZ.out]; omega, rfl, put_below HV5.out.bel (by omega) Y, (HV5.out.qr.others Y (by omega)), ?_⟩
        rw [HE.out]
        exact HV5.out.qw.put Y
       case measure => simp [intOf]; omega
      ·have HE : Hid (WF (k + 1) = X) := by show _ = _; rw [HWK.out, if_neg (by rintro (h | h); exact hk0 h; exact hxy h)]
       rw [Bool.not_eq_true] at hxy
       rw [hxy] at HCL
       clear hk0 hxy hQX
       go_wp2_with fail
       refine (HCL.out _).mono ?_
       rintro e w5 ⟨rfl, hbx⟩
       have HV5 := h0d (HV.out.below hbx)
       clear hbx
       go_wp2_with fail
       go_roundw
       case rel =>
        refine ⟨k + 1, z + 1, by omega, by rw [HZ.out]; omega, rfl, HV5.out.bel, HV5.out.qr, ?_⟩
        rw [HE.out]
        exact HV5.out.qw
       case measure => simp [intOf]; omega
  ·have hzo : ¬ z ≤ (o : Int) := by omega
   have hko : k = o := by omega
   obtain ⟨X, hX⟩ : ∃ X, X = WF k := ⟨_, rfl⟩
   rw [← hX] at HQB
   have HXO : Hid (quadV X = quadV (WF o)) := by show _ = _; rw [hX, hko]
   have e0 : wr.cell? ⟨w.heap.size + 1, 0, none⟩ = some (.int .i64 X.a) := HQB.out.2.cell (j := 0) (by omega)
   have e1 : wr.cell? ⟨w.heap.size + 1, 1, none⟩ = some (.int .i64 X.b) := HQB.out.2.cell (j := 1) (by omega)
   have e2 : wr.cell? ⟨w.heap.size + 1, 2, none⟩ = some (.int .i64 X.c) := HQB.out.2.cell (j := 2) (by omega)
   have e3 : wr.cell? ⟨w.heap.size + 1, 3, none⟩ = some (.int .i64 X.d) := HQB.out.2.cell (j := 3) (by omega)
   have f0 : wr.cell? ⟨w.heap.size, 0, none⟩ = some (.int .i64 0) := HQB.out.1.cell (j := 0) (by omega)
   have f1 : wr.cell? ⟨w.heap.size, 1, none⟩ = some (.int .i64 0) := HQB.out.1.cell (j := 1) (by omega)
   have f2 : wr.cell? ⟨w.heap.size, 2, none⟩ = some (.int .i64 0) := HQB.out.1.cell (j := 2) (by omega)
   have f3 : wr.cell? ⟨w.heap.size, 3, none⟩ = some (.int .i64 0) := HQB.out.1.cell (j := 3) (by omega)
   have g0 := HQB.out.1.free 0
   have g1 := HQB.out.1.free 1
   have g2 := HQB.out.1.free 2
   have g3 := HQB.out.1.free 3
   clear hX hz hko hk
   go_wp2_with fail
   exact bodyPost_ret (results_cell rfl (by rfl) (blk_all (HQB.out.1.put X)) Tryz.underlying183 rfl (by kernel_rfl)) rfl ⟨by rw [← HXO.out]; rfl, put_below HBw.out (Nat.le_refl _) X⟩
end Go.Proofs.YtodckaioeomccaaGreat
