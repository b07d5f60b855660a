/- The walk of BuildPitches, all inputs. -/
import Derived.Test.YtodckaioeomccaaGreatPart50
import Derived.Test.YtodckaioeomccaaGreatPart48
import Derived.Test.YtodckaioeomccaaGreatPart51
import Derived.Test.YtodckaioeomccaaGreatPart31
import Derived.Test.YtodckaioeomccaaGreatPart54
namespace Go.Proofs.YtodckaioeomccaaGreat
open Go.RowKit Go.Proofs.S4P Go.Proofs.ImpP
set_option linter.unusedVariables false
set_option linter.unusedSimpArgs false
set_option maxRecDepth 100000
set_option maxHeartbeats 4000000
def StopW (P : Program) (c : Code) (Q : Exit → Act → World → Prop) (a : Act) (w : World) : Prop := c.wp P Q a w
theorem stop23 {P : Program} {ops : Array Oper} {Q : Exit → Act → World → Prop} {a : Act} {w : World} (h : StopW P (Code.region 23 ops true) Q a w) : (Code.region 23 ops true).wp P Q a w := h
theorem goOn {P : Program} {c : Code} {Q : Exit → Act → World → Prop} {a : Act} {w : World} (h : c.wp P Q a w) : StopW P c Q a w := h
theorem RdRow.stepQ {w w' : World} {v : Value} {qs : List Rat} (h : RdRow RdQ w v qs) (hb : Below w.heap.size w w') : RdRow RdQ w' v qs := RdRow.below (R := RdQ) (fun _ _ _ _ h hb => h.below hb) h hb
theorem RdRow.stepF {w w' : World} {v : Value} {qs : List Rat} (h : RdRow RdF w v qs) (hb : Below w.heap.size w w') : RdRow RdF w' v qs := RdRow.below (R := RdF) (fun _ _ _ _ h hb => h.below hb) h hb
def impE (o : Int) (l : List Int) : Int := if o < 0 ∨ 12 < o then 1 else if l.sum ≠ 24 then 5 else 0
def impV (o : Int) (l : List Int) : W4 := if impE o l = 0 then wsum o 0 l else .zero
theorem impulses_all (v : Value) (l : List Int) (o : Int) (w : World) (h : RdL w v l) (hp : pitchE l = 0) :
  Calls Tryz.prog 43 #[v, .int .i64 o] w fun e w' => (∃ v', e = .returned (.tuple #[v', .int .i64 (impE o l)]) ∧ RdWv w' v' (impV o l) 60) ∧ Below w.heap.size w w' := by
 unfold impV impE
 by_cases h1 : o < 0
 ·rw [if_pos (.inl h1), if_neg (by decide)]
  exact (imp_low v l o w h hp h1).mono fun e w' ⟨h, hb⟩ => ⟨⟨_, h, rdWv_zero _ (by omega)⟩, hb⟩
 ·by_cases h2 : 12 < o
  ·rw [if_pos (.inr h2), if_neg (by decide)]
   exact (imp_high v l o w h hp h1 h2).mono fun e w' ⟨h, hb⟩ => ⟨⟨_, h, rdWv_zero _ (by omega)⟩, hb⟩
  ·rw [if_neg (fun e => e.elim h1 h2)]
   by_cases h3 : l.sum = 24
   ·rw [if_neg (fun e => e h3), if_pos rfl]
    exact impulses_ok v l o w h hp h3 (by omega)
   ·rw [if_pos h3, if_neg (by decide)]
    exact (imp_none v l o w h hp h1 h2 h3).mono fun e w' ⟨h, hb⟩ => ⟨⟨_, h, rdWv_zero _ (by omega)⟩, hb⟩
set_option maxHeartbeats 40000000 in
theorem buildPitches_any (v : Value) (l : List Int) (o : Int) (w : World) (h : RdL w v l) (ho : -9223372036854775808 ≤ o ∧ o ≤ 9223372036854775807) :
  Calls Tryz.prog 11 #[v, .int .i64 o] w fun e w' => e = .returned (.bool true) ∧ Below w.heap.size w w' := by
 have HP1 := h0d (fun W (hb : Below w.heap.size w W) => rpitched_any v l W (h.below hb))
 obtain ⟨A, cap, rfl, -, hmax, -, -⟩ := h.at_
 obtain ⟨n, hn⟩ : ∃ n, n = l.length := ⟨_, rfl⟩
 rw [← hn] at h hmax HP1 ⊢
 by_cases h40 : 40 < n
 ·clear h HP1 hn
  go_enter Tryz.func11, Tryz.ntmps11
  go_wp2_with fail
  refine (awake_any _).mono ?_
  rintro e w13 ⟨rfl, hbx⟩
  have HBx := h0d hbx
  clear hbx
  go_wp2_with fail
  go_ret
  exact ⟨rfl, HBx.out⟩
 by_cases hp : pitchE l = 0
 rotate_left
 ·have HA := h0d (fun W (hb : Below w.heap.size w W) => auto_bad _ l W (h.below hb) hp)
  have HN := h0d (fun W (hb : Below w.heap.size w W) => noise_bad _ l W (h.below hb) hp)
  have HS := h0d (fun W (hb : Below w.heap.size w W) => starts_bad _ l W (h.below hb) hp)
  have HI := h0d (fun W (hb : Below w.heap.size w W) => imp_bad _ l o W (h.below hb) hp)
  obtain ⟨z, hz⟩ : ∃ z, z = pitchE l := ⟨_, rfl⟩
  rw [← hz] at HA HN HS HI HP1 hp
  have hzb : (z == 0) = false := beq_false_of_ne hp
  have hzz : (z == z) = true := beq_self_eq_true z
  clear h hz hn
  go_enter Tryz.func11, Tryz.ntmps11
  go_wp2_with fail
  refine (HA.out w (Below.refl _ _)).mono ?_
  rintro e w1 ⟨rfl, j⟩
  have HB := h0d j
  clear HA j
  go_wp2_with fail
  refine (HN.out _ HB.out).mono ?_
  rintro e w2 ⟨rfl, j⟩
  replace HB := kU HB j
  clear HN j
  go_wp2_with fail
  refine (HS.out _ HB.out).mono ?_
  rintro e w3 ⟨rfl, j⟩
  replace HB := kU HB j
  clear HS j
  go_wp2_with fail
  refine (HI.out _ HB.out).mono ?_
  rintro e w4 ⟨rfl, j⟩
  replace HB := kU HB j
  obtain ⟨hTH, W5, HW5, HB5, j5⟩ := box_new w4 88 (z := [.bool false, .slice none 0 0, .bool false, .slice none 0 0, .bool false, .slice none 0 0, .bool false, .slice none 0 0, .slice none 0 0, .bool false, .slice none 0 0, .bool false, .slice none 0 0, .bool false, .slice none 0 0, .bool false, .slice none 0 0, .slice none 0 0]) (cs := [.bool false, .slice none 0 0, .bool false, .slice none 0 0, .bool false, .slice none 0 0, .bool false, .slice none 0 0, .slice none 0 0, .bool false, .slice none 0 0, .bool false, .slice none 0 0, .bool false, .slice none 0 0, .bool false, .slice none 0 0, .slice none 0 0]) (n := 18) rfl rfl
  replace HB := kU HB j5
  clear HI j j5
  go_wp2_with (refine wpList_store_mid (by rfl) 88 _ _ (by rfl) w4.heap.size 0 _ (by rfl) (by rfl) (by exact hTH) (by kernel_rfl) (by kernel_rfl) ?_)
  rw [← HW5.out]
  obtain ⟨gb, hgb⟩ : ∃ g, g = w4.heap.size := ⟨_, rfl⟩
  rw [← hgb] at HB5 ⊢
  clear hTH HW5 hgb
  refine (HP1.out _ HB.out).mono ?_
  rintro e w6 ⟨rfl, hwx⟩
  obtain rfl := hwx.symm
  have hL := blk_all HB5.out
  clear HP1 hwx
  go_wp2_with (refine wpList_load_midG (by rfl) 88 _ (by rfl) gb 0 (by rfl) _ _ (by exact hL) Tryz.underlying88 rfl (by kernel_rfl) ?_)
  clear hL
  refine (wzero_yes _ 60 _ (rdWv_zero _ (by omega)) (by omega)).mono ?_
  rintro e w7 ⟨rfl, j⟩
  replace HB := kU HB j
  clear HB5 j
  go_wp2_with fail
  refine (awake_any _).mono ?_
  rintro e w13 ⟨rfl, hbx⟩
  have HBx := h0d hbx
  clear hbx
  go_wp2_with fail
  go_ret
  exact ⟨rfl, HB.out.trans (HBx.out.mono HB.out.size)⟩
 obtain ⟨hl0, hsm⟩ := pitch_parts hp
 rw [hp] at HP1
 have hn0 : 1 ≤ n ∧ n ≤ 12 := by rw [hn]; exact hl0
 have HL0 := h0d h
 have HPE := h0d hp
 have HA := h0d (fun W (hb : Below w.heap.size w W) => auto_any _ l W (h.below hb) hp)
 have HN := h0d (fun W (hb : Below w.heap.size w W) => noise35_any _ l W (h.below hb) hp)
 have HS := h0d (fun W (hb : Below w.heap.size w W) => starts52_any _ l W (h.below hb) hp)
 have HI := h0d (fun W (hb : Below w.heap.size w W) => impulses_all _ l o W (h.below hb) hp)
 have HRS := h0d (fun W (hb : Below w.heap.size w W) => rstarts_any _ l W (h.below hb) hp)
 have HRA := h0d (fun W (hb : Below w.heap.size w W) => rauto_any _ l W (h.below hb) hl0.2 hsm)
 have HRN := h0d (fun W (hb : Below w.heap.size w W) => rnoise_any _ l W (h.below hb) hl0.2 hsm)
 have HTO := h0d (fun W (hb : Below w.heap.size w W) => total_any _ l W (h.below hb) hl0.2 hsm)
 have HRI := h0d (fun W (hb : Below w.heap.size w W) (hs : l.sum = 24) (ho : 0 ≤ o ∧ o ≤ 12) => rimp_any _ l o W (h.below hb) hp hs ho)
 obtain ⟨E, hE⟩ : ∃ E, E = impE o l := ⟨_, rfl⟩
 obtain ⟨X, hX⟩ : ∃ X, X = impV o l := ⟨_, rfl⟩
 obtain ⟨Y, hY⟩ : ∃ Y, Y = wsum o 0 l := ⟨_, rfl⟩
 obtain ⟨N, hN⟩ : ∃ N, N = noiseL l := ⟨_, rfl⟩
 obtain ⟨T, hT⟩ : ∃ T, T = l.sum := ⟨_, rfl⟩
 have hEX : Hid (E = (if o < 0 ∨ 12 < o then 1 else if T ≠ 24 then 5 else 0) ∧ X = (if E = 0 then Y else .zero)) := ⟨by rw [hE, hT]; rfl, by rw [hX, hE, hY]; rfl⟩
 have HQL : Hid ((startQ l).length = n) := by show _ = _; rw [startQ_len]; exact hn.symm
 have HCL : Hid ((corL l).length = n) := by show _ = _; unfold corL; rw [List.length_map, List.length_range]; exact hn.symm
 have HSB := h0d (sum_small hsm hl0.2)
 have HSP := h0d (sum_pos hl0.1 hsm)
 have HQS : Hid (∀ k q, (startQ l)[k]? = some q → QS 900000 q) := fun k q hq => by
  unfold startQ at hq
  rw [List.getElem?_map] at hq
  obtain ⟨k', -, rfl⟩ := Option.map_eq_some_iff.1 hq
  rw [ratio_div _ _ (by have := HSP.out; omega)]
  have h1 := HSB.out k'
  have h2 := HSB.out l.length
  rw [List.take_length] at h2
  exact ((qs_int (by omega) (by omega)).div (qs_int (by have := HSP.out; omega) (by omega)) (by have := HSP.out; exact fun e => by have e := Rat.intCast_inj.1 (e.trans (by rfl : (0 : Rat) = ((0 : Int) : Rat))); omega)).up (by omega)
 rw [← hE, ← hX] at HI
 rw [← hY] at HRI
 rw [← hN] at HN HRN
 rw [← hT] at HTO HRI
 obtain ⟨C, hC⟩ : ∃ C, C = corL l := ⟨_, rfl⟩
 rw [← hC] at HA HRA HCL
 obtain ⟨Qs, hQs⟩ : ∃ C, C = startQ l := ⟨_, rfl⟩
 rw [← hQs] at HS HRS HQL HQS
 clear h hp hl0 hsm hn hE hX hY hN hT hC hQs HSB HSP HL0 HPE ho hmax
 go_enter Tryz.func11, Tryz.ntmps11
 go_wp2_with fail
 refine (HA.out w (Below.refl _ _)).mono ?_
 rintro e w1 ⟨⟨va, rfl, hoa⟩, j⟩
 have HCA := h0d hoa.rd
 obtain ⟨Aa, ca, rfl⟩ := hoa.slice
 rw [HCL.out] at HCA ⊢
 have HB := h0d j
 clear HA hoa j
 go_wp2_with fail
 refine (HN.out _ HB.out).mono ?_
 rintro e w2 ⟨rfl, j⟩
 replace HB := kU HB j
 replace HCA := h0d (HCA.out.below j)
 clear HN j
 go_wp2_with fail
 refine (HS.out _ HB.out).mono ?_
 rintro e w3 ⟨⟨vs, rfl, hrs⟩, j⟩
 have HSR := h0d hrs
 obtain ⟨As, cs, rfl, -, -⟩ := hrs.at
 rw [HQL.out] at HSR ⊢
 replace HB := kU HB j
 replace HCA := h0d (HCA.out.below j)
 clear HS hrs j
 go_wp2_with fail
 refine (HI.out _ HB.out).mono ?_
 rintro e w4 ⟨⟨vi, rfl, hri⟩, j⟩
 obtain ⟨gqa, Aqa, kqa, cqa, gqb, Aqb, kqb, cqb, gqc, Aqc, kqc, cqc, gqd, Aqd, kqd, cqd, Aqe, kqe, cqe, gqf, Aqf, kqf, cqf, gqg, Aqg, kqg, cqg, gqh, Aqh, kqh, cqh, gqi, Aqi, kqi, cqi, Aqj, kqj, cqj, rfl, hri⟩ := hri.open
 obtain ⟨hTH, W5, HW5, HB5, j5⟩ := box_new w4 88 (z := [.bool false, .slice none 0 0, .bool false, .slice none 0 0, .bool false, .slice none 0 0, .bool false, .slice none 0 0, .slice none 0 0, .bool false, .slice none 0 0, .bool false, .slice none 0 0, .bool false, .slice none 0 0, .bool false, .slice none 0 0, .slice none 0 0]) (cs := [.bool gqa, .slice Aqa kqa cqa, .bool gqb, .slice Aqb kqb cqb, .bool gqc, .slice Aqc kqc cqc, .bool gqd, .slice Aqd kqd cqd, .slice Aqe kqe cqe, .bool gqf, .slice Aqf kqf cqf, .bool gqg, .slice Aqg kqg cqg, .bool gqh, .slice Aqh kqh cqh, .bool gqi, .slice Aqi kqi cqi, .slice Aqj kqj cqj]) (n := 18) rfl rfl
 have jx := tt j j5
 replace HB := kU HB jx
 replace HCA := h0d (HCA.out.below jx)
 replace HSR := h0d (HSR.out.stepQ jx)
 have HX := kV j5 (h0d hri)
 clear HI hri j j5 jx
 go_wp2_with (refine wpList_store_mid (by rfl) 88 _ _ (by rfl) w4.heap.size 0 _ (by rfl) (by rfl) (by exact hTH) (by kernel_rfl) (by kernel_rfl) ?_)
 rw [← HW5.out]
 obtain ⟨gb, hgb⟩ : ∃ g, g = w4.heap.size := ⟨_, rfl⟩
 rw [← hgb] at HB5 ⊢
 clear hTH HW5 hgb
 refine (HP1.out _ HB.out).mono ?_
 rintro e w6 ⟨rfl, hwx⟩
 obtain rfl := hwx.symm
 clear HP1 hwx
 go_wp2_with fail
 refine (HRS.out _ HB.out).mono ?_
 rintro e w7 ⟨⟨vr, rfl, hrs⟩, jx⟩
 have HRR := h0d hrs
 obtain ⟨Ar, cr, rfl, -, -⟩ := hrs.at
 rw [HQL.out] at HRR ⊢
 replace HB := kU HB jx
 replace HB5 := kB HB5 jx
 replace HX := kV jx HX
 replace HCA := h0d (HCA.out.below jx)
 replace HSR := h0d (HSR.out.stepQ jx)
 clear HRS hrs jx
 go_wp2_with fail
 refine (HRA.out _ HB.out).mono ?_
 rintro e w8 ⟨⟨vc, rfl, hoc⟩, jx⟩
 have HCB := h0d hoc.rd
 obtain ⟨Ac, cc, rfl⟩ := hoc.slice
 rw [HCL.out] at HCB ⊢
 replace HB := kU HB jx
 replace HB5 := kB HB5 jx
 replace HX := kV jx HX
 replace HCA := h0d (HCA.out.below jx)
 replace HSR := h0d (HSR.out.stepQ jx)
 replace HRR := h0d (HRR.out.stepF jx)
 clear HRA hoc jx
 go_wp2_with fail
 have HEQ : Hid (Calls Tryz.prog 21 #[.slice Aa n ca, .slice Ac n cc] w8 fun e w' => e = .returned (.bool true) ∧ Below w8.heap.size w8 w') := by
  have := equal_any _ _ C C w8 HCA.out HCB.out
  rwa [decide_eq_true rfl] at this
 refine HEQ.out.mono ?_
 rintro e w81 ⟨rfl, jx⟩
 replace HB := kU HB jx
 replace HB5 := kB HB5 jx
 replace HX := kV jx HX
 replace HSR := h0d (HSR.out.stepQ jx)
 replace HRR := h0d (HRR.out.stepF jx)
 clear HEQ jx
 go_wp2_with fail
 refine (HRN.out _ HB.out).mono ?_
 rintro e w9 ⟨rfl, jx⟩
 replace HB := kU HB jx
 replace HB5 := kB HB5 jx
 replace HX := kV jx HX
 replace HSR := h0d (HSR.out.stepQ jx)
 replace HRR := h0d (HRR.out.stepF jx)
 clear HRN jx HCA HCB HCL
 go_wp2_with fail
 obtain ⟨w10, hw10⟩ : ∃ w10 : World, w10 = w9 := ⟨_, rfl⟩
 rw [← hw10] at HB HB5 HX HSR HRR ⊢
 clear hw10
 go_loopw [15, 118] (fun _ iv wr => ∃ (k : Nat), k ≤ n ∧ iv = .int .i64 (k : Int) ∧ Hid (Below w10.heap.size w10 wr)) (fun _ iv _ => n - (intOf iv).toNat)
 case atStart => exact ⟨0, Nat.zero_le _, rfl, Below.refl _ _⟩
 case round =>
  obtain ⟨k, hk, rfl, HK⟩ := hrel
  by_cases hlt : k < n
  ·obtain ⟨q, hq⟩ : ∃ q, Qs[k]? = some q := ⟨_, List.getElem?_eq_getElem (by rw [HQL.out]; exact hlt)⟩
   obtain ⟨A1, c1, e1, -, hat1⟩ := HSR.out.at
   injection e1 with e1 e2 e3
   subst e1
   obtain ⟨A2, c2, e4, -, hat2⟩ := HRR.out.at
   injection e4 with e4 e5 e6
   subst e4
   obtain ⟨b1, off1, g1, s1, t1, rfl, hb1, p1, p2, p3, hr1⟩ := hat1 k q hq
   obtain ⟨b2, off2, g2, s2, t2, rfl, hb2, q1, q2, q3, hr2⟩ := hat2 k q hq
   have HC6 : Hid (∀ W, Below w10.heap.size w10 W → W.cell? ⟨b1, off1 + k * 3, none⟩ = some (.bool g1) ∧ W.cell? ⟨b1, off1 + k * 3 + 1, none⟩ = some s1 ∧ W.cell? ⟨b1, off1 + k * 3 + 2, none⟩ = some t1 ∧
     W.cell? ⟨b2, off2 + k * 3, none⟩ = some (.bool g2) ∧ W.cell? ⟨b2, off2 + k * 3 + 1, none⟩ = some s2 ∧ W.cell? ⟨b2, off2 + k * 3 + 2, none⟩ = some t2) := fun W hW =>
    ⟨(hW.cell (p := ⟨b1, off1 + k * 3, none⟩) hb1).trans p1, (hW.cell (p := ⟨b1, off1 + k * 3 + 1, none⟩) hb1).trans p2, (hW.cell (p := ⟨b1, off1 + k * 3 + 2, none⟩) hb1).trans p3, (hW.cell (p := ⟨b2, off2 + k * 3, none⟩) hb2).trans q1, (hW.cell (p := ⟨b2, off2 + k * 3 + 1, none⟩) hb2).trans q2, (hW.cell (p := ⟨b2, off2 + k * 3 + 2, none⟩) hb2).trans q3⟩
   have HIS : Hid (∀ W, Below w10.heap.size w10 W → Calls Tryz.prog 23 #[.agg #[.bool g1, s1, t1], .agg #[.bool g2, s2, t2]] W fun e w' => e = .returned (.bool true) ∧ Below W.heap.size W w') := fun W hW => is_any _ _ q W (hr1.below hW) (hr2.below hW) (HQS.out k q hq)
   clear hq hat1 hat2 e2 e3 e5 e6 hb1 hb2 p1 p2 p3 q1 q2 q3 hr1 hr2
   go_wp2_with fail
   obtain ⟨W16, hW16⟩ : ∃ W, W = wr.drew := ⟨_, rfl⟩
   have HKD : Hid (Below w10.heap.size w10 W16) := by show Below _ _ _; rw [hW16]; exact HK.out.drew
   refine seq_start (S := fun W => W.cell? ⟨b1, off1 + k * 3, none⟩ = some (.bool g1) ∧ W.cell? ⟨b1, off1 + k * 3 + 1, none⟩ = some s1 ∧ W.cell? ⟨b1, off1 + k * 3 + 2, none⟩ = some t1 ∧ W.cell? ⟨b2, off2 + k * 3, none⟩ = some (.bool g2) ∧ W.cell? ⟨b2, off2 + k * 3 + 1, none⟩ = some s2 ∧ W.cell? ⟨b2, off2 + k * 3 + 2, none⟩ = some t2) (by kernel_rfl) (by kernel_rfl) (by rw [← hW16]; exact HC6.out _ HKD.out) ?_
   rw [← hW16]
   clear hW16
   iterate 8 refine tk0 (h := ?_)
   refine sop (h := fun K9 hK9 => ?_)
   go_simp
   refine mV (HIS.out _ HKD.out) fun w16 j16 => ?_
   have HK16 := kU HKD j16
   refine ckk hK9 (by exact HC6.out _ HK16.out) (h := ?_)
   clear hK9 K9
   refine tk0 (h := ?_)
   refine seq_done (by kernel_rfl) ?_
   go_wp2_with fail
   go_roundw
   case rel => exact ⟨k + 1, by omega, by go_num, HK16.out⟩
   case measure => simp [intOf]; omega
  ·obtain rfl : n = k := by omega
   have HBe := kU HB HK.out
   have HB5e := kB HB5 HK.out
   have HXe := kV HK.out HX
   obtain ⟨wl, hwl⟩ : ∃ wl : World, wl = wr := ⟨_, rfl⟩
   rw [← hwl] at HBe HB5e HXe ⊢
   clear HB HB5 HX HK HSR HRR HQS hwl hlt
   have hL := blk_all HB5e.out
   by_cases h1 : o < 0
   ·obtain ⟨e1, e2⟩ := hEX.out
    rw [if_pos (.inl h1)] at e1
    rw [e1, if_neg (by decide)] at e2
    subst e1 e2
    clear hEX HTO HRI
    go_wp2_with (refine wpList_load_midG (by rfl) 88 _ (by rfl) gb 0 (by rfl) _ _ (by exact hL) Tryz.underlying88 rfl (by kernel_rfl) ?_)
    clear hL
    refine (wzero_yes _ 60 _ HXe.out (by omega)).mono ?_
    rintro e w14 ⟨rfl, j⟩
    replace HBe := kU HBe j
    clear HXe HB5e j
    go_wp2_with fail
    refine (awake_any _).mono ?_
    rintro e w13 ⟨rfl, hbx⟩
    have HBx := h0d hbx
    clear hbx
    go_wp2_with fail
    go_ret
    exact ⟨rfl, HBe.out.trans (HBx.out.mono HBe.out.size)⟩
   by_cases h2 : 12 < o
   ·obtain ⟨e1, e2⟩ := hEX.out
    rw [if_pos (.inr h2)] at e1
    rw [e1, if_neg (by decide)] at e2
    subst e1 e2
    clear hEX HTO HRI
    go_wp2_with (refine wpList_load_midG (by rfl) 88 _ (by rfl) gb 0 (by rfl) _ _ (by exact hL) Tryz.underlying88 rfl (by kernel_rfl) ?_)
    clear hL
    refine (wzero_yes _ 60 _ HXe.out (by omega)).mono ?_
    rintro e w14 ⟨rfl, j⟩
    replace HBe := kU HBe j
    clear HXe HB5e j
    go_wp2_with fail
    refine (awake_any _).mono ?_
    rintro e w13 ⟨rfl, hbx⟩
    have HBx := h0d hbx
    clear hbx
    go_wp2_with fail
    go_ret
    exact ⟨rfl, HBe.out.trans (HBx.out.mono HBe.out.size)⟩
   have h3 := h0d (HTO.out _ HBe.out)
   go_wp2_with fail
   refine h3.out.mono ?_
   rintro e w12 ⟨rfl, hwx⟩
   obtain rfl := hwx.symm
   clear hwx h3 HTO
   by_cases hT : T = 24
   rotate_left
   ·obtain ⟨e1, e2⟩ := hEX.out
    rw [if_neg (show ¬ (o < 0 ∨ 12 < o) by omega), if_pos hT] at e1
    rw [e1, if_neg (by decide)] at e2
    subst e1 e2
    have hTb : (T == 24) = false := beq_false_of_ne hT
    clear hEX HRI
    go_wp2_with (refine wpList_load_midG (by rfl) 88 _ (by rfl) gb 0 (by rfl) _ _ (by exact hL) Tryz.underlying88 rfl (by kernel_rfl) ?_)
    clear hL
    refine (wzero_yes _ 60 _ HXe.out (by omega)).mono ?_
    rintro e w14 ⟨rfl, j⟩
    replace HBe := kU HBe j
    clear HXe HB5e j
    go_wp2_with fail
    refine (awake_any _).mono ?_
    rintro e w13 ⟨rfl, hbx⟩
    have HBx := h0d hbx
    clear hbx
    go_wp2_with fail
    go_ret
    exact ⟨rfl, HBe.out.trans (HBx.out.mono HBe.out.size)⟩
   obtain ⟨e1, e2⟩ := hEX.out
   rw [if_neg (show ¬ (o < 0 ∨ 12 < o) by omega), if_neg (fun e => e hT)] at e1
   rw [e1, if_pos rfl] at e2
   subst e1 e2
   replace HRI := h0d (fun W hb => HRI.out W hb hT ⟨by omega, by omega⟩)
   subst hT
   have HBw := HBe
   clear hEX hL h1 h2 HBe
   go_wp2_with (with_reducible refine stop23 ?_)
   refine goOn ?_
   obtain ⟨W1, hW1⟩ : ∃ W, W = wl.drew := ⟨_, rfl⟩
   have j101 : Below wl.heap.size wl W1 := by rw [hW1]; exact (Below.refl _ _).drew
   replace HB5e := kB HB5e j101
   refine seq_start (S := fun w' => Hid (w'.rangeAt (gb) 0 [.bool gqa, .slice Aqa kqa cqa, .bool gqb, .slice Aqb kqb cqb, .bool gqc, .slice Aqc kqc cqc, .bool gqd, .slice Aqd kqd cqd, .slice Aqe kqe cqe, .bool gqf, .slice Aqf kqf cqf, .bool gqg, .slice Aqg kqg cqg, .bool gqh, .slice Aqh kqh cqh, .bool gqi, .slice Aqi kqi cqi, .slice Aqj kqj cqj])) (by kernel_rfl) (by kernel_rfl) (by rw [← hW1]; exact blk_all HB5e.out) ?_
   rw [← hW1]
   clear hW1
   iterate 3 refine tk0 (h := ?_)
   refine tkM 88 _ (gb) 0 _ _ (fun _ h => h.out) Tryz.underlying88 rfl (by kernel_rfl) (h := ?_)
   iterate 2 refine tkG (h := ?_)
   refine sop (h := fun K9 hK9 => ?_)
   go_simp
   replace HBw := kU HBw j101
   refine (HRI.out _ HBw.out).mono ?_
   rintro e w1 ⟨⟨vx, rfl, hr⟩, j1c⟩
   obtain ⟨g1a, A1a, k1a, c1a, A1b, k1b, c1b, g1c, A1c, k1c, c1c, A1d, k1d, c1d, g1e, A1e, k1e, c1e, A1f, k1f, c1f, g1g, A1g, k1g, c1g, A1h, k1h, c1h, g1i, A1i, k1i, c1i, A1j, k1j, c1j, g1k, A1k, k1k, c1k, A1l, k1l, c1l, g1m, A1m, k1m, c1m, A1n, k1n, c1n, g1o, A1o, k1o, c1o, A1p, k1p, c1p, rfl, hr⟩ := hr.open
   have HR1 := h0d hr
   clear hr
   replace HB5e := kB HB5e j1c
   refine ckk hK9 (by exact blk_all HB5e.out) (h := ?_)
   clear hK9 K9
   refine sop (h := fun K9 hK9 => ?_)
   go_simp
   have jm1 := tt j101 j1c
   replace HXe := kV jm1 HXe
   refine mV (iswave_any _ _ _ 60 _ HXe.out HR1.out (by omega)) fun w2 j2c => ?_
   replace HB5e := kB HB5e j2c
   refine ckk hK9 (by exact blk_all HB5e.out) (h := ?_)
   clear hK9 K9
   iterate 2 refine tk0 (h := ?_)
   refine sop (h := fun K9 hK9 => ?_)
   go_simp
   refine mV (awake_any _) fun w3 j3c => ?_
   replace HB5e := kB HB5e j3c
   refine ckk hK9 (by exact blk_all HB5e.out) (h := ?_)
   clear hK9 K9
   iterate 2 refine tk0 (h := ?_)
   refine seq_done (by kernel_rfl) ?_
   go_wp2_with fail
   go_ret
   have jm2 := tt (tt j1c j2c) j3c
   replace HBw := kU HBw jm2
   exact ⟨rfl, HBw.out⟩
end Go.Proofs.YtodckaioeomccaaGreat
