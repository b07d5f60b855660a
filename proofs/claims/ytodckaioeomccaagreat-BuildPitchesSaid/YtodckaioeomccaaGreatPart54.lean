/- The example of layer 5 holds. -/
import Derived.Test.YtodckaioeomccaaGreatPart53
import Derived.Test.YtodckaioeomccaaGreatPart27
namespace Go.Proofs.YtodckaioeomccaaGreat
open Go.RowKit Go.Proofs.Plc Go.Proofs.S4P
set_option linter.unusedVariables false
set_option linter.unusedSimpArgs false
theorem rdL_new {w : World} {b : Nat} {l : List Int} (h : w.heap[b]? = some (.cells (l.map intV).toArray 3 (0, 0))) (hl : l.length ≤ 1000) : RdL w (.slice (some ⟨b, 0, none⟩) l.length l.length) l := by
 refine ⟨some ⟨b, 0, none⟩, l.length, rfl, Nat.le_refl _, by unfold maxLen; omega, fun hn => ⟨b, 0, rfl, trivial, fun i hi => ?_⟩⟩
 rw [Nat.zero_add, blk_cell h]
 simp [List.getElem?_eq_getElem hi]
theorem own_at {w : World} {B g n c : Nat} {l : List Int} (h : OwnL w B (.slice (some ⟨g, 0, none⟩) n c) l) (k : Nat) (x : Int) (hk : l[k]? = some x) : w.cell? ⟨g, k, none⟩ = some (.int .i64 x) := by
 obtain ⟨A, n', cap, e, hn, _, _, _, hc⟩ := h.rd.open_
 injection e with e1
 subst e1
 obtain ⟨b, off, y, e2, _, h2, h3⟩ := hc k (by rw [← hn]; exact (List.getElem?_eq_some_iff.1 hk).1)
 simp only [Option.some.injEq, Addr.mk.injEq] at e2
 obtain ⟨rfl, rfl, _⟩ := e2
 rw [hk] at h2
 obtain rfl : x = y := Option.some.inj h2
 rw [Nat.zero_add] at h3; exact h3
set_option maxRecDepth 100000 in
set_option maxHeartbeats 4000000 in
theorem awake_any (w : World) : Calls Tryz.prog 18 #[] w fun e w' => e = .returned (.bool true) ∧ Below w.heap.size w w' := by
 go_enter Tryz.func18, Tryz.ntmps18
 obtain ⟨W1, HW1, HK1, HSZ1, hbx⟩ := st_al0 w #[.int .i64 5, .int .i64 5] 3
 have HV1 : Hid (RdL W1 (.slice (some ⟨w.heap.size, 0, none⟩) 2 2) [5, 5]) := rdL_new (l := [5, 5]) HK1.out (by decide)
 have HB1 := h0d hbx
 clear hbx
 go_wp2_with fail
 rw [← HW1.out]
 refine (place5 _ W1 HV1.out).mono ?_
 rintro e w1 ⟨⟨vl, s0, s1, s2, s3, s4, s5, s6, s7, s8, r0, r1, r2, rfl, ho, hs, hr⟩, hbx⟩
 obtain ⟨gp, cp, rfl⟩ := ho.some (by simp)
 obtain ⟨g0, A0, k0, c0, g1, A1, k1, c1, g2, A2, k2, c2, g3, A3, k3, c3, B4, k4, c4, he, hs⟩ := hs.open
 injection he with he
 injection he with he
 simp only [List.cons.injEq, and_true] at he
 obtain ⟨rfl, rfl, rfl, rfl, rfl, rfl, rfl, rfl, rfl⟩ := he
 obtain ⟨gr, Ar, kr, cr, Br, kt, ct, he, hr⟩ := hr.open
 injection he with he
 injection he with he
 simp only [List.cons.injEq, and_true] at he
 obtain ⟨rfl, rfl, rfl⟩ := he
 have HO := h0d ho
 have HS := h0d hs
 replace HB1 := kU HB1 hbx
 clear ho hs hr hbx HW1 HSZ1 HK1 HV1
 rw [show ([0, 8] : List Int).length = 2 from rfl] at HO ⊢
 obtain ⟨W2, HW2, HP, HSZ2, hbx⟩ := st_al0 w1 #[.slice (some ⟨gp, 0, none⟩) 2 cp, .bool g0, .slice A0 k0 c0, .bool g1, .slice A1 k1 c1, .bool g2, .slice A2 k2 c2, .bool g3, .slice A3 k3 c3, .slice B4 k4 c4, .bool gr, .slice Ar kr cr, .slice Br kt ct] 34
 replace HO := h0d (HO.out.stay hbx)
 replace HS := kW (Wd.of_below hbx) HS
 replace HB1 := kU HB1 hbx
 clear hbx
 go_wp2_with fail
 rw [← HW2.out]
 refine (lof_agg 1 2 _ (by omega) (by omega) (by omega) (by omega)).mono ?_
 rintro e w2 ⟨⟨vx, rfl, hr⟩, hbx⟩
 obtain ⟨ga, Aa, ka, ca, Ba, ma, da, rfl, hr⟩ := hr.open
 rw [half_is] at hr
 have HH := h0d hr
 replace HO := h0d (HO.out.stay hbx)
 replace HS := kW (Wd.of_below hbx) HS
 replace HP := kB HP hbx
 replace HB1 := kU HB1 hbx
 clear hbx hr HW2 HSZ2
 go_wp2_with fail
 refine (angle_3 _ (1 / 2) _ HH.out qs_half (by decide +kernel) (-1) (by decide +kernel) (by decide)).mono ?_
 rintro e w3 ⟨⟨v1, v2, rfl, hr, hr2⟩, hbx⟩
 obtain ⟨gb, Ab, kb, cb, Bb, mb, db, rfl, hr⟩ := hr.open
 obtain ⟨gc, Ac, kc, cc, Bc, mc, dc, rfl, hr2⟩ := hr2.open
 have HC := h0d hr
 have HD := h0d hr2
 replace HO := h0d (HO.out.stay hbx)
 replace HS := kW (Wd.of_below hbx) HS
 replace HP := kB HP hbx
 replace HB1 := kU HB1 hbx
 clear hbx hr hr2 HH
 obtain ⟨W4, HW4, HQ1, HSZ4, hbx⟩ := st_al0 w3 #[.bool gb, .slice Ab kb cb, .slice Bb mb db] 32
 replace HO := h0d (HO.out.stay hbx)
 replace HS := kW (Wd.of_below hbx) HS
 replace HC := kW (Wd.of_below hbx) HC
 replace HD := kW (Wd.of_below hbx) HD
 replace HP := kB HP hbx
 replace HB1 := kU HB1 hbx
 clear hbx
 obtain ⟨W5, HW5, HQ2, HSZ5, hbx⟩ := st_alk 1 2 #[.bool gc, .slice Ac kc cc, .slice Bc mc dc] 32 HSZ4 rfl
 replace HO := h0d (HO.out.stay hbx)
 replace HS := kW (Wd.of_below hbx) HS
 replace HC := kW (Wd.of_below hbx) HC
 replace HD := kW (Wd.of_below hbx) HD
 replace HP := kB HP hbx
 replace HQ1 := kB HQ1 hbx
 replace HB1 := kU HB1 hbx
 clear hbx
 obtain ⟨W6, HW6, HK6, HSZ6, hbx⟩ := st_alk 2 3 #[.int .i64 2, .int .i64 1, .int .i64 2, .int .i64 1] 3 HSZ5 rfl
 replace HO := h0d (HO.out.stay hbx)
 replace HS := kW (Wd.of_below hbx) HS
 replace HC := kW (Wd.of_below hbx) HC
 replace HD := kW (Wd.of_below hbx) HD
 replace HP := kB HP hbx
 replace HQ1 := kB HQ1 hbx
 replace HQ2 := kB HQ2 hbx
 replace HB1 := kU HB1 hbx
 have HV6 : Hid (RdL W6 (.slice (some ⟨w3.heap.size + 2, 0, none⟩) 4 4) [2, 1, 2, 1]) := rdL_new (l := [2, 1, 2, 1]) HK6.out (by decide)
 clear hbx
 go_wp2_with fail
 rw [← HW4.out, ← HW5.out, ← HW6.out]
 refine (sequence_any _ [2, 1, 2, 1] W6 HV6.out).mono ?_
 intro e w4 hsq
 unfold SeqPost at hsq
 rw [if_neg (by rw [seq4.1]; simp), if_neg sort4, seq4.2.2.1, seq4.2.2.2, seq4.2.1] at hsq
 obtain ⟨⟨vq, rfl, hq⟩, hbx⟩ := hsq
 obtain ⟨gq, cq, rfl⟩ := hq.some (by simp)
 have HSQ := h0d hq
 unfold patV
 rw [show ([1, 1, 2, 2] : List Int).length = 4 from rfl] at HSQ ⊢
 replace HO := h0d (HO.out.stay hbx)
 replace HS := kW (Wd.of_below hbx) HS
 replace HC := kW (Wd.of_below hbx) HC
 replace HD := kW (Wd.of_below hbx) HD
 replace HP := kB HP hbx
 replace HQ1 := kB HQ1 hbx
 replace HQ2 := kB HQ2 hbx
 replace HB1 := kU HB1 hbx
 clear hbx hq HW4 HW5 HW6 HSZ4 HSZ5 HSZ6 HK6 HV6
 obtain ⟨W7, HW7, HPT, HSZ7, hbx⟩ := st_al0 w4 #[.slice (some ⟨gq, 0, none⟩) 4 cq, .int .i64 9, .int .i64 9] 52
 replace HO := h0d (HO.out.stay hbx)
 replace HSQ := h0d (HSQ.out.stay hbx)
 replace HS := kW (Wd.of_below hbx) HS
 replace HC := kW (Wd.of_below hbx) HC
 replace HD := kW (Wd.of_below hbx) HD
 replace HP := kB HP hbx
 replace HQ1 := kB HQ1 hbx
 replace HQ2 := kB HQ2 hbx
 replace HB1 := kU HB1 hbx
 clear hbx
 have HE1 : Hid (W7.cell? ⟨gp, 1, none⟩ = some (.int .i64 8)) := own_at HO.out 1 8 rfl
 have e0 := kC HP 0 rfl
 have e11 := kC HP 1 rfl
 have e12 := kC HP 2 rfl
 have e13 := kC HP 3 rfl
 have e14 := kC HP 4 rfl
 have e15 := kC HP 5 rfl
 have e16 := kC HP 6 rfl
 have e17 := kC HP 7 rfl
 have e18 := kC HP 8 rfl
 have e19 := kC HP 9 rfl
 have e1 := HE1.out
 rw [HW7.out] at e0 e1 e11 e12 e13 e14 e15 e16 e17 e18 e19
 go_wp2_with fail
 rw [← HW7.out]
 clear e0 e1 e11 e12 e13 e14 e15 e16 e17 e18 e19 HE1
 have HTX := h0d (stext_any _ _ 11 W7 HS.out (by decide))
 rw [text25] at HTX
 refine HTX.out.mono ?_
 rintro e w5 ⟨rfl, hbx⟩
 replace HSQ := h0d (HSQ.out.stay hbx)
 replace HC := kW (Wd.of_below hbx) HC
 replace HD := kW (Wd.of_below hbx) HD
 replace HQ1 := kB HQ1 hbx
 replace HQ2 := kB HQ2 hbx
 replace HPT := kB HPT hbx
 replace HB1 := kU HB1 hbx
 clear hbx HTX HS HO HP HW7 HSZ7
 have e0 := kC HQ1 0 rfl
 have e1 := kC HQ1 1 rfl
 have e2 := kC HQ1 2 rfl
 go_wp2_with fail
 clear e0 e1 e2
 have HTX := h0d (rtext_any _ _ w5 HC.out qs_35)
 rw [text35] at HTX
 refine HTX.out.mono ?_
 rintro e w6 ⟨rfl, hbx⟩
 replace HSQ := h0d (HSQ.out.stay hbx)
 replace HD := kW (Wd.of_below hbx) HD
 replace HQ2 := kB HQ2 hbx
 replace HPT := kB HPT hbx
 replace HB1 := kU HB1 hbx
 clear hbx HTX HC HQ1
 have e0 := kC HQ2 0 rfl
 have e1 := kC HQ2 1 rfl
 have e2 := kC HQ2 2 rfl
 go_wp2_with fail
 clear e0 e1 e2
 have HTX := h0d (rtext_any _ _ w6 HD.out qs_45)
 rw [text45] at HTX
 refine HTX.out.mono ?_
 rintro e w7 ⟨rfl, hbx⟩
 replace HSQ := h0d (HSQ.out.stay hbx)
 replace HPT := kB HPT hbx
 replace HB1 := kU HB1 hbx
 clear hbx HTX HD HQ2
 have HPQ := kC HPT 0 rfl
 obtain ⟨W8, HW8, HK8, HSZ8, hbx⟩ := st_al0 w7 #[.int .i64 1, .int .i64 1, .int .i64 2, .int .i64 2] 3
 replace HSQ := h0d (HSQ.out.stay hbx)
 replace HPT := kB HPT hbx
 replace HB1 := kU HB1 hbx
 have HV8 : Hid (RdL W8 (.slice (some ⟨w7.heap.size, 0, none⟩) 4 4) [1, 1, 2, 2]) := rdL_new (l := [1, 1, 2, 2]) HK8.out (by decide)
 clear hbx
 have hpw := kC HPT 0 rfl
 have e0 : w7.cell? ⟨w4.heap.size, 0, none⟩ = some (.slice (some ⟨gq, 0, none⟩) 4 cq) := HPQ
 rw [HW8.out] at hpw
 go_wp2_with fail
 rw [← HW8.out]
 have HEQ := h0d (equal_any _ _ [1, 1, 2, 2] [1, 1, 2, 2] W8 HSQ.out.rd HV8.out)
 rw [decide_eq_true rfl] at HEQ
 refine HEQ.out.mono ?_
 rintro e w8 ⟨rfl, hbx⟩
 replace HPT := kB HPT hbx
 replace HB1 := kU HB1 hbx
 clear hbx HEQ HSQ HV8 HW8 HSZ8 HK8 hpw e0
 have e1 := kC HPT 1 rfl
 have e2 := kC HPT 2 rfl
 go_wp2_with fail
 go_ret
 exact ⟨rfl, HB1.out⟩
end Go.Proofs.YtodckaioeomccaaGreat
