/- The walk of the reference's Impulses. -/
import Derived.Test.YtodckaioeomccaaGreatPart47
import Derived.Test.YtodckaioeomccaaGreatPart36
import Derived.Test.YtodckaioeomccaaGreatPart28
import Derived.Test.YtodckaioeomccaaGreatPart34
namespace Go.Proofs.YtodckaioeomccaaGreat
open Go.RowKit Go.Proofs.S4P Go.Proofs.ImpP
set_option linter.unusedVariables false
set_option linter.unusedSimpArgs false
set_option maxRecDepth 100000
set_option maxHeartbeats 4000000
def Q4 (k : Nat) (x : Rat) : Prop := ∃ n : Int, x * (4 : Nat) = n ∧ n.natAbs ≤ 4 * k
theorem Q4.add {j k : Nat} {x y : Rat} (h : Q4 j x) (h' : Q4 k y) : Q4 (j + k) (x + y) := by
 obtain ⟨n, h1, h2⟩ := h
 obtain ⟨m, h3, h4⟩ := h'
 exact ⟨n + m, by rw [Rat.add_mul, h1, h3, Rat.intCast_add], by omega⟩
theorem Q4.qm {k : Nat} {x : Rat} (h : Q4 k x) (hk : k ≤ 1000) : QM 400000 x := by
 obtain ⟨n, h1, h2⟩ := h
 have e := mk_part (d := 4) (by omega) h1
 have h3 := mk_sizes (z := n) (D := 4) (by omega)
 rw [e] at h3
 exact ⟨Nat.le_trans (dm_word (by unfold B64; have := h3.1; omega)) (by omega), Nat.le_trans (dm_word (by unfold B64; have := h3.2; omega)) (by omega)⟩
def S4K (k : Nat) (x : S4) : Prop := Q4 k x.a ∧ Q4 k x.b ∧ Q4 k x.c ∧ Q4 k x.e
theorem S4K.add {j k : Nat} {x y : S4} (h : S4K j x) (h' : S4K k y) : S4K (j + k) (x.add y) := ⟨h.1.add h'.1, h.2.1.add h'.2.1, h.2.2.1.add h'.2.2.1, h.2.2.2.add h'.2.2.2⟩
theorem S4K.gm {k : Nat} {x : S4} (h : S4K k x) (hk : k ≤ 1000) : GM 400000 x := ⟨h.1.qm hk, h.2.1.qm hk, h.2.2.1.qm hk, h.2.2.2.qm hk⟩
theorem cos_s4k (j : Nat) (hj : j < 24) : S4K 1 (cosN j) := by
 have key : ∀ j : Nat, j < 24 → (((cosN j).a * (4 : Nat) = (((cosN j).a * (4 : Nat)).num : Rat) ∧ ((cosN j).a * (4 : Nat)).num.natAbs ≤ 4) ∧ ((cosN j).b * (4 : Nat) = (((cosN j).b * (4 : Nat)).num : Rat) ∧ ((cosN j).b * (4 : Nat)).num.natAbs ≤ 4) ∧
   ((cosN j).c * (4 : Nat) = (((cosN j).c * (4 : Nat)).num : Rat) ∧ ((cosN j).c * (4 : Nat)).num.natAbs ≤ 4) ∧ ((cosN j).e * (4 : Nat) = (((cosN j).e * (4 : Nat)).num : Rat) ∧ ((cosN j).e * (4 : Nat)).num.natAbs ≤ 4)) := by decide +kernel
 obtain ⟨a, b, c, d⟩ := key j hj
 exact ⟨⟨_, a⟩, ⟨_, b⟩, ⟨_, c⟩, ⟨_, d⟩⟩
theorem turn_s4k (k : Int) : S4K 1 (turn k).re ∧ S4K 1 (turn k).im := ⟨cos_s4k _ (by omega), cos_s4k _ (Nat.mod_lt _ (by omega))⟩
theorem s4k_zero : S4K 0 .zero := ⟨⟨0, by decide +kernel, by decide⟩, ⟨0, by decide +kernel, by decide⟩, ⟨0, by decide +kernel, by decide⟩, ⟨0, by decide +kernel, by decide⟩⟩
def TotF (w : World) (b : Nat) (x : W4) (k : Nat) : Prop := ∃ cs, w.heap[b]? = some (.cells cs 116 (0, 0)) ∧ RdH w (.agg cs) x ∧ S4K k x.re ∧ S4K k x.im
theorem rimp_any (v : Value) (l : List Int) (o : Int) (w : World) (h : RdL w v l) (hp : pitchE l = 0) (hs : l.sum = 24) (ho : 0 ≤ o ∧ o ≤ 12) :
  Calls Tryz.prog 58 #[v, .int .i64 o] w fun e w' => (∃ v', e = .returned v' ∧ RdH w' v' (wsum o 0 l)) ∧ Below w.heap.size w w' := by
 obtain ⟨hl0, hsm⟩ := pitch_parts hp
 have HSB := h0d (sum_small hsm hl0.2)
 have HSM : Hid (∀ (k : Nat) (x : Int), l[k]? = some x → (l.take (k + 1)).sum = (l.take k).sum + x) := fun k x h => sum_take h
 have HO := h0d ho
 obtain ⟨W1, HW1, HBR, s1w, b1⟩ := st_al0 w #[.bool false, .slice none 0 0, .slice none 0 0, .bool false, .slice none 0 0, .slice none 0 0, .bool false, .slice none 0 0, .slice none 0 0, .bool false, .slice none 0 0, .slice none 0 0, .bool false, .slice none 0 0, .slice none 0 0, .bool false, .slice none 0 0, .slice none 0 0, .bool false, .slice none 0 0, .slice none 0 0, .bool false, .slice none 0 0, .slice none 0 0] 116
 have HB2 := h0d b1
 obtain ⟨A, n, cap, rfl, hn, hcap, hmax, hcm, hc⟩ := h.open_
 have HN := h0d hn
 have HC := h0d hc
 have hn12 : n ≤ 12 := by rw [← hn]; exact hl0.2
 clear h hp hs hsm hl0 b1 ho hc hn hcm
 go_enter Tryz.func58, Tryz.ntmps58
 go_wp2_with fail
 rw [← HW1.out]
 refine (r5zero_any _).mono ?_
 rintro e w1 ⟨⟨vz, rfl, hz⟩, hbx⟩
 replace HB2 := kU HB2 hbx
 replace HBR := kB HBR hbx
 clear hbx HW1 s1w
 go_wp2_with fail
 refine (rwreal_any _ 0 _ hz).mono ?_
 rintro e w2 ⟨⟨vz2, rfl, hz2⟩, hbx⟩
 obtain ⟨gqa, Aqa, kqa, cqa, Aqb, kqb, cqb, gqc, Aqc, kqc, cqc, Aqd, kqd, cqd, gqe, Aqe, kqe, cqe, Aqf, kqf, cqf, gqg, Aqg, kqg, cqg, Aqh, kqh, cqh, gqi, Aqi, kqi, cqi, Aqj, kqj, cqj, gqk, Aqk, kqk, cqk, Aql, kql, cql, gqm, Aqm, kqm, cqm, Aqn, kqn, cqn, gqo, Aqo, kqo, cqo, Aqp, kqp, cqp, rfl, hz2⟩ := hz2.open
 replace HB2 := kU HB2 hbx
 replace HBR := kB HBR hbx
 have hlt0 := blk_lt HBR.out
 obtain ⟨hTH, W9, HW9, HBT, b3⟩ := box_new w2 116 (z := [.bool false, .slice none 0 0, .slice none 0 0, .bool false, .slice none 0 0, .slice none 0 0, .bool false, .slice none 0 0, .slice none 0 0, .bool false, .slice none 0 0, .slice none 0 0, .bool false, .slice none 0 0, .slice none 0 0, .bool false, .slice none 0 0, .slice none 0 0, .bool false, .slice none 0 0, .slice none 0 0, .bool false, .slice none 0 0, .slice none 0 0]) (cs := [.bool gqa, .slice Aqa kqa cqa, .slice Aqb kqb cqb, .bool gqc, .slice Aqc kqc cqc, .slice Aqd kqd cqd, .bool gqe, .slice Aqe kqe cqe, .slice Aqf kqf cqf, .bool gqg, .slice Aqg kqg cqg, .slice Aqh kqh cqh, .bool gqi, .slice Aqi kqi cqi, .slice Aqj kqj cqj, .bool gqk, .slice Aqk kqk cqk, .slice Aql kql cql, .bool gqm, .slice Aqm kqm cqm, .slice Aqn kqn cqn, .bool gqo, .slice Aqo kqo cqo, .slice Aqp kqp cqp]) (n := 24) rfl rfl
 have HT0 : Hid (TotF W9 w2.heap.size (wsum o 0 (l.take 0)) 0) := ⟨_, HBT.out, hz2.wd (Wd.of_below b3), s4k_zero, s4k_zero⟩
 replace HB2 := kU HB2 b3
 replace HBR := kB HBR b3
 have HLT : Hid (w.heap.size < w2.heap.size ∧ w2.heap.size < W9.heap.size) := ⟨hlt0, blk_lt HBT.out⟩
 clear hz hz2 hbx HBT b3 hlt0
 go_wp2_with (refine wpList_store_mid (by rfl) 116 _ _ (by rfl) w2.heap.size 0 _ (by rfl) (by rfl) (by exact hTH) (by kernel_rfl) (by kernel_rfl) ?_)
 rw [← HW9.out]
 obtain ⟨bt, hbt⟩ : ∃ b, b = w2.heap.size := ⟨_, rfl⟩
 rw [← hbt] at HT0 HLT ⊢
 have HK0 : Hid (Keep (fun q => q < W9.heap.size ∧ q ≠ bt) W9 W9) := Keep.refl _ _
 clear hbt hTH HW9
 go_loopw [6, 7] (fun sv iv wr => ∃ (k : Nat) (s : Int), k ≤ n ∧ sv = .int .i64 s ∧ iv = .int .i64 (k : Int) ∧ Hid (s = (l.take k).sum) ∧ Hid (TotF wr bt (wsum o 0 (l.take k)) k) ∧ Hid (Keep (fun q => q < W9.heap.size ∧ q ≠ bt) W9 wr) ∧ Hid (Below w.heap.size w wr)) (fun _ iv _ => n - (intOf iv).toNat)
 case atStart => exact ⟨0, 0, Nat.zero_le _, rfl, rfl, rfl, HT0.out, HK0.out, HB2.out⟩
 case round =>
  clear HT0 HK0 HB2
  obtain ⟨k, s, hk, rfl, rfl, HS, HT, HKP, HBw⟩ := hrel
  by_cases hlt : k < n
  ·obtain ⟨b, off, x, rfl, hb1, hx, hcx⟩ := HC.out k hlt
   have c0 : wr.cell? ⟨b, off + k, none⟩ = some (.int .i64 x) := (HBw.out.cell (p := ⟨b, off + k, none⟩) hb1).trans hcx
   have HYS := HSB.out k
   have HYS1 := HSB.out (k + 1)
   rw [HSM.out k x hx] at HYS1
   have HWS : Hid (wsum o 0 (l.take (k + 1)) = (wsum o 0 (l.take k)).add (turn (o * (l.take k).sum))) := wsum_take o (by rw [HN.out]; exact hlt)
   have HS1 : Hid (s + x = (l.take (k + 1)).sum) := by show _ = _; rw [HSM.out k x hx, HS.out]
   rw [← HS.out] at HYS HYS1 HWS
   obtain ⟨X, hX⟩ : ∃ X, X = wsum o 0 (l.take k) := ⟨_, rfl⟩
   rw [← hX] at HWS HT
   obtain ⟨cz, HBT, hrd, HQ1, HQ2⟩ := HT.out
   obtain ⟨gqa, Aqa, kqa, cqa, Aqb, kqb, cqb, gqc, Aqc, kqc, cqc, Aqd, kqd, cqd, gqe, Aqe, kqe, cqe, Aqf, kqf, cqf, gqg, Aqg, kqg, cqg, Aqh, kqh, cqh, gqi, Aqi, kqi, cqi, Aqj, kqj, cqj, gqk, Aqk, kqk, cqk, Aql, kql, cql, gqm, Aqm, kqm, cqm, Aqn, kqn, cqn, gqo, Aqo, kqo, cqo, Aqp, kqp, cqp, e, hrd⟩ := hrd.open
   injection e with e
   subst e
   replace HBT := h0d HBT
   have HX1 := h0d hrd
   have HGX : Hid (S4K k X.re ∧ S4K k X.im) := ⟨HQ1, HQ2⟩
   have hoy : -14400 ≤ o * s ∧ o * s ≤ 14400 := by
    have h1 := Int.mul_nonneg HO.out.1 HYS.1
    have h2 := Int.mul_le_mul HO.out.2 HYS.2 HYS.1 (by omega)
    omega
   have hw1 : IntKind.i64.wrap (o * s) = o * s := IntWalk.i64_in _ (by omega)
   have hw2 : IntKind.i64.wrap (s + x) = s + x := IntWalk.i64_in _ (by omega)
   have HOY := h0d hoy
   have HC3 : Hid (W9.cell? ⟨b, off + k, none⟩ = some (.int .i64 x)) := by show _ = _; rw [← c0]; exact (HKP.out.cell (p := ⟨b, off + k, none⟩) ⟨by have := HLT.out; show b < _; omega, by have := HLT.out; show b ≠ _; omega⟩).symm
   have HBL : Hid (b < w.heap.size) := hb1
   have HLE_T : Hid (w.heap.size ≤ bt) := Nat.le_of_lt HLT.out.1
   clear hcx hb1 hX hrd hoy HT HYS HYS1 HQ1 HQ2 hx c0
   go_wp2_with fail
   obtain ⟨W1, hW1⟩ : ∃ W, W = wr.drew := ⟨_, rfl⟩
   have j1 : Below wr.heap.size wr W1 := by rw [hW1]; exact (Below.refl _ _).drew
   refine seq_start (S := fun w' => True) (by kernel_rfl) (by kernel_rfl) trivial ?_
   rw [← hW1]
   clear hW1
   iterate 3 (refine plq 1 (h := ?_); refine tk0 (h := ?_))
   refine plq 1 (h := ?_)
   refine plq 1 (h := ?_)
   refine seq_both ?_ ?_ ?_ ?_ ?_
   ·kernel_rfl
   ·rfl
   ·rfl
   ·intro K9 hK9
    replace HBT := kB HBT j1
    refine wp_load_mid 116 _ (by rfl) (bt) 0 (by rfl) _ _ (blk_all HBT.out) Tryz.underlying116 rfl (by kernel_rfl) ?_
    refine ckk hK9 (by exact trivial) (h := ?_)
    clear hK9 K9
    refine sop (h := fun K9 hK9 => ?_)
    go_simp
    refine (rturn_any (o * s) _ (by have := HOY.out; omega) (by have := HOY.out; omega)).mono ?_
    rintro e w1 ⟨⟨vx, rfl, hr⟩, j1c⟩
    obtain ⟨g1a, A1a, k1a, c1a, A1b, k1b, c1b, g1c, A1c, k1c, c1c, A1d, k1d, c1d, g1e, A1e, k1e, c1e, A1f, k1f, c1f, g1g, A1g, k1g, c1g, A1h, k1h, c1h, g1i, A1i, k1i, c1i, A1j, k1j, c1j, g1k, A1k, k1k, c1k, A1l, k1l, c1l, g1m, A1m, k1m, c1m, A1n, k1n, c1n, g1o, A1o, k1o, c1o, A1p, k1p, c1p, rfl, hr⟩ := hr.open
    have HR1 := h0d hr
    clear hr
    refine ckk hK9 (by exact trivial) (h := ?_)
    clear hK9 K9
    refine sop (h := fun K9 hK9 => ?_)
    go_simp
    have jm1 := tt j1 j1c
    replace HX1 := kV jm1 HX1
    refine (rwadd_any _ _ X (turn (o * s)) _ HX1.out HR1.out ⟨HGX.out.1.gm (by omega), HGX.out.2.gm (by omega)⟩ ⟨(turn_s4k _).1.gm (by omega), (turn_s4k _).2.gm (by omega)⟩).mono ?_
    rintro e w2 ⟨⟨vx, rfl, hr⟩, j2c⟩
    obtain ⟨g2a, A2a, k2a, c2a, A2b, k2b, c2b, g2c, A2c, k2c, c2c, A2d, k2d, c2d, g2e, A2e, k2e, c2e, A2f, k2f, c2f, g2g, A2g, k2g, c2g, A2h, k2h, c2h, g2i, A2i, k2i, c2i, A2j, k2j, c2j, g2k, A2k, k2k, c2k, A2l, k2l, c2l, g2m, A2m, k2m, c2m, A2n, k2n, c2n, g2o, A2o, k2o, c2o, A2p, k2p, c2p, rfl, hr⟩ := hr.open
    have HR2 := h0d hr
    clear hr
    refine ckk hK9 (by exact trivial) (h := ?_)
    clear hK9 K9
    refine sop (h := fun K9 hK9 => ?_)
    have jm2 := tt j1c j2c
    replace HBT := kB HBT jm2
    have t2h := kth 0 24 HBT
    refine smw 116 (bt) 0 (ht := by exact t2h) (h := ?_)
    obtain ⟨W3, HW3⟩ : ∃ W, Hid (W = w2.setCells (bt) 0 [.bool g2a, .slice A2a k2a c2a, .slice A2b k2b c2b, .bool g2c, .slice A2c k2c c2c, .slice A2d k2d c2d, .bool g2e, .slice A2e k2e c2e, .slice A2f k2f c2f, .bool g2g, .slice A2g k2g c2g, .slice A2h k2h c2h, .bool g2i, .slice A2i k2i c2i, .slice A2j k2j c2j, .bool g2k, .slice A2k k2k c2k, .slice A2l k2l c2l, .bool g2m, .slice A2m k2m c2m, .slice A2n k2n c2n, .bool g2o, .slice A2o k2o c2o, .slice A2p k2p c2p]) := ⟨_, rfl⟩
    have TW3 := kN (kM HW3) HBT rfl rfl
    replace HBT := kP (ds := [.bool g2a, .slice A2a k2a c2a, .slice A2b k2b c2b, .bool g2c, .slice A2c k2c c2c, .slice A2d k2d c2d, .bool g2e, .slice A2e k2e c2e, .slice A2f k2f c2f, .bool g2g, .slice A2g k2g c2g, .slice A2h k2h c2h, .bool g2i, .slice A2i k2i c2i, .slice A2j k2j c2j, .bool g2k, .slice A2k k2k c2k, .slice A2l k2l c2l, .bool g2m, .slice A2m k2m c2m, .slice A2n k2n c2n, .bool g2o, .slice A2o k2o c2o, .slice A2p k2p c2p]) (kM HW3) HBT rfl rfl
    rw [← HW3.out]
    refine ckk hK9 (by exact trivial) (h := ?_)
    clear hK9 K9 t2h
    refine seq_done (by kernel_rfl) ?_
    have jm3 := tt jm1 j2c
    replace HBw := kS (kM HW3) HLE_T (kU HBw jm3)
    replace HR2 := kW TW3 HR2
    have HK4 : Hid (Keep (fun q => q < W9.heap.size ∧ q ≠ bt) W9 W3) := keep_sets ((HKP.out).trans ((Keep.of_below (kU (kU (h0d j1) j1c) j2c).out).mono fun q hq => Nat.lt_of_lt_of_le hq.1 HKP.out.size)) (kM HW3) (fun e => e.2 rfl)
    have c0 : W3.cell? ⟨b, off + k, none⟩ = some (.int .i64 x) := (HK4.out.cell (p := ⟨b, off + k, none⟩) ⟨by have := HBL.out; have := HLT.out; show b < _; omega, by have := HBL.out; have := HLT.out; show b ≠ _; omega⟩).trans HC3.out
    go_wp2_with fail
    go_roundw
    case rel => exact ⟨k + 1, _, by omega, rfl, by go_num, HS1.out, ⟨_, HBT.out, by rw [HWS.out]; exact HR2.out, by rw [HWS.out]; exact HGX.out.1.add (turn_s4k _).1, by rw [HWS.out]; exact HGX.out.2.add (turn_s4k _).2⟩, HK4.out, HBw.out⟩
    case measure => simp [intOf]; omega
   intro K9 hK9
   go_simp
   refine (rturn_any (o * s) _ (by have := HOY.out; omega) (by have := HOY.out; omega)).mono ?_
   rintro e w1 ⟨⟨vx, rfl, hr⟩, j1c⟩
   obtain ⟨g1a, A1a, k1a, c1a, A1b, k1b, c1b, g1c, A1c, k1c, c1c, A1d, k1d, c1d, g1e, A1e, k1e, c1e, A1f, k1f, c1f, g1g, A1g, k1g, c1g, A1h, k1h, c1h, g1i, A1i, k1i, c1i, A1j, k1j, c1j, g1k, A1k, k1k, c1k, A1l, k1l, c1l, g1m, A1m, k1m, c1m, A1n, k1n, c1n, g1o, A1o, k1o, c1o, A1p, k1p, c1p, rfl, hr⟩ := hr.open
   have HR1 := h0d hr
   clear hr
   refine ckk hK9 (by exact trivial) (h := ?_)
   clear hK9 K9
   refine sop (h := fun K9 hK9 => ?_)
   have jm1 := tt j1 j1c
   replace HBT := kB HBT jm1
   refine wp_load_mid 116 _ (by rfl) (bt) 0 (by rfl) _ _ (blk_all HBT.out) Tryz.underlying116 rfl (by kernel_rfl) ?_
   refine ckk hK9 (by exact trivial) (h := ?_)
   clear hK9 K9
   refine sop (h := fun K9 hK9 => ?_)
   go_simp
   replace HX1 := kV jm1 HX1
   refine (rwadd_any _ _ X (turn (o * s)) _ HX1.out HR1.out ⟨HGX.out.1.gm (by omega), HGX.out.2.gm (by omega)⟩ ⟨(turn_s4k _).1.gm (by omega), (turn_s4k _).2.gm (by omega)⟩).mono ?_
   rintro e w2 ⟨⟨vx, rfl, hr⟩, j2c⟩
   obtain ⟨g2a, A2a, k2a, c2a, A2b, k2b, c2b, g2c, A2c, k2c, c2c, A2d, k2d, c2d, g2e, A2e, k2e, c2e, A2f, k2f, c2f, g2g, A2g, k2g, c2g, A2h, k2h, c2h, g2i, A2i, k2i, c2i, A2j, k2j, c2j, g2k, A2k, k2k, c2k, A2l, k2l, c2l, g2m, A2m, k2m, c2m, A2n, k2n, c2n, g2o, A2o, k2o, c2o, A2p, k2p, c2p, rfl, hr⟩ := hr.open
   have HR2 := h0d hr
   clear hr
   refine ckk hK9 (by exact trivial) (h := ?_)
   clear hK9 K9
   refine sop (h := fun K9 hK9 => ?_)
   replace HBT := kB HBT j2c
   have t2h := kth 0 24 HBT
   refine smw 116 (bt) 0 (ht := by exact t2h) (h := ?_)
   obtain ⟨W3, HW3⟩ : ∃ W, Hid (W = w2.setCells (bt) 0 [.bool g2a, .slice A2a k2a c2a, .slice A2b k2b c2b, .bool g2c, .slice A2c k2c c2c, .slice A2d k2d c2d, .bool g2e, .slice A2e k2e c2e, .slice A2f k2f c2f, .bool g2g, .slice A2g k2g c2g, .slice A2h k2h c2h, .bool g2i, .slice A2i k2i c2i, .slice A2j k2j c2j, .bool g2k, .slice A2k k2k c2k, .slice A2l k2l c2l, .bool g2m, .slice A2m k2m c2m, .slice A2n k2n c2n, .bool g2o, .slice A2o k2o c2o, .slice A2p k2p c2p]) := ⟨_, rfl⟩
   have TW3 := kN (kM HW3) HBT rfl rfl
   replace HBT := kP (ds := [.bool g2a, .slice A2a k2a c2a, .slice A2b k2b c2b, .bool g2c, .slice A2c k2c c2c, .slice A2d k2d c2d, .bool g2e, .slice A2e k2e c2e, .slice A2f k2f c2f, .bool g2g, .slice A2g k2g c2g, .slice A2h k2h c2h, .bool g2i, .slice A2i k2i c2i, .slice A2j k2j c2j, .bool g2k, .slice A2k k2k c2k, .slice A2l k2l c2l, .bool g2m, .slice A2m k2m c2m, .slice A2n k2n c2n, .bool g2o, .slice A2o k2o c2o, .slice A2p k2p c2p]) (kM HW3) HBT rfl rfl
   rw [← HW3.out]
   refine ckk hK9 (by exact trivial) (h := ?_)
   clear hK9 K9 t2h
   refine seq_done (by kernel_rfl) ?_
   have jm2 := tt jm1 j2c
   replace HBw := kS (kM HW3) HLE_T (kU HBw jm2)
   replace HR2 := kW TW3 HR2
   have HK4 : Hid (Keep (fun q => q < W9.heap.size ∧ q ≠ bt) W9 W3) := keep_sets ((HKP.out).trans ((Keep.of_below (kU (kU (h0d j1) j1c) j2c).out).mono fun q hq => Nat.lt_of_lt_of_le hq.1 HKP.out.size)) (kM HW3) (fun e => e.2 rfl)
   have c0 : W3.cell? ⟨b, off + k, none⟩ = some (.int .i64 x) := (HK4.out.cell (p := ⟨b, off + k, none⟩) ⟨by have := HBL.out; have := HLT.out; show b < _; omega, by have := HBL.out; have := HLT.out; show b ≠ _; omega⟩).trans HC3.out
   go_wp2_with fail
   go_roundw
   case rel => exact ⟨k + 1, _, by omega, rfl, by go_num, HS1.out, ⟨_, HBT.out, by rw [HWS.out]; exact HR2.out, by rw [HWS.out]; exact HGX.out.1.add (turn_s4k _).1, by rw [HWS.out]; exact HGX.out.2.add (turn_s4k _).2⟩, HK4.out, HBw.out⟩
   case measure => simp [intOf]; omega
  ·obtain rfl : n = k := by omega
   have HTF : Hid (l.take n = l) := List.take_of_length_le (by rw [HN.out]; exact Nat.le_refl _)
   rw [HTF.out] at HT
   obtain ⟨cz, HBT, hrd, -, -⟩ := HT.out
   obtain ⟨gqa, Aqa, kqa, cqa, Aqb, kqb, cqb, gqc, Aqc, kqc, cqc, Aqd, kqd, cqd, gqe, Aqe, kqe, cqe, Aqf, kqf, cqf, gqg, Aqg, kqg, cqg, Aqh, kqh, cqh, gqi, Aqi, kqi, cqi, Aqj, kqj, cqj, gqk, Aqk, kqk, cqk, Aql, kql, cql, gqm, Aqm, kqm, cqm, Aqn, kqn, cqn, gqo, Aqo, kqo, cqo, Aqp, kqp, cqp, e, hrd⟩ := hrd.open
   injection e with e
   subst e
   replace HBT := h0d HBT
   have HX1 := h0d hrd
   have HBR2 : Hid (wr.heap[w.heap.size]? = some (.cells #[.bool false, .slice none 0 0, .slice none 0 0, .bool false, .slice none 0 0, .slice none 0 0, .bool false, .slice none 0 0, .slice none 0 0, .bool false, .slice none 0 0, .slice none 0 0, .bool false, .slice none 0 0, .slice none 0 0, .bool false, .slice none 0 0, .slice none 0 0, .bool false, .slice none 0 0, .slice none 0 0, .bool false, .slice none 0 0, .slice none 0 0] 116 (0, 0))) := (HKP.out.block _ ⟨blk_lt HBR.out, by have := HLT.out.1; omega⟩).trans HBR.out
   clear hrd HT HTF HBR
   have HBR := HBR2
   clear HBR2
   have HNE_R_T : Hid (w.heap.size ≠ bt) := by show _ ≠ _; have := HLT.out.1; omega
   have HLE_R : Hid (w.heap.size ≤ w.heap.size) := Nat.le_refl _
   have hL1 := blk_all HBT.out
   have t2h := kth 0 24 HBR
   obtain ⟨W3, HW3⟩ : ∃ W, Hid (W = wr.setCells (w.heap.size) 0 [.bool gqa, .slice Aqa kqa cqa, .slice Aqb kqb cqb, .bool gqc, .slice Aqc kqc cqc, .slice Aqd kqd cqd, .bool gqe, .slice Aqe kqe cqe, .slice Aqf kqf cqf, .bool gqg, .slice Aqg kqg cqg, .slice Aqh kqh cqh, .bool gqi, .slice Aqi kqi cqi, .slice Aqj kqj cqj, .bool gqk, .slice Aqk kqk cqk, .slice Aql kql cql, .bool gqm, .slice Aqm kqm cqm, .slice Aqn kqn cqn, .bool gqo, .slice Aqo kqo cqo, .slice Aqp kqp cqp]) := ⟨_, rfl⟩
   have TW3 := kN (kM HW3) HBR rfl rfl
   replace HBR := kP (ds := [.bool gqa, .slice Aqa kqa cqa, .slice Aqb kqb cqb, .bool gqc, .slice Aqc kqc cqc, .slice Aqd kqd cqd, .bool gqe, .slice Aqe kqe cqe, .slice Aqf kqf cqf, .bool gqg, .slice Aqg kqg cqg, .slice Aqh kqh cqh, .bool gqi, .slice Aqi kqi cqi, .slice Aqj kqj cqj, .bool gqk, .slice Aqk kqk cqk, .slice Aql kql cql, .bool gqm, .slice Aqm kqm cqm, .slice Aqn kqn cqn, .bool gqo, .slice Aqo kqo cqo, .slice Aqp kqp cqp]) (kM HW3) HBR rfl rfl
   have s3w := kZ (kM HW3)
   go_wp2_with (first | (refine wpList_load_mid (by rfl) 116 _ (by rfl) (bt) 0 (by rfl) _ _ (by exact hL1) Tryz.underlying116 rfl (by kernel_rfl) ?_) | (refine smd 116 (w.heap.size) 0 (ht := by exact t2h) (h := ?_)))
   rw [← HW3.out]
   clear hL1 t2h
   replace HX1 := kW TW3 HX1
   replace HBw := kS (kM HW3) HLE_R HBw
   exact bodyPost_ret (results_cell rfl (by rfl) (blk_all HBR.out) Tryz.underlying116 rfl (by kernel_rfl)) rfl ⟨⟨_, rfl, HX1.out⟩, HBw.out⟩
end Go.Proofs.YtodckaioeomccaaGreat
