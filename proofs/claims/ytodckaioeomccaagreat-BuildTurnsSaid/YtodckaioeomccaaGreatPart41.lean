/- The walk of Impulses, where the pitches are right. The walk of vector. -/
import Derived.Test.YtodckaioeomccaaGreatPart35
import Derived.Test.YtodckaioeomccaaGreatPart02
import Derived.Test.YtodckaioeomccaaGreatPart15
import Derived.Test.YtodckaioeomccaaGreatPart31
import Derived.Test.YtodckaioeomccaaGreatPart07
import Derived.Test.YtodckaioeomccaaGreatPart32
namespace Go.Proofs.YtodckaioeomccaaGreat
open Go.RowKit Go.Proofs.S4P Go.Proofs.ImpP
set_option linter.unusedVariables false
set_option linter.unusedSimpArgs false
set_option maxRecDepth 100000
set_option maxHeartbeats 4000000
def TotIs (w : World) (b : Nat) (x : W4) (K : Nat) : Prop := ∃ cs, w.heap[b]? = some (.cells cs 88 (0, 0)) ∧ RdWv w (.agg cs) x K
end Go.Proofs.YtodckaioeomccaaGreat
namespace Go.Proofs.YtodckaioeomccaaGreat
open Go.RowKit Go.Proofs.S4P Go.Proofs.ImpP Go.Proofs.TurP
set_option linter.unusedVariables false
set_option linter.unusedSimpArgs false
set_option maxRecDepth 100000
set_option maxHeartbeats 4000000
section
variable {P : Program} {ops : Array Oper} {Q : Exit → Act → World → Prop} {S : World → Prop}
theorem seqD {p q : Nat × Oper} {rest : List (Nat × Oper)} {a : Act} {w : World} (d e : Nat) (hd : p.2.dst = some d) (he : q.2.dst = some e) (hok : okTwo ops p q rest = true) (hp : Region.wanted p.2 (yielded ops a.tmps) = true) (hq : Region.wanted q.2 (yielded ops a.tmps) = true)
  (h1 : StepTo P ops Q S p.2 (q :: rest) a w) (h2 : StepTo P ops Q S q.2 (p :: rest) a w) : Seq P ops Q S (p :: q :: rest) a w := seq_both hok hp hq h1 h2
theorem sopD {i : Nat} {o : Oper} {rest : List (Nat × Oper)} {a : Act} {w : World} (d : Nat) (hd : o.dst = some d) (hok : okOnly ops (i, o) rest = true := by kernel_rfl) (hw : Region.wanted o (yielded ops a.tmps) = true := by rfl)
  (h : ∀ K : Act → World → Prop, Shut (∀ a w, S w → Seq P ops Q S rest a w → K a w) → Oper.wp P o a w K Q) : Seq P ops Q S ((i, o) :: rest) a w := seq_op hok hw h
end
theorem vector_any (v : Value) (l : List Sp) (o : Int) (w : World) (h : RdP w v l) (h16 : l.length ≤ 16) (hok : ∀ x ∈ l, OkS x) (ho : 0 ≤ o ∧ o ≤ 12) :
  Calls Tryz.prog 150 #[v, .int .i64 o] w fun e w' => (∃ v', e = .returned v' ∧ RdWv w' v' (vsum o l) 300) ∧ Below w.heap.size w w' := by
 obtain ⟨W1, HW1, HBR0, s1w, j1⟩ := st_al0 w #[.bool false, .slice none 0 0, .bool false, .slice none 0 0, .bool false, .slice none 0 0, .bool false, .slice none 0 0, .slice none 0 0, .bool false, .slice none 0 0, .bool false, .slice none 0 0, .bool false, .slice none 0 0, .bool false, .slice none 0 0, .slice none 0 0] 88
 obtain ⟨W2, HW2, HBT0, s2w, j2⟩ := st_alk 1 2 #[.bool false, .slice none 0 0, .bool false, .slice none 0 0, .bool false, .slice none 0 0, .bool false, .slice none 0 0, .slice none 0 0, .bool false, .slice none 0 0, .bool false, .slice none 0 0, .bool false, .slice none 0 0, .bool false, .slice none 0 0, .slice none 0 0] 88 s1w rfl
 have HB2 := kU (h0d j1) j2
 have HBR2 := kB HBR0 j2
 obtain ⟨A, n, cap, rfl, hn, hcap, hmax, hcm, hc⟩ := h.open_
 have HC := h0d hc
 have HN := h0d hn
 have HOK := h0d hok
 have HO := h0d ho
 have hn16 : n ≤ 16 := by omega
 have HT0 : Hid (TotIs W2 (w.heap.size + 1) (vsum o (l.take 0)) 1) := ⟨_, HBT0.out, rdWv_zero _ (Nat.le_refl _)⟩
 have HLT : Hid (w.heap.size ≤ w.heap.size + 1) := Nat.le_add_right _ _
 have HNE : Hid (w.heap.size ≠ w.heap.size + 1) := by show _ ≠ _; omega
 clear h hc hn hok hcm ho h16 j1 j2 HBR0
 go_enter Tryz.func150, Tryz.ntmps150
 go_wp2_with fail
 rw [← HW1.out, ← HW2.out]
 clear HW1 HW2 s1w s2w HBT0
 go_loopw [10] (fun iv wr => ∃ (k : Nat), k ≤ n ∧ iv = .int .i64 (k : Int) ∧ Hid (TotIs wr (w.heap.size + 1) (vsum o (l.take k)) (18 * k + 1)) ∧ Hid (wr.heap[w.heap.size]? = some (.cells #[.bool false, .slice none 0 0, .bool false, .slice none 0 0, .bool false, .slice none 0 0, .bool false, .slice none 0 0, .slice none 0 0, .bool false, .slice none 0 0, .bool false, .slice none 0 0, .bool false, .slice none 0 0, .bool false, .slice none 0 0, .slice none 0 0] 88 (0, 0))) ∧ Hid (Below w.heap.size w wr)) (fun iv _ => n - (intOf iv).toNat)
 case atStart => exact ⟨0, Nat.zero_le _, rfl, HT0.out, HBR2.out, HB2.out⟩
 case round =>
  clear HT0 HBR2 HB2
  obtain ⟨k, hk, rfl, HT, HBR, HBw⟩ := hrel
  by_cases hlt : k < n
  ·obtain ⟨b, off, x, rfl, hbw, hx, hc1, hc2⟩ := HC.out k hlt
   have d1 := (HBw.out.cell (p := ⟨b, off + k * 2, none⟩) hbw).trans hc1
   have d2 := (HBw.out.cell (p := ⟨b, off + k * 2 + 1, none⟩) hbw).trans hc2
   have HWS : Hid (vsum o (l.take (k + 1)) = (vsum o (l.take k)).add (vone o x)) := vsum_take o hx
   obtain ⟨g1, g2, g3, g4⟩ := HOK.out x (List.mem_of_getElem? hx)
   obtain ⟨gx, px⟩ := x
   replace g1 : 1 ≤ gx := g1
   replace g2 : gx ≤ 1000 := g2
   replace g3 : 0 ≤ px := g3
   replace g4 : px < 24 := g4
   obtain ⟨X, hX⟩ : ∃ X, X = vsum o (l.take k) := ⟨_, rfl⟩
   rw [← hX] at HWS HT
   obtain ⟨cz, hbt, hrd⟩ := HT.out
   obtain ⟨gqa, Aqa, kqa, cqa, gqb, Aqb, kqb, cqb, gqc, Aqc, kqc, cqc, gqd, Aqd, kqd, cqd, Aqe, kqe, cqe, gqf, Aqf, kqf, cqf, gqg, Aqg, kqg, cqg, gqh, Aqh, kqh, cqh, gqi, Aqi, kqi, cqi, Aqj, kqj, cqj, e, hrd⟩ := hrd.open
   injection e with e
   subst e
   have hoy : -14400 ≤ o * px ∧ o * px ≤ 14400 := by
    have h1 := Int.mul_nonneg HO.out.1 g3
    have h2 := Int.mul_le_mul HO.out.2 (show px ≤ 24 by omega) g3 (by omega)
    omega
   have hw1 : IntKind.i64.wrap (o * px) = o * px := IntWalk.i64_in _ (by omega)
   have HOY := h0d hoy
   have HGX : Hid (1 ≤ gx ∧ gx ≤ 1000) := ⟨g1, g2⟩
   obtain ⟨b7, hb7⟩ : ∃ g, g = wr.heap.size := ⟨_, rfl⟩
   have HB7N := h0d hb7
   obtain ⟨V0, HV0, HB7, HSZ_V0, j0⟩ := st_al0 wr #[.int .i64 gx, .int .i64 px] 125
   have HN7 : Hid (b7 ≠ w.heap.size + 1) := by show _ ≠ _; have := blk_lt hbt; omega
   have HBT0 := kB (h0d hbt) j0
   have HX0 := kV j0 (h0d hrd)
   replace HBR := kB HBR j0
   replace HBw := kU HBw j0
   clear hc1 hc2 hbw hx hX hrd hbt hoy HT g1 g2 g3 g4 hb7 j0 HSZ_V0
   go_wp2_with fail
   rw [← HV0.out]
   rw [← HB7N.out] at HB7 ⊢
   clear HV0 HB7N d1 d2
   obtain ⟨w0, hw0⟩ : ∃ W, W = V0.drew := ⟨_, rfl⟩
   have j0 : Below V0.heap.size V0 w0 := by rw [hw0]; exact (Below.refl _ _).drew
   have HBT := kB HBT0 j0
   have HX1 := kV j0 HX0
   replace HBR := kB HBR j0
   replace HBw := kU HBw j0
   replace HB7 := kB HB7 j0
   have HG : Hid (Below w0.heap.size w0 w0) := Below.refl _ _
   have HS : Hid (∀ w', Below w0.heap.size w0 w' → w'.cell? ⟨b7, 0, none⟩ = some (.int .i64 gx) ∧ w'.cell? ⟨b7, 1, none⟩ = some (.int .i64 px)) := fun w' hb => ⟨kD (kB HB7 hb) 0, kD (kB HB7 hb) 1⟩
   clear j0 HBT0 HX0
   go_wp2_with fail
   refine seq_start (S := fun w' => w'.cell? ⟨b7, 0, none⟩ = some (.int .i64 gx) ∧ w'.cell? ⟨b7, 1, none⟩ = some (.int .i64 px)) (by kernel_rfl) (by kernel_rfl) (by rw [← hw0]; exact HS.out _ HG.out) ?_
   rw [← hw0]
   clear hw0
   iterate 2 (refine plq 2 (h := ?_); refine tk0 (h := ?_))
   iterate 4 (refine plq 4 (h := ?_); refine tk0 (h := ?_))
   refine seq_three (by kernel_rfl) (by rfl) (by rfl) (by rfl) ?_ ?_ ?_
   (focus (intro K9 hK9; refine wp_load_mid 88 _ (by rfl) (w.heap.size + 1) 0 (by rfl) _ _ (blk_all (kB HBT HG.out).out) Tryz.underlying88 rfl (by kernel_rfl) ?_; refine ckk hK9 (by exact HS.out _ HG.out) (h := ?_); clear hK9 K9; refine seq_both (by kernel_rfl) (by rfl) (by rfl) ?_ ?_; (focus (intro K9 hK9; refine wp_load_mid 88 _ (by rfl) (w.heap.size + 1) 0 (by rfl) _ _ (blk_all (kB HBT HG.out).out) Tryz.underlying88 rfl (by kernel_rfl) ?_; refine ckk hK9 (by exact HS.out _ HG.out) (h := ?_); clear hK9 K9; refine sop (h := fun K9 hK9 => ?_))); rotate_left; (focus (intro K9 hK9))))
   rotate_left 2
   (focus (intro K9 hK9; refine wp_load_mid 88 _ (by rfl) (w.heap.size + 1) 0 (by rfl) _ _ (blk_all (kB HBT HG.out).out) Tryz.underlying88 rfl (by kernel_rfl) ?_; refine ckk hK9 (by exact HS.out _ HG.out) (h := ?_); clear hK9 K9; refine seq_both (by kernel_rfl) (by rfl) (by rfl) ?_ ?_; (focus (intro K9 hK9; refine wp_load_mid 88 _ (by rfl) (w.heap.size + 1) 0 (by rfl) _ _ (blk_all (kB HBT HG.out).out) Tryz.underlying88 rfl (by kernel_rfl) ?_; refine ckk hK9 (by exact HS.out _ HG.out) (h := ?_); clear hK9 K9; refine sop (h := fun K9 hK9 => ?_))); rotate_left; (focus (intro K9 hK9))))
   rotate_left 2
   (focus (intro K9 hK9))
   all_goals
    go_simp
    refine (int_any gx _ (by have := HGX.out; omega) (by have := HGX.out; omega)).mono ?_
    rintro e w1 ⟨⟨vx, rfl, hr⟩, j⟩
    obtain ⟨g1a, A1a, k1a, c1a, A1b, k1b, c1b, rfl, hr⟩ := hr.open
    have HR1 := h0d hr
    replace HG := kU HG j
    clear hr j
    refine ckk hK9 (by exact HS.out _ HG.out) (h := ?_)
    clear hK9 K9
   all_goals first | (refine seqD 14 15 rfl rfl (by kernel_rfl) (by rfl) (by rfl) ?_ ?_; (focus (intro K9 hK9; refine wp_load_mid 88 _ (by rfl) (w.heap.size + 1) 0 (by rfl) _ _ (blk_all (kB HBT HG.out).out) Tryz.underlying88 rfl (by kernel_rfl) ?_; refine ckk hK9 (by exact HS.out _ HG.out) (h := ?_); clear hK9 K9; refine sop (h := fun K9 hK9 => ?_); refine wp_load_mid 88 _ (by rfl) (w.heap.size + 1) 0 (by rfl) _ _ (blk_all (kB HBT HG.out).out) Tryz.underlying88 rfl (by kernel_rfl) ?_; refine ckk hK9 (by exact HS.out _ HG.out) (h := ?_); clear hK9 K9; refine sop (h := fun K9 hK9 => ?_))); rotate_left; (focus (intro K9 hK9; refine wp_load_mid 88 _ (by rfl) (w.heap.size + 1) 0 (by rfl) _ _ (blk_all (kB HBT HG.out).out) Tryz.underlying88 rfl (by kernel_rfl) ?_; refine ckk hK9 (by exact HS.out _ HG.out) (h := ?_); clear hK9 K9; refine seq_both (by kernel_rfl) (by rfl) (by rfl) ?_ ?_; (focus (intro K9 hK9; refine wp_load_mid 88 _ (by rfl) (w.heap.size + 1) 0 (by rfl) _ _ (blk_all (kB HBT HG.out).out) Tryz.underlying88 rfl (by kernel_rfl) ?_; refine ckk hK9 (by exact HS.out _ HG.out) (h := ?_); clear hK9 K9; refine sop (h := fun K9 hK9 => ?_))); rotate_left; (focus (intro K9 hK9))))) | (refine sopD 15 rfl (h := fun K9 hK9 => ?_); refine wp_load_mid 88 _ (by rfl) (w.heap.size + 1) 0 (by rfl) _ _ (blk_all (kB HBT HG.out).out) Tryz.underlying88 rfl (by kernel_rfl) ?_; refine ckk hK9 (by exact HS.out _ HG.out) (h := ?_); clear hK9 K9; refine sop (h := fun K9 hK9 => ?_)) | (refine seqD 14 19 rfl rfl (by kernel_rfl) (by rfl) (by rfl) ?_ ?_; (focus (intro K9 hK9; refine wp_load_mid 88 _ (by rfl) (w.heap.size + 1) 0 (by rfl) _ _ (blk_all (kB HBT HG.out).out) Tryz.underlying88 rfl (by kernel_rfl) ?_; refine ckk hK9 (by exact HS.out _ HG.out) (h := ?_); clear hK9 K9; refine sop (h := fun K9 hK9 => ?_))); rotate_left; (focus (intro K9 hK9))) | refine sop (h := fun K9 hK9 => ?_)
   all_goals
    go_simp
    refine (wof_any _ _ X (gx : Rat) (18 * k + 1) 1 _ (kV HG.out HX1).out HR1.out (qs_int (by have := HGX.out; omega) (by have := HGX.out; omega)) (by omega)).mono ?_
    rintro e w2 ⟨⟨vx, rfl, hr⟩, j⟩
    obtain ⟨g2a, A2a, k2a, c2a, g2b, A2b, k2b, c2b, g2c, A2c, k2c, c2c, g2d, A2d, k2d, c2d, A2e, k2e, c2e, g2f, A2f, k2f, c2f, g2g, A2g, k2g, c2g, g2h, A2h, k2h, c2h, g2i, A2i, k2i, c2i, A2j, k2j, c2j, rfl, hr⟩ := hr.open
    have HR2 := h0d hr
    replace HG := kU HG j
    clear hr j HR1
    refine ckk hK9 (by exact HS.out _ HG.out) (h := ?_)
    clear hK9 K9
   all_goals first | (refine seqD 14 24 rfl rfl (by kernel_rfl) (by rfl) (by rfl) ?_ ?_; (focus (intro K9 hK9; refine wp_load_mid 88 _ (by rfl) (w.heap.size + 1) 0 (by rfl) _ _ (blk_all (kB HBT HG.out).out) Tryz.underlying88 rfl (by kernel_rfl) ?_; refine ckk hK9 (by exact HS.out _ HG.out) (h := ?_); clear hK9 K9; refine sop (h := fun K9 hK9 => ?_))); rotate_left; (focus (intro K9 hK9))) | refine sop (h := fun K9 hK9 => ?_)
   all_goals
    go_simp
    refine (turn_any (o * px) _ (by have := HOY.out; omega) (by have := HOY.out; omega)).mono ?_
    rintro e w3 ⟨⟨vx, rfl, hr⟩, j⟩
    obtain ⟨g3a, A3a, k3a, c3a, g3b, A3b, k3b, c3b, g3c, A3c, k3c, c3c, g3d, A3d, k3d, c3d, A3e, k3e, c3e, g3f, A3f, k3f, c3f, g3g, A3g, k3g, c3g, g3h, A3h, k3h, c3h, g3i, A3i, k3i, c3i, A3j, k3j, c3j, rfl, hr⟩ := hr.open
    have HR3 := h0d hr
    replace HG := kU HG j
    replace HR2 := kV j HR2
    clear hr j
    refine ckk hK9 (by exact HS.out _ HG.out) (h := ?_)
    clear hK9 K9
   all_goals first | (refine seqD 14 25 rfl rfl (by kernel_rfl) (by rfl) (by rfl) ?_ ?_; (focus (intro K9 hK9; refine wp_load_mid 88 _ (by rfl) (w.heap.size + 1) 0 (by rfl) _ _ (blk_all (kB HBT HG.out).out) Tryz.underlying88 rfl (by kernel_rfl) ?_; refine ckk hK9 (by exact HS.out _ HG.out) (h := ?_); clear hK9 K9; refine sop (h := fun K9 hK9 => ?_))); rotate_left; (focus (intro K9 hK9))) | refine sop (h := fun K9 hK9 => ?_)
   all_goals
    go_simp
    refine (wmul_any _ _ (.ofQ (gx : Rat)) (turn (o * px)) 1 3 _ HR2.out HR3.out (by omega) (by omega)).mono ?_
    rintro e w4 ⟨⟨vx, rfl, hr⟩, j⟩
    obtain ⟨g4a, A4a, k4a, c4a, g4b, A4b, k4b, c4b, g4c, A4c, k4c, c4c, g4d, A4d, k4d, c4d, A4e, k4e, c4e, g4f, A4f, k4f, c4f, g4g, A4g, k4g, c4g, g4h, A4h, k4h, c4h, g4i, A4i, k4i, c4i, A4j, k4j, c4j, rfl, hr⟩ := hr.open
    have HR4 := h0d hr
    replace HG := kU HG j
    clear hr j HR2 HR3
    refine ckk hK9 (by exact HS.out _ HG.out) (h := ?_)
    clear hK9 K9
   all_goals first | (refine sopD 14 rfl (h := fun K9 hK9 => ?_); refine wp_load_mid 88 _ (by rfl) (w.heap.size + 1) 0 (by rfl) _ _ (blk_all (kB HBT HG.out).out) Tryz.underlying88 rfl (by kernel_rfl) ?_; refine ckk hK9 (by exact HS.out _ HG.out) (h := ?_); clear hK9 K9; refine sop (h := fun K9 hK9 => ?_)) | refine sop (h := fun K9 hK9 => ?_)
   all_goals
    go_simp
    refine (wadd_any _ _ X (vone o (gx, px)) (18 * k + 1) (1 + 3 + 4 + (1 + 3 + 4) + 1) _ (kV HG.out HX1).out HR4.out (by omega) (by omega)).mono ?_
    rintro e w5 ⟨⟨vx, rfl, hr⟩, j⟩
    obtain ⟨g5a, A5a, k5a, c5a, g5b, A5b, k5b, c5b, g5c, A5c, k5c, c5c, g5d, A5d, k5d, c5d, A5e, k5e, c5e, g5f, A5f, k5f, c5f, g5g, A5g, k5g, c5g, g5h, A5h, k5h, c5h, g5i, A5i, k5i, c5i, A5j, k5j, c5j, rfl, hr⟩ := hr.open
    have HR5 := h0d hr
    replace HG := kU HG j
    clear hr j HR4
    refine ckk hK9 (by exact HS.out _ HG.out) (h := ?_)
    clear hK9 K9
    refine sop (h := fun K9 hK9 => ?_)
    replace HBT := kB HBT HG.out
    replace HBR := kB HBR HG.out
    replace HB7 := kB HB7 HG.out
    replace HBw := kU HBw HG.out
    refine wp_store_mid 88 _ _ (by rfl) (w.heap.size + 1) 0 #[.bool g5a, .slice A5a k5a c5a, .bool g5b, .slice A5b k5b c5b, .bool g5c, .slice A5c k5c c5c, .bool g5d, .slice A5d k5d c5d, .slice A5e k5e c5e, .bool g5f, .slice A5f k5f c5f, .bool g5g, .slice A5g k5g c5g, .bool g5h, .slice A5h k5h c5h, .bool g5i, .slice A5i k5i c5i, .slice A5j k5j c5j] (by rfl) (by rfl) (blk_there HBT.out (Nat.le_of_ble_eq_true rfl)) (by kernel_rfl) (by kernel_rfl) ?_
    obtain ⟨WZ, HU⟩ : ∃ W, Hid (W = w5.setCells (w.heap.size + 1) 0 [.bool g5a, .slice A5a k5a c5a, .bool g5b, .slice A5b k5b c5b, .bool g5c, .slice A5c k5c c5c, .bool g5d, .slice A5d k5d c5d, .slice A5e k5e c5e, .bool g5f, .slice A5f k5f c5f, .bool g5g, .slice A5g k5g c5g, .bool g5h, .slice A5h k5h c5h, .bool g5i, .slice A5i k5i c5i, .slice A5j k5j c5j]) := ⟨_, rfl⟩
    have TZ := kN (kM HU) HBT rfl rfl
    replace HR5 := kW TZ HR5
    replace HBT := kP (ds := [.bool g5a, .slice A5a k5a c5a, .bool g5b, .slice A5b k5b c5b, .bool g5c, .slice A5c k5c c5c, .bool g5d, .slice A5d k5d c5d, .slice A5e k5e c5e, .bool g5f, .slice A5f k5f c5f, .bool g5g, .slice A5g k5g c5g, .bool g5h, .slice A5h k5h c5h, .bool g5i, .slice A5i k5i c5i, .slice A5j k5j c5j]) (kM HU) HBT rfl rfl
    replace HBR := kO (kM HU) HBR HNE.out
    replace HB7 := kO (kM HU) HB7 HN7.out
    replace HBw := kS (kM HU) HLT HBw
    rw [← HU.out]
    refine ckk hK9 (by exact ⟨kD HB7 0, kD HB7 1⟩) (h := ?_)
    clear hK9 K9 HU TZ
    refine seq_done (by kernel_rfl) ?_
    go_wp2_with fail
    go_roundw
    case rel => exact ⟨k + 1, by omega, by go_num, ⟨_, HBT.out, by rw [HWS.out]; exact (show RdWv _ _ _ _ from HR5.out).mono (by omega)⟩, HBR.out, HBw.out⟩
    case measure => simp [intOf]; omega
  ·obtain rfl : n = k := by omega
   have HTF : Hid (l.take n = l) := List.take_of_length_le (by rw [HN.out]; exact Nat.le_refl _)
   rw [HTF.out] at HT
   obtain ⟨cz, HBT, hrd⟩ := HT.out
   obtain ⟨gqa, Aqa, kqa, cqa, gqb, Aqb, kqb, cqb, gqc, Aqc, kqc, cqc, gqd, Aqd, kqd, cqd, Aqe, kqe, cqe, gqf, Aqf, kqf, cqf, gqg, Aqg, kqg, cqg, gqh, Aqh, kqh, cqh, gqi, Aqi, kqi, cqi, Aqj, kqj, cqj, e, hrd⟩ := hrd.open
   injection e with e
   subst e
   replace HBT := h0d HBT
   have HX1 := h0d (hrd.mono (show 18 * n + 1 ≤ 300 by omega))
   clear hrd HT HTF HNE HLT
   have HNE_R_T : Hid (w.heap.size ≠ w.heap.size + 1) := by show _ ≠ _; omega
   have HLE_R : Hid (w.heap.size ≤ w.heap.size) := Nat.le_refl _
   have hL1 := blk_all HBT.out
   have t2h : Hid (wr.there (w.heap.size) 0 18) := blk_there HBR.out (Nat.le_of_ble_eq_true rfl)
   obtain ⟨W3, HW3⟩ : ∃ W, Hid (W = wr.setCells (w.heap.size) 0 [.bool gqa, .slice Aqa kqa cqa, .bool gqb, .slice Aqb kqb cqb, .bool gqc, .slice Aqc kqc cqc, .bool gqd, .slice Aqd kqd cqd, .slice Aqe kqe cqe, .bool gqf, .slice Aqf kqf cqf, .bool gqg, .slice Aqg kqg cqg, .bool gqh, .slice Aqh kqh cqh, .bool gqi, .slice Aqi kqi cqi, .slice Aqj kqj cqj]) := ⟨_, rfl⟩
   have TW3 := kN (kM HW3) HBR rfl rfl
   replace HBR := kP (ds := [.bool gqa, .slice Aqa kqa cqa, .bool gqb, .slice Aqb kqb cqb, .bool gqc, .slice Aqc kqc cqc, .bool gqd, .slice Aqd kqd cqd, .slice Aqe kqe cqe, .bool gqf, .slice Aqf kqf cqf, .bool gqg, .slice Aqg kqg cqg, .bool gqh, .slice Aqh kqh cqh, .bool gqi, .slice Aqi kqi cqi, .slice Aqj kqj cqj]) (kM HW3) HBR rfl rfl
   have s3w := kZ (kM HW3)
   go_wp2_with (first | (refine wpList_load_mid (by rfl) 88 _ (by rfl) (w.heap.size + 1) 0 (by rfl) _ _ (by exact hL1) Tryz.underlying88 rfl (by kernel_rfl) ?_) | (refine wpList_store_mid (by rfl) 88 _ _ (by rfl) (w.heap.size) 0 _ (by rfl) (by rfl) (by exact t2h.out) (by kernel_rfl) (by kernel_rfl) ?_))
   rw [← HW3.out]
   clear hL1 t2h
   replace HX1 := kW TW3 HX1
   replace HBw := kS (kM HW3) HLE_R HBw
   exact bodyPost_ret (results_cell rfl (by rfl) (blk_all HBR.out) Tryz.underlying88 rfl (by kernel_rfl)) rfl ⟨⟨_, rfl, HX1.out⟩, HBw.out⟩
end Go.Proofs.YtodckaioeomccaaGreat
