/- The walk of Impulses, where the pitches are right. -/
import Derived.Test.YtodckaioeomccaaGreatPart30
import Derived.Test.YtodckaioeomccaaGreatPart02
import Derived.Test.YtodckaioeomccaaGreatPart14
import Derived.Test.YtodckaioeomccaaGreatPart31
namespace Go.Proofs.YtodckaioeomccaaGreat
open Go.RowKit Go.Proofs.S4P Go.Proofs.ImpP
set_option linter.unusedVariables false
set_option linter.unusedSimpArgs false
set_option maxRecDepth 100000
set_option maxHeartbeats 4000000
def TotIs (w : World) (b : Nat) (x : W4) (K : Nat) : Prop := ∃ cs, w.heap[b]? = some (.cells cs 88 (0, 0)) ∧ RdWv w (.agg cs) x K
theorem keep_setsW {S : Nat → Prop} {a : World} {b : Nat} (hb : ¬ S b) : ∀ (vs : List Value) (o : Nat) (w : World), Keep S a w → Keep S a (setsW w b o vs)
 | [], _, _, h => h
 | v :: vs, o, w, h => keep_setsW hb vs (o + 1) _ (h.setCell (p := ⟨b, o, none⟩) hb v)
theorem keep_sets {S : Nat → Prop} {a w W : World} {b o : Nat} {vs : List Value} (h : Keep S a w) (hS : W = setsW w b o vs) (hb : ¬ S b) : Keep S a W := by
 rw [hS]; exact keep_setsW hb vs o w h
theorem pitch_parts {l : List Int} (hp : pitchE l = 0) : (1 ≤ l.length ∧ l.length ≤ 12) ∧ SmallP l := by
 unfold pitchE at hp
 split at hp
 ·simp at hp
 ·split at hp
  ·rename_i h1 h2
   exact ⟨by omega, h2⟩
  ·simp at hp
theorem impulses_ok (v : Value) (l : List Int) (o : Int) (w : World) (h : RdL w v l) (hp : pitchE l = 0) (hs : l.sum = 24) (ho : 0 ≤ o ∧ o ≤ 12) :
  Calls Tryz.prog 43 #[v, .int .i64 o] w fun e w' => (∃ v', e = .returned (.tuple #[v', .int .i64 0]) ∧ RdWv w' v' (wsum o 0 l) 60) ∧ Below w.heap.size w w' := by
 obtain ⟨hl0, hsm⟩ := pitch_parts hp
 obtain ⟨W1, HW1, HBR, s1w, b1⟩ := st_al0 w #[.bool false, .slice none 0 0, .bool false, .slice none 0 0, .bool false, .slice none 0 0, .bool false, .slice none 0 0, .slice none 0 0, .bool false, .slice none 0 0, .bool false, .slice none 0 0, .bool false, .slice none 0 0, .bool false, .slice none 0 0, .slice none 0 0] 88
 obtain ⟨W2, HW2, HBT, s2w, b2⟩ := st_alk 1 2 #[.bool false, .slice none 0 0, .bool false, .slice none 0 0, .bool false, .slice none 0 0, .bool false, .slice none 0 0, .slice none 0 0, .bool false, .slice none 0 0, .bool false, .slice none 0 0, .bool false, .slice none 0 0, .bool false, .slice none 0 0, .slice none 0 0] 88 s1w rfl
 have HB2 := kU (h0d b1) b2
 have HBR2 := kB HBR b2
 have h2 := h.below HB2.out
 have HP1 := h0d (pitched_any v l W2 h2)
 rw [hp] at HP1
 have HSS := h0d (fun w' (hw : Below W2.heap.size W2 w') => starts_any v l w' (h2.below hw) hl0.2 hsm)
 rw [hs] at HSS
 have HSB := h0d (sum_small hsm hl0.2)
 obtain ⟨A, cap, rfl, -⟩ := h.at_
 have HL := h0d hl0.2
 have hb1 : ¬ o < 0 := by omega
 have hb2 : ¬ 12 < o := by omega
 have HO := h0d ho
 clear h h2 hp hs hsm hl0 HBR b1 b2 ho
 go_enter Tryz.func43, Tryz.ntmps43
 go_wp2_with fail
 rw [← HW1.out, ← HW2.out]
 refine HP1.out.mono ?_
 rintro e w1 ⟨rfl, hbx⟩
 have HSC := h0d (HSS.out w1 hbx)
 have HB3 := kU HB2 hbx
 have HBR3 := kB HBR2 hbx
 have HBT3 := kB HBT hbx
 clear hbx HP1 HSS HB2 HBR2 HBT
 go_wp2_with fail
 refine HSC.out.mono ?_
 rintro e w2 ⟨⟨sv, rfl, hso⟩, hbx⟩
 have HAT := h0d hso.rd
 obtain ⟨As, cs, rfl⟩ := hso.slice
 have HBS : Hid (∀ k, (Value.slice As (startsL l).length cs).ownBlock = some k → w.heap.size + 2 ≤ k) := fun k hk => by
  have := (World.ownsRow.lt hso k hk).1; have := blk_lt HBT3.out; omega
 have HB4 := kU HB3 hbx
 have HBR4 := kB HBR3 hbx
 have HBT4 := kB HBT3 hbx
 clear hbx hso HSC HB3 HBR3 HBT3 HW1 HW2 s1w s2w
 obtain ⟨n, hn⟩ : ∃ n, n = l.length := ⟨_, rfl⟩
 have hsl : (startsL l).length = n := by rw [hn]; unfold startsL; simp
 rw [hsl]
 have HN := h0d hn
 have hn12 : n ≤ 12 := by rw [hn]; exact HL.out
 have HCC : Hid (∀ k, k < n → ∃ b off, As = some ⟨b, off, none⟩ ∧ w.heap.size + 2 ≤ b ∧ b < w2.heap.size ∧ w2.cell? ⟨b, off + k, none⟩ = some (.int .i64 (l.take k).sum)) := fun k hk => by
  obtain ⟨A', cap', e', h1, h2, h3, h4⟩ := HAT.out.at_
  obtain ⟨b, off, e1, e2, e4⟩ := h4 k (by rw [hsl]; exact hk)
  have e5 : atL (startsL l) k = (l.take k).sum := atL_of (by unfold startsL; rw [List.getElem?_map, List.getElem?_range (by omega)]; rfl)
  rw [e5] at e4
  injection e' with e6
  subst e1
  exact ⟨b, off, e6, HBS.out b (by rw [e6]; rfl), e2, e4⟩
 have HT0 : Hid (TotIs w2 (w.heap.size + 1) (wsum o 0 (l.take 0)) 1) := ⟨_, HBT4.out, rdWv_zero _ (Nat.le_refl _)⟩
 obtain ⟨w3, hw3⟩ : ∃ w3 : World, w3 = w2 := ⟨_, rfl⟩
 have HK0 : Hid (Keep (fun q => q < w3.heap.size ∧ q ≠ w.heap.size + 1) w3 w3) := Keep.refl _ _
 rw [← hw3] at HB4 HBR4 HT0 HCC ⊢
 clear hw3 hsl hn HAT HBS HBT4 HL
 go_wp2_with fail
 go_loopw [37] (fun iv wr => ∃ (k : Nat), k ≤ n ∧ iv = .int .i64 (k : Int) ∧ Hid (TotIs wr (w.heap.size + 1) (wsum o 0 (l.take k)) (4 * k + 1)) ∧ Hid (Keep (fun q => q < w3.heap.size ∧ q ≠ w.heap.size + 1) w3 wr) ∧ Hid (Below w.heap.size w wr)) (fun iv _ => n - (intOf iv).toNat)
 case atStart => exact ⟨0, Nat.zero_le _, rfl, HT0.out, HK0.out, HB4.out⟩
 case round =>
  clear HT0 HK0
  obtain ⟨k, hk, rfl, HT, HKP, HBw⟩ := hrel
  by_cases hlt : k < n
  ·obtain ⟨b, off, rfl, hb1, hb2, hcx⟩ := HCC.out k hlt
   have c0 : wr.cell? ⟨b, off + k, none⟩ = some (.int .i64 (l.take k).sum) := (HKP.out.cell (p := ⟨b, off + k, none⟩) ⟨hb2, by show b ≠ _; omega⟩).trans hcx
   have HYS := HSB.out k
   have HWS : Hid (wsum o 0 (l.take (k + 1)) = (wsum o 0 (l.take k)).add (turn (o * (l.take k).sum))) := wsum_take o (by rw [← HN.out]; exact hlt)
   obtain ⟨y, hy⟩ : ∃ y, y = (l.take k).sum := ⟨_, rfl⟩
   obtain ⟨X, hX⟩ : ∃ X, X = wsum o 0 (l.take k) := ⟨_, rfl⟩
   rw [← hy] at c0 HYS HWS
   rw [← hX] at HWS HT
   obtain ⟨cz, HBT, hrd⟩ := HT.out
   obtain ⟨gqa, Aqa, kqa, cqa, gqb, Aqb, kqb, cqb, gqc, Aqc, kqc, cqc, gqd, Aqd, kqd, cqd, Aqe, kqe, cqe, gqf, Aqf, kqf, cqf, gqg, Aqg, kqg, cqg, gqh, Aqh, kqh, cqh, gqi, Aqi, kqi, cqi, Aqj, kqj, cqj, e, hrd⟩ := hrd.open
   injection e with e
   subst e
   replace HBT := h0d HBT
   have HX1 := h0d hrd
   have hoy : -14400 ≤ o * y ∧ o * y ≤ 14400 := by
    have h1 := Int.mul_nonneg HO.out.1 HYS.1
    have h2 := Int.mul_le_mul HO.out.2 HYS.2 HYS.1 (by omega)
    omega
   have hw1 : IntKind.i64.wrap (o * y) = o * y := IntWalk.i64_in _ (by omega)
   have HOY := h0d hoy
   have HLT1 : Hid (w.heap.size ≤ w.heap.size + 1) := Nat.le_add_right _ _
   have HLE_T := HLT1
   clear hcx hb1 hb2 hy hX hrd hoy HT HYS HLT1
   go_wp2_with fail
   obtain ⟨W1, hW1⟩ : ∃ W, W = wr.drew := ⟨_, rfl⟩
   have j1 : Below wr.heap.size wr W1 := by rw [hW1]; exact (Below.refl _ _).drew
   refine seq_start (S := fun w' => True) (by kernel_rfl) (by kernel_rfl) trivial ?_
   rw [← hW1]
   clear hW1
   iterate 3 (refine plq 1 (h := ?_); refine tk0 (h := ?_))
   refine plq 1 (h := ?_)
   refine plq 1 (h := ?_)
   refine seq_both ?_ ?_ ?_ ?_ ?_
   ·kernel_rfl
   ·rfl
   ·rfl
   ·intro K9 hK9
    replace HBT := kB HBT j1
    refine wp_load_mid 88 _ (by rfl) (w.heap.size + 1) 0 (by rfl) _ _ (blk_all HBT.out) Tryz.underlying88 rfl (by kernel_rfl) ?_
    refine ckk hK9 (by exact trivial) (h := ?_)
    clear hK9 K9
    refine sop (h := fun K9 hK9 => ?_)
    go_simp
    refine (turn_any (o * y) _ (by have := HOY.out; omega) (by have := HOY.out; omega)).mono ?_
    rintro e w1 ⟨⟨vx, rfl, hr⟩, j1c⟩
    obtain ⟨g1a, A1a, k1a, c1a, g1b, A1b, k1b, c1b, g1c, A1c, k1c, c1c, g1d, A1d, k1d, c1d, A1e, k1e, c1e, g1f, A1f, k1f, c1f, g1g, A1g, k1g, c1g, g1h, A1h, k1h, c1h, g1i, A1i, k1i, c1i, A1j, k1j, c1j, rfl, hr⟩ := hr.open
    have HR1 := h0d hr
    clear hr
    refine ckk hK9 (by exact trivial) (h := ?_)
    clear hK9 K9
    refine sop (h := fun K9 hK9 => ?_)
    go_simp
    replace HX1 := kV j1c (kV j1 HX1)
    refine (wadd_any _ _ X (turn (o * y)) (4 * k + 1) 3 _ HX1.out HR1.out (by omega) (by omega)).mono ?_
    rintro e w2 ⟨⟨vx, rfl, hr⟩, j2c⟩
    obtain ⟨g2a, A2a, k2a, c2a, g2b, A2b, k2b, c2b, g2c, A2c, k2c, c2c, g2d, A2d, k2d, c2d, A2e, k2e, c2e, g2f, A2f, k2f, c2f, g2g, A2g, k2g, c2g, g2h, A2h, k2h, c2h, g2i, A2i, k2i, c2i, A2j, k2j, c2j, rfl, hr⟩ := hr.open
    have HR2 := h0d hr
    clear hr
    refine ckk hK9 (by exact trivial) (h := ?_)
    clear hK9 K9
    refine sop (h := fun K9 hK9 => ?_)
    replace HBT := kB (kB HBT j1c) j2c
    have t2h : Hid (w2.there (w.heap.size + 1) 0 18) := blk_there HBT.out (Nat.le_of_ble_eq_true rfl)
    refine wp_store_mid 88 _ _ (by rfl) (w.heap.size + 1) 0 _ (by rfl) (by rfl) (by exact t2h.out) (by kernel_rfl) (by kernel_rfl) ?_
    obtain ⟨W3, HW3⟩ : ∃ W, Hid (W = w2.setCells (w.heap.size + 1) 0 [.bool g2a, .slice A2a k2a c2a, .bool g2b, .slice A2b k2b c2b, .bool g2c, .slice A2c k2c c2c, .bool g2d, .slice A2d k2d c2d, .slice A2e k2e c2e, .bool g2f, .slice A2f k2f c2f, .bool g2g, .slice A2g k2g c2g, .bool g2h, .slice A2h k2h c2h, .bool g2i, .slice A2i k2i c2i, .slice A2j k2j c2j]) := ⟨_, rfl⟩
    have TW3 := kN (kM HW3) HBT rfl rfl
    replace HBT := kP (ds := [.bool g2a, .slice A2a k2a c2a, .bool g2b, .slice A2b k2b c2b, .bool g2c, .slice A2c k2c c2c, .bool g2d, .slice A2d k2d c2d, .slice A2e k2e c2e, .bool g2f, .slice A2f k2f c2f, .bool g2g, .slice A2g k2g c2g, .bool g2h, .slice A2h k2h c2h, .bool g2i, .slice A2i k2i c2i, .slice A2j k2j c2j]) (kM HW3) HBT rfl rfl
    rw [← HW3.out]
    refine ckk hK9 (by exact trivial) (h := ?_)
    clear hK9 K9 t2h
    refine seq_done (by kernel_rfl) ?_
    go_wp2_with fail
    replace HBw := kS (kM HW3) HLE_T (kU (kU (kU HBw j1) j1c) j2c)
    replace HR2 := kW TW3 HR2
    have HK4 : Hid (Keep (fun q => q < w3.heap.size ∧ q ≠ w.heap.size + 1) w3 W3) := keep_sets ((HKP.out).trans ((Keep.of_below (kU (kU (h0d j1) j1c) j2c).out).mono fun q hq => Nat.lt_of_lt_of_le hq.1 HKP.out.size)) (kM HW3) (fun e => e.2 rfl)
    go_roundw
    case rel => exact ⟨k + 1, by omega, by go_num, ⟨_, HBT.out, by rw [HWS.out]; exact (show RdWv _ _ _ _ from HR2.out).mono (by omega)⟩, HK4.out, HBw.out⟩
    case measure => simp [intOf]; omega
   ·intro K9 hK9
    go_simp
    refine (turn_any (o * y) _ (by have := HOY.out; omega) (by have := HOY.out; omega)).mono ?_
    rintro e w1 ⟨⟨vx, rfl, hr⟩, j1c⟩
    obtain ⟨g1a, A1a, k1a, c1a, g1b, A1b, k1b, c1b, g1c, A1c, k1c, c1c, g1d, A1d, k1d, c1d, A1e, k1e, c1e, g1f, A1f, k1f, c1f, g1g, A1g, k1g, c1g, g1h, A1h, k1h, c1h, g1i, A1i, k1i, c1i, A1j, k1j, c1j, rfl, hr⟩ := hr.open
    have HR1 := h0d hr
    clear hr
    refine ckk hK9 (by exact trivial) (h := ?_)
    clear hK9 K9
    refine sop (h := fun K9 hK9 => ?_)
    replace HBT := kB (kB HBT j1) j1c
    refine wp_load_mid 88 _ (by rfl) (w.heap.size + 1) 0 (by rfl) _ _ (blk_all HBT.out) Tryz.underlying88 rfl (by kernel_rfl) ?_
    refine ckk hK9 (by exact trivial) (h := ?_)
    clear hK9 K9
    refine sop (h := fun K9 hK9 => ?_)
    go_simp
    replace HX1 := kV j1c (kV j1 HX1)
    refine (wadd_any _ _ X (turn (o * y)) (4 * k + 1) 3 _ HX1.out HR1.out (by omega) (by omega)).mono ?_
    rintro e w2 ⟨⟨vx, rfl, hr⟩, j2c⟩
    obtain ⟨g2a, A2a, k2a, c2a, g2b, A2b, k2b, c2b, g2c, A2c, k2c, c2c, g2d, A2d, k2d, c2d, A2e, k2e, c2e, g2f, A2f, k2f, c2f, g2g, A2g, k2g, c2g, g2h, A2h, k2h, c2h, g2i, A2i, k2i, c2i, A2j, k2j, c2j, rfl, hr⟩ := hr.open
    have HR2 := h0d hr
    clear hr
    refine ckk hK9 (by exact trivial) (h := ?_)
    clear hK9 K9
    refine sop (h := fun K9 hK9 => ?_)
    replace HBT := kB HBT j2c
    have t2h : Hid (w2.there (w.heap.size + 1) 0 18) := blk_there HBT.out (Nat.le_of_ble_eq_true rfl)
    refine wp_store_mid 88 _ _ (by rfl) (w.heap.size + 1) 0 _ (by rfl) (by rfl) (by exact t2h.out) (by kernel_rfl) (by kernel_rfl) ?_
    obtain ⟨W3, HW3⟩ : ∃ W, Hid (W = w2.setCells (w.heap.size + 1) 0 [.bool g2a, .slice A2a k2a c2a, .bool g2b, .slice A2b k2b c2b, .bool g2c, .slice A2c k2c c2c, .bool g2d, .slice A2d k2d c2d, .slice A2e k2e c2e, .bool g2f, .slice A2f k2f c2f, .bool g2g, .slice A2g k2g c2g, .bool g2h, .slice A2h k2h c2h, .bool g2i, .slice A2i k2i c2i, .slice A2j k2j c2j]) := ⟨_, rfl⟩
    have TW3 := kN (kM HW3) HBT rfl rfl
    replace HBT := kP (ds := [.bool g2a, .slice A2a k2a c2a, .bool g2b, .slice A2b k2b c2b, .bool g2c, .slice A2c k2c c2c, .bool g2d, .slice A2d k2d c2d, .slice A2e k2e c2e, .bool g2f, .slice A2f k2f c2f, .bool g2g, .slice A2g k2g c2g, .bool g2h, .slice A2h k2h c2h, .bool g2i, .slice A2i k2i c2i, .slice A2j k2j c2j]) (kM HW3) HBT rfl rfl
    rw [← HW3.out]
    refine ckk hK9 (by exact trivial) (h := ?_)
    clear hK9 K9 t2h
    refine seq_done (by kernel_rfl) ?_
    go_wp2_with fail
    replace HBw := kS (kM HW3) HLE_T (kU (kU (kU HBw j1) j1c) j2c)
    replace HR2 := kW TW3 HR2
    have HK4 : Hid (Keep (fun q => q < w3.heap.size ∧ q ≠ w.heap.size + 1) w3 W3) := keep_sets ((HKP.out).trans ((Keep.of_below (kU (kU (h0d j1) j1c) j2c).out).mono fun q hq => Nat.lt_of_lt_of_le hq.1 HKP.out.size)) (kM HW3) (fun e => e.2 rfl)
    go_roundw
    case rel => exact ⟨k + 1, by omega, by go_num, ⟨_, HBT.out, by rw [HWS.out]; exact (show RdWv _ _ _ _ from HR2.out).mono (by omega)⟩, HK4.out, HBw.out⟩
    case measure => simp [intOf]; omega
  ·obtain rfl : n = k := by omega
   have HTF : Hid (l.take n = l) := List.take_of_length_le (by rw [HN.out]; exact Nat.le_refl _)
   rw [HTF.out] at HT
   obtain ⟨cz, HBT, hrd⟩ := HT.out
   obtain ⟨gqa, Aqa, kqa, cqa, gqb, Aqb, kqb, cqb, gqc, Aqc, kqc, cqc, gqd, Aqd, kqd, cqd, Aqe, kqe, cqe, gqf, Aqf, kqf, cqf, gqg, Aqg, kqg, cqg, gqh, Aqh, kqh, cqh, gqi, Aqi, kqi, cqi, Aqj, kqj, cqj, e, hrd⟩ := hrd.open
   injection e with e
   subst e
   replace HBT := h0d HBT
   have HX1 := h0d (hrd.mono (show 4 * n + 1 ≤ 60 by omega))
   have HBR : Hid (wr.heap[w.heap.size]? = some (.cells #[.bool false, .slice none 0 0, .bool false, .slice none 0 0, .bool false, .slice none 0 0, .bool false, .slice none 0 0, .slice none 0 0, .bool false, .slice none 0 0, .bool false, .slice none 0 0, .bool false, .slice none 0 0, .bool false, .slice none 0 0, .slice none 0 0] 88 (0, 0))) := (HKP.out.block _ ⟨blk_lt HBR4.out, by omega⟩).trans HBR4.out
   clear hrd HT HTF
   have HNE_R_T : Hid (w.heap.size ≠ w.heap.size + 1) := by show _ ≠ _; omega
   have HLE_R : Hid (w.heap.size ≤ w.heap.size) := Nat.le_refl _
   have hL1 := blk_all HBT.out
   have t2h : Hid (wr.there (w.heap.size) 0 18) := blk_there HBR.out (Nat.le_of_ble_eq_true rfl)
   obtain ⟨W3, HW3⟩ : ∃ W, Hid (W = wr.setCells (w.heap.size) 0 [.bool gqa, .slice Aqa kqa cqa, .bool gqb, .slice Aqb kqb cqb, .bool gqc, .slice Aqc kqc cqc, .bool gqd, .slice Aqd kqd cqd, .slice Aqe kqe cqe, .bool gqf, .slice Aqf kqf cqf, .bool gqg, .slice Aqg kqg cqg, .bool gqh, .slice Aqh kqh cqh, .bool gqi, .slice Aqi kqi cqi, .slice Aqj kqj cqj]) := ⟨_, rfl⟩
   have TW3 := kN (kM HW3) HBR rfl rfl
   replace HBR := kP (ds := [.bool gqa, .slice Aqa kqa cqa, .bool gqb, .slice Aqb kqb cqb, .bool gqc, .slice Aqc kqc cqc, .bool gqd, .slice Aqd kqd cqd, .slice Aqe kqe cqe, .bool gqf, .slice Aqf kqf cqf, .bool gqg, .slice Aqg kqg cqg, .bool gqh, .slice Aqh kqh cqh, .bool gqi, .slice Aqi kqi cqi, .slice Aqj kqj cqj]) (kM HW3) HBR rfl rfl
   have s3w := kZ (kM HW3)
   go_wp2_with (first | (refine wpList_load_mid (by rfl) 88 _ (by rfl) (w.heap.size + 1) 0 (by rfl) _ _ (by exact hL1) Tryz.underlying88 rfl (by kernel_rfl) ?_) | (refine wpList_store_mid (by rfl) 88 _ _ (by rfl) (w.heap.size) 0 _ (by rfl) (by rfl) (by exact t2h.out) (by kernel_rfl) (by kernel_rfl) ?_))
   rw [← HW3.out]
   clear hL1 t2h
   replace HX1 := kW TW3 HX1
   replace HBw := kS (kM HW3) HLE_R HBw
   exact bodyPost_ret (results_cell_tmp rfl (by rfl) (blk_all HBR.out) Tryz.underlying88 rfl (by kernel_rfl)) rfl ⟨⟨_, rfl, HX1.out⟩, HBw.out⟩
end Go.Proofs.YtodckaioeomccaaGreat
