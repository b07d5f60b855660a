/- The walk of Sign's closure. The walks of Sign and Cmp. -/
import Derived.Test.YtodckaioeomccaaGreatPart36
import Derived.Test.YtodckaioeomccaaGreatPart28
namespace Go.Proofs.YtodckaioeomccaaGreat
open Go.RowKit Go.Proofs.S4P Go.Proofs.TurP
set_option linter.unusedVariables false
set_option linter.unusedSimpArgs false
set_option maxRecDepth 100000
set_option maxHeartbeats 4000000
def IntAt (w : World) (g : Nat) (z : Int) : Prop := ∃ cs, w.heap[g]? = some (.cells cs 27 (0, 0)) ∧ RdZ w (.agg cs) z
theorem IntAt.below {w w' : World} {g : Nat} {z : Int} (h : IntAt w g z) (hb : Below w.heap.size w w') : IntAt w' g z := by
 obtain ⟨cs, h1, h2⟩ := h
 exact ⟨cs, blk_below h1 hb, h2.wd (Wd.of_below hb)⟩
theorem enters_sgn1 : ∀ args w, (callFunc 218 args).run Tryz.prog w = .ok (.enter 218 args) w := enters_of Tryz.func218 (by kernel_rfl) rfl
section
variable {P : Program} {ops : Array Oper} {Q : Exit → Act → World → Prop} {S : World → Prop}
theorem ckI {rest : List (Nat × Oper)} {a b : Act} {wa W : World} {K : Act → World → Prop} {o : Obj} (hK : Shut (∀ a w, S w → Seq P ops Q S rest a w → K a w)) (hG : Hid (Below wa.heap.size wa W)) (hS : ∀ W', Below wa.heap.size wa W' → S W')
  (hb : a = b := by first | (simp only [Act.put, List.setIfInBounds_toArray, List.set_cons_zero, List.set_cons_succ]; rfl) | rfl)
  (h : ∀ W', Below W.heap.size W W' → W.heap.size < W'.heap.size → Hid (W'.heap[W.heap.size]? = some o) → Hid (Below wa.heap.size wa W') → Seq P ops Q S rest b W') : K a (W.alloc o) := by
 subst hb
 have hj : Below W.heap.size W (W.alloc o) := (Below.refl _ W).alloc (Nat.le_refl _) o
 have h1 := hG.out.trans (hj.mono hG.out.size)
 exact hK.out a _ (hS _ h1) (h _ hj (by simp) (heap_alloc_new W _) h1)
theorem seqA {p q : Nat × Oper} {rest : List (Nat × Oper)} {a : Act} {w : World} (t : TypeId) (ha : p.2.op = .alloc t) (hok : okTwo ops p q rest = true) (hp : Region.wanted p.2 (yielded ops a.tmps) = true) (hq : Region.wanted q.2 (yielded ops a.tmps) = true)
  (h1 : StepTo P ops Q S p.2 (q :: rest) a w) (h2 : StepTo P ops Q S q.2 (p :: rest) a w) : Seq P ops Q S (p :: q :: rest) a w := seq_both hok hp hq h1 h2
theorem sopA {i : Nat} {o : Oper} {rest : List (Nat × Oper)} {a : Act} {w : World} (t : TypeId) (ha : o.op = .alloc t) (hok : okOnly ops (i, o) rest = true := by kernel_rfl) (hw : Region.wanted o (yielded ops a.tmps) = true := by rfl)
  (h : ∀ K : Act → World → Prop, Shut (∀ a w, S w → Seq P ops Q S rest a w → K a w) → Oper.wp P o a w K Q) : Seq P ops Q S ((i, o) :: rest) a w := seq_op hok hw h
end
theorem set_of {W : World} {g : Nat} {o : Obj} (h : Hid (W.heap[g]? = some o)) (vs : List Value) : ∃ V, Hid (V = W.setCells g 0 vs) := ⟨_, rfl⟩
def sgP (a b c d : Int) : Int := a * a + b * b * 2 + -((c * c + d * d * 2) * 3)
def sgQ (a b c d : Int) : Int := (a * b + -(c * d * 3)) * 2
theorem sgn1_any {b1 b2 b3 b4 : Nat} {g0 g1 g2 g3 : Bool} {s0 s1 s2 s3 : Value} (a b c d : Int) (K : Nat) (w : World) (h1 : w.heap[b1]? = some (.cells #[.bool g0, s0] 27 (0, 0))) (h2 : w.heap[b2]? = some (.cells #[.bool g1, s1] 27 (0, 0))) (h3 : w.heap[b3]? = some (.cells #[.bool g2, s2] 27 (0, 0))) (h4 : w.heap[b4]? = some (.cells #[.bool g3, s3] 27 (0, 0))) (hz0 : RdZ w (.agg #[.bool g0, s0]) a) (hz1 : RdZ w (.agg #[.bool g1, s1]) b) (hz2 : RdZ w (.agg #[.bool g2, s2]) c) (hz3 : RdZ w (.agg #[.bool g3, s3]) d) (hka : dl a.natAbs ≤ K) (hkb : dl b.natAbs ≤ K) (hkc : dl c.natAbs ≤ K) (hkd : dl d.natAbs ≤ K) (hK : K ≤ 50000) :
  Calls Tryz.prog 218 #[.pointer (some ⟨b1, 0, none⟩), .pointer (some ⟨b2, 0, none⟩), .pointer (some ⟨b3, 0, none⟩), .pointer (some ⟨b4, 0, none⟩)] w fun e w' => e = .returned (.int .i64 (sgnI2 (sgP a b c d) (sgQ a b c d))) ∧ Below w.heap.size w w' := by
 obtain ⟨A0, k0, c0, rfl⟩ := hz0.shape
 obtain ⟨A1, k1, c1, rfl⟩ := hz1.shape
 obtain ⟨A2, k2, c2, rfl⟩ := hz2.shape
 obtain ⟨A3, k3, c3, rfl⟩ := hz3.shape
 have HX0 := h0d hz0
 have HP0 := h0d h1
 have HKa := h0d hka
 have HX1 := h0d hz1
 have HP1 := h0d h2
 have HKb := h0d hkb
 have HX2 := h0d hz2
 have HP2 := h0d h3
 have HKc := h0d hkc
 have HX3 := h0d hz3
 have HP3 := h0d h4
 have HKd := h0d hkd
 have HS1 : Hid (dl (a * a).natAbs ≤ K + K) := dl_mul2 hka hka
 have HS2 : Hid (dl (b * b).natAbs ≤ K + K) := dl_mul2 hkb hkb
 have HS3 : Hid (dl (b * b * 2).natAbs ≤ K + K + 1) := dl_f2 HS2.out
 have HS4 : Hid (dl (a * a + b * b * 2).natAbs ≤ K + K + 1 + 1) := dl_add2 (Nat.le_succ_of_le HS1.out) HS3.out
 have HS5 : Hid (dl (c * c).natAbs ≤ K + K) := dl_mul2 hkc hkc
 have HS6 : Hid (dl (d * d).natAbs ≤ K + K) := dl_mul2 hkd hkd
 have HS7 : Hid (dl (d * d * 2).natAbs ≤ K + K + 1) := dl_f2 HS6.out
 have HS8 : Hid (dl (c * c + d * d * 2).natAbs ≤ K + K + 1 + 1) := dl_add2 (Nat.le_succ_of_le HS5.out) HS7.out
 have HS9 : Hid (dl ((c * c + d * d * 2) * 3).natAbs ≤ K + K + 1 + 1 + 1) := dl_f3 HS8.out
 have HS10 : Hid (dl (-((c * c + d * d * 2) * 3)).natAbs ≤ K + K + 1 + 1 + 1) := by show _ ≤ _; rw [Int.natAbs_neg]; exact HS9.out
 have HS11 : Hid (dl (sgP a b c d).natAbs ≤ K + K + 1 + 1 + 1 + 1) := dl_add2 (Nat.le_succ_of_le HS4.out) HS10.out
 have HQ1 : Hid (dl (a * b).natAbs ≤ K + K) := dl_mul2 hka hkb
 have HQ2 : Hid (dl (c * d).natAbs ≤ K + K) := dl_mul2 hkc hkd
 have HQ4 : Hid (dl (-(c * d * 3)).natAbs ≤ K + K + 1) := by show _ ≤ _; rw [Int.natAbs_neg]; exact dl_f3 HQ2.out
 have HQ5 : Hid (dl (a * b + -(c * d * 3)).natAbs ≤ K + K + 1 + 1) := dl_add2 (Nat.le_succ_of_le HQ1.out) HQ4.out
 have HQ6 : Hid (dl (sgQ a b c d).natAbs ≤ K + K + 1 + 1 + 1) := dl_f2 HQ5.out
 clear hz0 hz1 hz2 hz3 h1 h2 h3 h4 hka hkb hkc hkd
 go_enter Tryz.func218, Tryz.ntmps218
 go_wp2_with fail
 go_cut [5] (fun v wx => ∃ g5, v = .pointer (some ⟨g5, 0, none⟩) ∧ Hid (IntAt wx g5 (sgP a b c d)) ∧ Hid (Below w.heap.size w wx))
 case first =>
  obtain ⟨w0, hw0⟩ : ∃ W, W = w.drew := ⟨_, rfl⟩
  have HG : Hid (Below w.heap.size w w0) := by show Below _ _ _; rw [hw0]; exact (Below.refl _ _).drew
  have HS : Hid (∀ w', Below w.heap.size w w' → w'.cell? ⟨b1, 0, none⟩ = some (.bool g0) ∧ w'.cell? ⟨b1, 1, none⟩ = some (.slice A0 k0 c0) ∧ w'.cell? ⟨b2, 0, none⟩ = some (.bool g1) ∧ w'.cell? ⟨b2, 1, none⟩ = some (.slice A1 k1 c1) ∧ w'.cell? ⟨b3, 0, none⟩ = some (.bool g2) ∧ w'.cell? ⟨b3, 1, none⟩ = some (.slice A2 k2 c2) ∧ w'.cell? ⟨b4, 0, none⟩ = some (.bool g3) ∧ w'.cell? ⟨b4, 1, none⟩ = some (.slice A3 k3 c3)) := fun w' hb => ⟨kD (kB HP0 hb) 0, kD (kB HP0 hb) 1, kD (kB HP1 hb) 0, kD (kB HP1 hb) 1, kD (kB HP2 hb) 0, kD (kB HP2 hb) 1, kD (kB HP3 hb) 0, kD (kB HP3 hb) 1⟩
  go_wp2_with fail
  refine seq_start (S := fun w' => w'.cell? ⟨b1, 0, none⟩ = some (.bool g0) ∧ w'.cell? ⟨b1, 1, none⟩ = some (.slice A0 k0 c0) ∧ w'.cell? ⟨b2, 0, none⟩ = some (.bool g1) ∧ w'.cell? ⟨b2, 1, none⟩ = some (.slice A1 k1 c1) ∧ w'.cell? ⟨b3, 0, none⟩ = some (.bool g2) ∧ w'.cell? ⟨b3, 1, none⟩ = some (.slice A2 k2 c2) ∧ w'.cell? ⟨b4, 0, none⟩ = some (.bool g3) ∧ w'.cell? ⟨b4, 1, none⟩ = some (.slice A3 k3 c3)) (by kernel_rfl) (by kernel_rfl) (by rw [← hw0]; exact HS.out _ HG.out) ?_
  rw [← hw0]
  clear hw0
  iterate 2 refine tk0 (h := ?_)
  iterate 2 (refine plq 1 (h := ?_); refine tk0 (h := ?_))
  iterate 2 (refine plq 4 (h := ?_); refine tk0 (h := ?_))
  iterate 2 (refine plq 5 (h := ?_); refine tk0 (h := ?_))
  all_goals first | (refine plq 11 (h := ?_); refine seqA 27 rfl (by kernel_rfl) (by rfl) (by rfl) ?_ ?_; (focus (have HGO := h0d HG.out.size; intro K9 hK9; go_simp; refine ckI hK9 HG HS.out (h := fun V j hl HZ HG => ?_); clear hK9 K9 hl; obtain ⟨gz, hgz⟩ : ∃ g, g = w0.heap.size := ⟨_, rfl⟩; rw [← hgz] at HZ ⊢; have HLZ : Hid (w.heap.size ≤ gz) := (by show _ ≤ _; rw [hgz]; exact HGO.out); clear hgz HGO; clear j; refine sop (h := fun K9 hK9 => ?_))); rotate_left; (focus (intro K9 hK9))) | refine sop (h := fun K9 hK9 => ?_)
  all_goals
   go_simp
   refine (itimes_any _ _ a a _ (kV HG.out HX0).out (kV HG.out HX0).out (by have := HKa.out; omega) (by have := HKa.out; omega)).mono ?_
   rintro e w1 ⟨⟨vx, rfl, hr⟩, j⟩
   obtain ⟨g1a, A1a, k1a, c1a, rfl, hr⟩ := hr.open
   have HR1 := h0d hr
   replace HG := kU HG j
   try replace HZ := kB HZ j
   clear hr j
   refine ckk hK9 (by exact HS.out _ HG.out) (h := ?_)
   clear hK9 K9
  all_goals first | (refine seqA 27 rfl (by kernel_rfl) (by rfl) (by rfl) ?_ ?_; (focus (have HGO := h0d HG.out.size; intro K9 hK9; go_simp; refine ckI hK9 HG HS.out (h := fun V j hl HZ HG => ?_); clear hK9 K9 hl; obtain ⟨gz, hgz⟩ : ∃ g, g = w1.heap.size := ⟨_, rfl⟩; rw [← hgz] at HZ ⊢; have HLZ : Hid (w.heap.size ≤ gz) := (by show _ ≤ _; rw [hgz]; exact HGO.out); clear hgz HGO; replace HR1 := kV j HR1; clear j; refine sop (h := fun K9 hK9 => ?_))); rotate_left; (focus (intro K9 hK9))) | refine sop (h := fun K9 hK9 => ?_)
  all_goals
   go_simp
   refine (itimes_any _ _ b b _ (kV HG.out HX1).out (kV HG.out HX1).out (by have := HKb.out; omega) (by have := HKb.out; omega)).mono ?_
   rintro e w2 ⟨⟨vx, rfl, hr⟩, j⟩
   obtain ⟨g2a, A2a, k2a, c2a, rfl, hr⟩ := hr.open
   have HR2 := h0d hr
   replace HG := kU HG j
   replace HR1 := kV j HR1
   try replace HZ := kB HZ j
   clear hr j
   refine ckk hK9 (by exact HS.out _ HG.out) (h := ?_)
   clear hK9 K9
  all_goals first | (refine seqA 27 rfl (by kernel_rfl) (by rfl) (by rfl) ?_ ?_; (focus (have HGO := h0d HG.out.size; intro K9 hK9; go_simp; refine ckI hK9 HG HS.out (h := fun V j hl HZ HG => ?_); clear hK9 K9 hl; obtain ⟨gz, hgz⟩ : ∃ g, g = w2.heap.size := ⟨_, rfl⟩; rw [← hgz] at HZ ⊢; have HLZ : Hid (w.heap.size ≤ gz) := (by show _ ≤ _; rw [hgz]; exact HGO.out); clear hgz HGO; replace HR1 := kV j HR1; replace HR2 := kV j HR2; clear j; refine sop (h := fun K9 hK9 => ?_))); rotate_left; (focus (intro K9 hK9))) | refine sop (h := fun K9 hK9 => ?_)
  all_goals
   go_simp
   refine (ifold2 _ (b * b) _ HR2.out (by have := HS2.out; omega)).mono ?_
   rintro e w3 ⟨⟨vx, rfl, hr⟩, j⟩
   obtain ⟨g3a, A3a, k3a, c3a, rfl, hr⟩ := hr.open
   have HR3 := h0d hr
   replace HG := kU HG j
   replace HR1 := kV j HR1
   try replace HZ := kB HZ j
   clear hr j
   refine ckk hK9 (by exact HS.out _ HG.out) (h := ?_)
   clear hK9 K9
  all_goals first | (refine seqA 27 rfl (by kernel_rfl) (by rfl) (by rfl) ?_ ?_; (focus (have HGO := h0d HG.out.size; intro K9 hK9; go_simp; refine ckI hK9 HG HS.out (h := fun V j hl HZ HG => ?_); clear hK9 K9 hl; obtain ⟨gz, hgz⟩ : ∃ g, g = w3.heap.size := ⟨_, rfl⟩; rw [← hgz] at HZ ⊢; have HLZ : Hid (w.heap.size ≤ gz) := (by show _ ≤ _; rw [hgz]; exact HGO.out); clear hgz HGO; replace HR1 := kV j HR1; replace HR3 := kV j HR3; clear j; refine sop (h := fun K9 hK9 => ?_))); rotate_left; (focus (intro K9 hK9))) | refine sop (h := fun K9 hK9 => ?_)
  all_goals
   go_simp
   refine (iplus_any _ _ (a * a) (b * b * 2) _ HR1.out HR3.out (by have := HS1.out; omega) (by have := HS3.out; omega)).mono ?_
   rintro e w4 ⟨⟨vx, rfl, hr⟩, j⟩
   obtain ⟨g4a, A4a, k4a, c4a, rfl, hr⟩ := hr.open
   have HR4 := h0d hr
   replace HG := kU HG j
   try replace HZ := kB HZ j
   clear hr j
   refine ckk hK9 (by exact HS.out _ HG.out) (h := ?_)
   clear hK9 K9
  all_goals first | (refine seqA 27 rfl (by kernel_rfl) (by rfl) (by rfl) ?_ ?_; (focus (have HGO := h0d HG.out.size; intro K9 hK9; go_simp; refine ckI hK9 HG HS.out (h := fun V j hl HZ HG => ?_); clear hK9 K9 hl; obtain ⟨gz, hgz⟩ : ∃ g, g = w4.heap.size := ⟨_, rfl⟩; rw [← hgz] at HZ ⊢; have HLZ : Hid (w.heap.size ≤ gz) := (by show _ ≤ _; rw [hgz]; exact HGO.out); clear hgz HGO; replace HR4 := kV j HR4; clear j; refine sop (h := fun K9 hK9 => ?_))); rotate_left; (focus (intro K9 hK9))) | refine sop (h := fun K9 hK9 => ?_)
  all_goals
   go_simp
   refine (itimes_any _ _ c c _ (kV HG.out HX2).out (kV HG.out HX2).out (by have := HKc.out; omega) (by have := HKc.out; omega)).mono ?_
   rintro e w5 ⟨⟨vx, rfl, hr⟩, j⟩
   obtain ⟨g5a, A5a, k5a, c5a, rfl, hr⟩ := hr.open
   have HR5 := h0d hr
   replace HG := kU HG j
   replace HR4 := kV j HR4
   try replace HZ := kB HZ j
   clear hr j
   refine ckk hK9 (by exact HS.out _ HG.out) (h := ?_)
   clear hK9 K9
  all_goals first | (refine seqA 27 rfl (by kernel_rfl) (by rfl) (by rfl) ?_ ?_; (focus (have HGO := h0d HG.out.size; intro K9 hK9; go_simp; refine ckI hK9 HG HS.out (h := fun V j hl HZ HG => ?_); clear hK9 K9 hl; obtain ⟨gz, hgz⟩ : ∃ g, g = w5.heap.size := ⟨_, rfl⟩; rw [← hgz] at HZ ⊢; have HLZ : Hid (w.heap.size ≤ gz) := (by show _ ≤ _; rw [hgz]; exact HGO.out); clear hgz HGO; replace HR4 := kV j HR4; replace HR5 := kV j HR5; clear j; refine sop (h := fun K9 hK9 => ?_))); rotate_left; (focus (intro K9 hK9))) | refine sop (h := fun K9 hK9 => ?_)
  all_goals
   go_simp
   refine (itimes_any _ _ d d _ (kV HG.out HX3).out (kV HG.out HX3).out (by have := HKd.out; omega) (by have := HKd.out; omega)).mono ?_
   rintro e w6 ⟨⟨vx, rfl, hr⟩, j⟩
   obtain ⟨g6a, A6a, k6a, c6a, rfl, hr⟩ := hr.open
   have HR6 := h0d hr
   replace HG := kU HG j
   replace HR4 := kV j HR4
   replace HR5 := kV j HR5
   try replace HZ := kB HZ j
   clear hr j
   refine ckk hK9 (by exact HS.out _ HG.out) (h := ?_)
   clear hK9 K9
  all_goals first | (refine seqA 27 rfl (by kernel_rfl) (by rfl) (by rfl) ?_ ?_; (focus (have HGO := h0d HG.out.size; intro K9 hK9; go_simp; refine ckI hK9 HG HS.out (h := fun V j hl HZ HG => ?_); clear hK9 K9 hl; obtain ⟨gz, hgz⟩ : ∃ g, g = w6.heap.size := ⟨_, rfl⟩; rw [← hgz] at HZ ⊢; have HLZ : Hid (w.heap.size ≤ gz) := (by show _ ≤ _; rw [hgz]; exact HGO.out); clear hgz HGO; replace HR4 := kV j HR4; replace HR5 := kV j HR5; replace HR6 := kV j HR6; clear j; refine sop (h := fun K9 hK9 => ?_))); rotate_left; (focus (intro K9 hK9))) | refine sop (h := fun K9 hK9 => ?_)
  all_goals
   go_simp
   refine (ifold2 _ (d * d) _ HR6.out (by have := HS6.out; omega)).mono ?_
   rintro e w7 ⟨⟨vx, rfl, hr⟩, j⟩
   obtain ⟨g7a, A7a, k7a, c7a, rfl, hr⟩ := hr.open
   have HR7 := h0d hr
   replace HG := kU HG j
   replace HR4 := kV j HR4
   replace HR5 := kV j HR5
   try replace HZ := kB HZ j
   clear hr j
   refine ckk hK9 (by exact HS.out _ HG.out) (h := ?_)
   clear hK9 K9
  all_goals first | (refine seqA 27 rfl (by kernel_rfl) (by rfl) (by rfl) ?_ ?_; (focus (have HGO := h0d HG.out.size; intro K9 hK9; go_simp; refine ckI hK9 HG HS.out (h := fun V j hl HZ HG => ?_); clear hK9 K9 hl; obtain ⟨gz, hgz⟩ : ∃ g, g = w7.heap.size := ⟨_, rfl⟩; rw [← hgz] at HZ ⊢; have HLZ : Hid (w.heap.size ≤ gz) := (by show _ ≤ _; rw [hgz]; exact HGO.out); clear hgz HGO; replace HR4 := kV j HR4; replace HR5 := kV j HR5; replace HR7 := kV j HR7; clear j; refine sop (h := fun K9 hK9 => ?_))); rotate_left; (focus (intro K9 hK9))) | refine sop (h := fun K9 hK9 => ?_)
  all_goals
   go_simp
   refine (iplus_any _ _ (c * c) (d * d * 2) _ HR5.out HR7.out (by have := HS5.out; omega) (by have := HS7.out; omega)).mono ?_
   rintro e w8 ⟨⟨vx, rfl, hr⟩, j⟩
   obtain ⟨g8a, A8a, k8a, c8a, rfl, hr⟩ := hr.open
   have HR8 := h0d hr
   replace HG := kU HG j
   replace HR4 := kV j HR4
   try replace HZ := kB HZ j
   clear hr j
   refine ckk hK9 (by exact HS.out _ HG.out) (h := ?_)
   clear hK9 K9
  all_goals first | (refine seqA 27 rfl (by kernel_rfl) (by rfl) (by rfl) ?_ ?_; (focus (have HGO := h0d HG.out.size; intro K9 hK9; go_simp; refine ckI hK9 HG HS.out (h := fun V j hl HZ HG => ?_); clear hK9 K9 hl; obtain ⟨gz, hgz⟩ : ∃ g, g = w8.heap.size := ⟨_, rfl⟩; rw [← hgz] at HZ ⊢; have HLZ : Hid (w.heap.size ≤ gz) := (by show _ ≤ _; rw [hgz]; exact HGO.out); clear hgz HGO; replace HR4 := kV j HR4; replace HR8 := kV j HR8; clear j; refine sop (h := fun K9 hK9 => ?_))); rotate_left; (focus (intro K9 hK9))) | refine sop (h := fun K9 hK9 => ?_)
  all_goals
   go_simp
   refine (ifold3 _ (c * c + d * d * 2) _ HR8.out (by have := HS8.out; omega)).mono ?_
   rintro e w9 ⟨⟨vx, rfl, hr⟩, j⟩
   obtain ⟨g9a, A9a, k9a, c9a, rfl, hr⟩ := hr.open
   have HR9 := h0d hr
   replace HG := kU HG j
   replace HR4 := kV j HR4
   try replace HZ := kB HZ j
   clear hr j
   refine ckk hK9 (by exact HS.out _ HG.out) (h := ?_)
   clear hK9 K9
  all_goals first | (refine seqA 27 rfl (by kernel_rfl) (by rfl) (by rfl) ?_ ?_; (focus (have HGO := h0d HG.out.size; intro K9 hK9; go_simp; refine ckI hK9 HG HS.out (h := fun V j hl HZ HG => ?_); clear hK9 K9 hl; obtain ⟨gz, hgz⟩ : ∃ g, g = w9.heap.size := ⟨_, rfl⟩; rw [← hgz] at HZ ⊢; have HLZ : Hid (w.heap.size ≤ gz) := (by show _ ≤ _; rw [hgz]; exact HGO.out); clear hgz HGO; replace HR4 := kV j HR4; replace HR9 := kV j HR9; clear j; refine sop (h := fun K9 hK9 => ?_))); rotate_left; (focus (intro K9 hK9))) | refine sop (h := fun K9 hK9 => ?_)
  all_goals
   go_simp
   refine (iminus_any _ ((c * c + d * d * 2) * 3) _ HR9.out).mono ?_
   rintro e w10 ⟨⟨vx, rfl, hr⟩, j⟩
   obtain ⟨g10a, A10a, k10a, c10a, rfl, hr⟩ := hr.open
   have HR10 := h0d hr
   replace HG := kU HG j
   replace HR4 := kV j HR4
   try replace HZ := kB HZ j
   clear hr j
   refine ckk hK9 (by exact HS.out _ HG.out) (h := ?_)
   clear hK9 K9
  all_goals first | (refine seqA 27 rfl (by kernel_rfl) (by rfl) (by rfl) ?_ ?_; (focus (have HGO := h0d HG.out.size; intro K9 hK9; go_simp; refine ckI hK9 HG HS.out (h := fun V j hl HZ HG => ?_); clear hK9 K9 hl; obtain ⟨gz, hgz⟩ : ∃ g, g = w10.heap.size := ⟨_, rfl⟩; rw [← hgz] at HZ ⊢; have HLZ : Hid (w.heap.size ≤ gz) := (by show _ ≤ _; rw [hgz]; exact HGO.out); clear hgz HGO; replace HR4 := kV j HR4; replace HR10 := kV j HR10; clear j; refine sop (h := fun K9 hK9 => ?_))); rotate_left; (focus (intro K9 hK9))) | refine sop (h := fun K9 hK9 => ?_)
  all_goals
   go_simp
   refine (iplus_any _ _ (a * a + b * b * 2) (-((c * c + d * d * 2) * 3)) _ HR4.out HR10.out (by have := HS4.out; omega) (by have := HS10.out; omega)).mono ?_
   rintro e w11 ⟨⟨vx, rfl, hr⟩, j⟩
   obtain ⟨g11a, A11a, k11a, c11a, rfl, hr⟩ := hr.open
   have HR11 := h0d hr
   replace HG := kU HG j
   try replace HZ := kB HZ j
   clear hr j
   refine ckk hK9 (by exact HS.out _ HG.out) (h := ?_)
   clear hK9 K9
  all_goals first | (refine sopA 27 rfl (h := fun K9 hK9 => ?_); have HGO := h0d HG.out.size; go_simp; refine ckI hK9 HG HS.out (h := fun V j hl HZ HG => ?_); clear hK9 K9 hl; obtain ⟨gz, hgz⟩ : ∃ g, g = w11.heap.size := ⟨_, rfl⟩; rw [← hgz] at HZ ⊢; have HLZ : Hid (w.heap.size ≤ gz) := (by show _ ≤ _; rw [hgz]; exact HGO.out); clear hgz HGO; replace HR11 := kV j HR11; clear j) | skip
  all_goals
   refine sop (h := fun K9 hK9 => ?_)
   refine wp_store_mid 27 _ _ (by rfl) gz 0 #[.bool g11a, .slice A11a k11a c11a] (by rfl) (by rfl) (blk_there HZ.out (Nat.le_of_ble_eq_true rfl)) (by kernel_rfl) (by kernel_rfl) ?_
   obtain ⟨WZ, HU⟩ := set_of HZ [.bool g11a, .slice A11a k11a c11a]
   have TZ := kN (kM HU) HZ rfl rfl
   replace HZ := kP (ds := [.bool g11a, .slice A11a k11a c11a]) (kM HU) HZ rfl rfl
   replace HR11 := kW TZ HR11
   replace HG := kS (kM HU) HLZ HG
   rw [← HU.out]
   clear HU TZ
   refine ckk hK9 (by exact HS.out _ HG.out) (h := ?_)
   clear hK9 K9
   refine seq_done (by kernel_rfl) ?_
   go_wp2_with fail
   go_meet
   case rel => exact ⟨_, rfl, ⟨_, HZ.out, (show RdZ _ _ (sgP a b c d) from HR11.out)⟩, HG.out⟩
 case rest =>
  obtain ⟨g5, rfl, HI5, HB5⟩ := hcut
  obtain ⟨wk, hwk⟩ : ∃ w' : World, w' = wc := ⟨_, rfl⟩
  subst hwk
  replace HP0 := kB HP0 HB5.out
  replace HX0 := kV HB5.out HX0
  replace HP1 := kB HP1 HB5.out
  replace HX1 := kV HB5.out HX1
  replace HP2 := kB HP2 HB5.out
  replace HX2 := kV HB5.out HX2
  replace HP3 := kB HP3 HB5.out
  replace HX3 := kV HB5.out HX3
  go_wp2_with fail
  go_cut [6] (fun v wx => ∃ g6, v = .pointer (some ⟨g6, 0, none⟩) ∧ Hid (IntAt wx g6 (sgQ a b c d)) ∧ Hid (Below wk.heap.size wk wx))
  case first =>
   obtain ⟨w0, hw0⟩ : ∃ W, W = wk.drew := ⟨_, rfl⟩
   have HG : Hid (Below wk.heap.size wk w0) := by show Below _ _ _; rw [hw0]; exact (Below.refl _ _).drew
   have HS : Hid (∀ w', Below wk.heap.size wk w' → w'.cell? ⟨b1, 0, none⟩ = some (.bool g0) ∧ w'.cell? ⟨b1, 1, none⟩ = some (.slice A0 k0 c0) ∧ w'.cell? ⟨b2, 0, none⟩ = some (.bool g1) ∧ w'.cell? ⟨b2, 1, none⟩ = some (.slice A1 k1 c1) ∧ w'.cell? ⟨b3, 0, none⟩ = some (.bool g2) ∧ w'.cell? ⟨b3, 1, none⟩ = some (.slice A2 k2 c2) ∧ w'.cell? ⟨b4, 0, none⟩ = some (.bool g3) ∧ w'.cell? ⟨b4, 1, none⟩ = some (.slice A3 k3 c3)) := fun w' hb => ⟨kD (kB HP0 hb) 0, kD (kB HP0 hb) 1, kD (kB HP1 hb) 0, kD (kB HP1 hb) 1, kD (kB HP2 hb) 0, kD (kB HP2 hb) 1, kD (kB HP3 hb) 0, kD (kB HP3 hb) 1⟩
   go_wp2_with fail
   refine seq_start (S := fun w' => w'.cell? ⟨b1, 0, none⟩ = some (.bool g0) ∧ w'.cell? ⟨b1, 1, none⟩ = some (.slice A0 k0 c0) ∧ w'.cell? ⟨b2, 0, none⟩ = some (.bool g1) ∧ w'.cell? ⟨b2, 1, none⟩ = some (.slice A1 k1 c1) ∧ w'.cell? ⟨b3, 0, none⟩ = some (.bool g2) ∧ w'.cell? ⟨b3, 1, none⟩ = some (.slice A2 k2 c2) ∧ w'.cell? ⟨b4, 0, none⟩ = some (.bool g3) ∧ w'.cell? ⟨b4, 1, none⟩ = some (.slice A3 k3 c3)) (by kernel_rfl) (by kernel_rfl) (by rw [← hw0]; exact HS.out _ HG.out) ?_
   rw [← hw0]
   clear hw0
   iterate 2 refine tk0 (h := ?_)
   iterate 2 (refine plq 1 (h := ?_); refine tk0 (h := ?_))
   all_goals first | (refine plq 6 (h := ?_); refine seqA 27 rfl (by kernel_rfl) (by rfl) (by rfl) ?_ ?_; (focus (have HGO := h0d HG.out.size; intro K9 hK9; go_simp; refine ckI hK9 HG HS.out (h := fun V j hl HZ HG => ?_); clear hK9 K9 hl; obtain ⟨gz, hgz⟩ : ∃ g, g = w0.heap.size := ⟨_, rfl⟩; rw [← hgz] at HZ ⊢; have HLZ : Hid (wk.heap.size ≤ gz) := (by show _ ≤ _; rw [hgz]; exact HGO.out); clear hgz HGO; clear j; refine sop (h := fun K9 hK9 => ?_))); rotate_left; (focus (intro K9 hK9))) | refine sop (h := fun K9 hK9 => ?_)
   all_goals
    go_simp
    refine (itimes_any _ _ a b _ (kV HG.out HX0).out (kV HG.out HX1).out (by have := HKa.out; omega) (by have := HKb.out; omega)).mono ?_
    rintro e w1 ⟨⟨vx, rfl, hr⟩, j⟩
    obtain ⟨g1a, A1a, k1a, c1a, rfl, hr⟩ := hr.open
    have HR1 := h0d hr
    replace HG := kU HG j
    try replace HZ := kB HZ j
    clear hr j
    refine ckk hK9 (by exact HS.out _ HG.out) (h := ?_)
    clear hK9 K9
   all_goals first | (refine seqA 27 rfl (by kernel_rfl) (by rfl) (by rfl) ?_ ?_; (focus (have HGO := h0d HG.out.size; intro K9 hK9; go_simp; refine ckI hK9 HG HS.out (h := fun V j hl HZ HG => ?_); clear hK9 K9 hl; obtain ⟨gz, hgz⟩ : ∃ g, g = w1.heap.size := ⟨_, rfl⟩; rw [← hgz] at HZ ⊢; have HLZ : Hid (wk.heap.size ≤ gz) := (by show _ ≤ _; rw [hgz]; exact HGO.out); clear hgz HGO; replace HR1 := kV j HR1; clear j; refine sop (h := fun K9 hK9 => ?_))); rotate_left; (focus (intro K9 hK9))) | refine sop (h := fun K9 hK9 => ?_)
   all_goals
    go_simp
    refine (itimes_any _ _ c d _ (kV HG.out HX2).out (kV HG.out HX3).out (by have := HKc.out; omega) (by have := HKd.out; omega)).mono ?_
    rintro e w2 ⟨⟨vx, rfl, hr⟩, j⟩
    obtain ⟨g2a, A2a, k2a, c2a, rfl, hr⟩ := hr.open
    have HR2 := h0d hr
    replace HG := kU HG j
    replace HR1 := kV j HR1
    try replace HZ := kB HZ j
    clear hr j
    refine ckk hK9 (by exact HS.out _ HG.out) (h := ?_)
    clear hK9 K9
   all_goals first | (refine seqA 27 rfl (by kernel_rfl) (by rfl) (by rfl) ?_ ?_; (focus (have HGO := h0d HG.out.size; intro K9 hK9; go_simp; refine ckI hK9 HG HS.out (h := fun V j hl HZ HG => ?_); clear hK9 K9 hl; obtain ⟨gz, hgz⟩ : ∃ g, g = w2.heap.size := ⟨_, rfl⟩; rw [← hgz] at HZ ⊢; have HLZ : Hid (wk.heap.size ≤ gz) := (by show _ ≤ _; rw [hgz]; exact HGO.out); clear hgz HGO; replace HR1 := kV j HR1; replace HR2 := kV j HR2; clear j; refine sop (h := fun K9 hK9 => ?_))); rotate_left; (focus (intro K9 hK9))) | refine sop (h := fun K9 hK9 => ?_)
   all_goals
    go_simp
    refine (ifold3 _ (c * d) _ HR2.out (by have := HQ2.out; omega)).mono ?_
    rintro e w3 ⟨⟨vx, rfl, hr⟩, j⟩
    obtain ⟨g3a, A3a, k3a, c3a, rfl, hr⟩ := hr.open
    have HR3 := h0d hr
    replace HG := kU HG j
    replace HR1 := kV j HR1
    try replace HZ := kB HZ j
    clear hr j
    refine ckk hK9 (by exact HS.out _ HG.out) (h := ?_)
    clear hK9 K9
   all_goals first | (refine seqA 27 rfl (by kernel_rfl) (by rfl) (by rfl) ?_ ?_; (focus (have HGO := h0d HG.out.size; intro K9 hK9; go_simp; refine ckI hK9 HG HS.out (h := fun V j hl HZ HG => ?_); clear hK9 K9 hl; obtain ⟨gz, hgz⟩ : ∃ g, g = w3.heap.size := ⟨_, rfl⟩; rw [← hgz] at HZ ⊢; have HLZ : Hid (wk.heap.size ≤ gz) := (by show _ ≤ _; rw [hgz]; exact HGO.out); clear hgz HGO; replace HR1 := kV j HR1; replace HR3 := kV j HR3; clear j; refine sop (h := fun K9 hK9 => ?_))); rotate_left; (focus (intro K9 hK9))) | refine sop (h := fun K9 hK9 => ?_)
   all_goals
    go_simp
    refine (iminus_any _ (c * d * 3) _ HR3.out).mono ?_
    rintro e w4 ⟨⟨vx, rfl, hr⟩, j⟩
    obtain ⟨g4a, A4a, k4a, c4a, rfl, hr⟩ := hr.open
    have HR4 := h0d hr
    replace HG := kU HG j
    replace HR1 := kV j HR1
    try replace HZ := kB HZ j
    clear hr j
    refine ckk hK9 (by exact HS.out _ HG.out) (h := ?_)
    clear hK9 K9
   all_goals first | (refine seqA 27 rfl (by kernel_rfl) (by rfl) (by rfl) ?_ ?_; (focus (have HGO := h0d HG.out.size; intro K9 hK9; go_simp; refine ckI hK9 HG HS.out (h := fun V j hl HZ HG => ?_); clear hK9 K9 hl; obtain ⟨gz, hgz⟩ : ∃ g, g = w4.heap.size := ⟨_, rfl⟩; rw [← hgz] at HZ ⊢; have HLZ : Hid (wk.heap.size ≤ gz) := (by show _ ≤ _; rw [hgz]; exact HGO.out); clear hgz HGO; replace HR1 := kV j HR1; replace HR4 := kV j HR4; clear j; refine sop (h := fun K9 hK9 => ?_))); rotate_left; (focus (intro K9 hK9))) | refine sop (h := fun K9 hK9 => ?_)
   all_goals
    go_simp
    refine (iplus_any _ _ (a * b) (-(c * d * 3)) _ HR1.out HR4.out (by have := HQ1.out; omega) (by have := HQ4.out; omega)).mono ?_
    rintro e w5 ⟨⟨vx, rfl, hr⟩, j⟩
    obtain ⟨g5a, A5a, k5a, c5a, rfl, hr⟩ := hr.open
    have HR5 := h0d hr
    replace HG := kU HG j
    try replace HZ := kB HZ j
    clear hr j
    refine ckk hK9 (by exact HS.out _ HG.out) (h := ?_)
    clear hK9 K9
   all_goals first | (refine seqA 27 rfl (by kernel_rfl) (by rfl) (by rfl) ?_ ?_; (focus (have HGO := h0d HG.out.size; intro K9 hK9; go_simp; refine ckI hK9 HG HS.out (h := fun V j hl HZ HG => ?_); clear hK9 K9 hl; obtain ⟨gz, hgz⟩ : ∃ g, g = w5.heap.size := ⟨_, rfl⟩; rw [← hgz] at HZ ⊢; have HLZ : Hid (wk.heap.size ≤ gz) := (by show _ ≤ _; rw [hgz]; exact HGO.out); clear hgz HGO; replace HR5 := kV j HR5; clear j; refine sop (h := fun K9 hK9 => ?_))); rotate_left; (focus (intro K9 hK9))) | refine sop (h := fun K9 hK9 => ?_)
   all_goals
    go_simp
    refine (ifold2 _ (a * b + -(c * d * 3)) _ HR5.out (by have := HQ5.out; omega)).mono ?_
    rintro e w6 ⟨⟨vx, rfl, hr⟩, j⟩
    obtain ⟨g6a, A6a, k6a, c6a, rfl, hr⟩ := hr.open
    have HR6 := h0d hr
    replace HG := kU HG j
    try replace HZ := kB HZ j
    clear hr j
    refine ckk hK9 (by exact HS.out _ HG.out) (h := ?_)
    clear hK9 K9
   all_goals first | (refine sopA 27 rfl (h := fun K9 hK9 => ?_); have HGO := h0d HG.out.size; go_simp; refine ckI hK9 HG HS.out (h := fun V j hl HZ HG => ?_); clear hK9 K9 hl; obtain ⟨gz, hgz⟩ : ∃ g, g = w6.heap.size := ⟨_, rfl⟩; rw [← hgz] at HZ ⊢; have HLZ : Hid (wk.heap.size ≤ gz) := (by show _ ≤ _; rw [hgz]; exact HGO.out); clear hgz HGO; replace HR6 := kV j HR6; clear j) | skip
   all_goals
    refine sop (h := fun K9 hK9 => ?_)
    refine wp_store_mid 27 _ _ (by rfl) gz 0 #[.bool g6a, .slice A6a k6a c6a] (by rfl) (by rfl) (blk_there HZ.out (Nat.le_of_ble_eq_true rfl)) (by kernel_rfl) (by kernel_rfl) ?_
    obtain ⟨WZ, HU⟩ := set_of HZ [.bool g6a, .slice A6a k6a c6a]
    have TZ := kN (kM HU) HZ rfl rfl
    replace HZ := kP (ds := [.bool g6a, .slice A6a k6a c6a]) (kM HU) HZ rfl rfl
    replace HR6 := kW TZ HR6
    replace HG := kS (kM HU) HLZ HG
    rw [← HU.out]
    clear HU TZ
    refine ckk hK9 (by exact HS.out _ HG.out) (h := ?_)
    clear hK9 K9
    refine seq_done (by kernel_rfl) ?_
    go_wp2_with fail
    go_meet
    case rel => exact ⟨_, rfl, ⟨_, HZ.out, (show RdZ _ _ (sgQ a b c d) from HR6.out)⟩, HG.out⟩
  case rest =>
   obtain ⟨g6, rfl, HI6, HB6⟩ := hcut
   obtain ⟨cs5, hb5, hr5⟩ := HI5.out.below HB6.out
   obtain ⟨cs6, hb6, hr6⟩ := HI6.out
   obtain ⟨q5, A5, k5, c5, e, hr5⟩ := hr5.open
   injection e with e
   subst e
   obtain ⟨q6, A6, k6, c6, e, hr6⟩ := hr6.open
   injection e with e
   subst e
   have HR5 := h0d hr5
   have HR6 := h0d hr6
   have HBW := h0d (HB5.out.trans (HB6.out.mono HB5.out.size))
   have e0 := blk_cell hb5 0
   have e1 := blk_cell hb5 1
   have e2 := blk_cell hb6 0
   have e3 := blk_cell hb6 1
   simp only [List.getElem?_toArray, List.getElem?_cons_zero, List.getElem?_cons_succ] at e0 e1 e2 e3
   clear hr5 hr6 hb5 hb6 HI5 HI6 HB5 HB6
   go_wp2_with fail
   refine (sign2_any _ _ (sgP a b c d) (sgQ a b c d) _ HR5.out HR6.out (by have := HS11.out; omega) (by have := HQ6.out; omega)).mono ?_
   rintro e w9 ⟨rfl, hb⟩
   have HBZ := h0d (HBW.out.trans (hb.mono HBW.out.size))
   clear hb e0 e1 e2 e3
   go_wp2_with fail
   go_ret
   exact ⟨rfl, HBZ.out⟩
end Go.Proofs.YtodckaioeomccaaGreat
namespace Go.Proofs.YtodckaioeomccaaGreat
open Go.RowKit Go.Proofs.S4P Go.Proofs.TurP
set_option linter.unusedVariables false
set_option linter.unusedSimpArgs false
set_option maxRecDepth 100000
set_option maxHeartbeats 4000000
section
variable {P : Program} {ops : Array Oper} {Q : Exit → Act → World → Prop} {S : World → Prop}
def okFour (ops : Array Oper) (p q r s : Nat × Oper) (rest : List (Nat × Oper)) : Bool :=
  (Region.ready .any ops (listedOf ops.size (p :: q :: r :: s :: rest))).all (fun i => i == p.1 || i == q.1 || i == r.1 || i == s.1) && !(Region.ready .any ops (listedOf ops.size (p :: q :: r :: s :: rest))).isEmpty &&
    !((q :: r :: s :: rest).any fun x => x.1 == p.1) && !((p :: r :: s :: rest).any fun x => x.1 == q.1) && !((p :: q :: s :: rest).any fun x => x.1 == r.1) && !((p :: q :: r :: rest).any fun x => x.1 == s.1)
theorem seq_four {p q r s : Nat × Oper} {rest : List (Nat × Oper)} {a : Act} {w : World} (hok : okFour ops p q r s rest = true)
    (hp : Region.wanted p.2 (yielded ops a.tmps) = true) (hq : Region.wanted q.2 (yielded ops a.tmps) = true) (hr : Region.wanted r.2 (yielded ops a.tmps) = true) (hs : Region.wanted s.2 (yielded ops a.tmps) = true)
    (h1 : StepTo P ops Q S p.2 (q :: r :: s :: rest) a w) (h2 : StepTo P ops Q S q.2 (p :: r :: s :: rest) a w) (h3 : StepTo P ops Q S r.2 (p :: q :: s :: rest) a w) (h4 : StepTo P ops Q S s.2 (p :: q :: r :: rest) a w) : Seq P ops Q S (p :: q :: r :: s :: rest) a w := by
  intro hS hc hin
  unfold okFour at hok
  simp only [Bool.and_eq_true, Bool.not_eq_true', List.isEmpty_eq_false_iff] at hok
  obtain ⟨⟨⟨⟨⟨k1, k2⟩, k3⟩, k4⟩, k5⟩, k6⟩ := hok
  have p2 : (q :: p :: r :: s :: rest).Perm (p :: q :: r :: s :: rest) := List.Perm.swap ..
  have p3 : (r :: p :: q :: s :: rest).Perm (p :: q :: r :: s :: rest) := (List.Perm.swap ..).trans (List.Perm.cons _ (List.Perm.swap ..))
  have p4 : (s :: p :: q :: r :: rest).Perm (p :: q :: r :: s :: rest) := (List.Perm.swap ..).trans (List.Perm.cons _ ((List.Perm.swap ..).trans (List.Perm.cons _ (List.Perm.swap ..))))
  refine wpAnyH_ready rfl k2 fun i hi => ?_
  have := List.all_eq_true.1 k1 i hi
  simp only [Bool.or_eq_true, beq_iff_eq] at this
  rcases this with ((e | e) | e) | e
  · subst e; exact stepTo_op (rest := q :: r :: s :: rest) hc hin (List.Perm.refl _) k3 hp h1
  · subst e; exact stepTo_op (rest := p :: r :: s :: rest) hc hin p2 k4 hq h2
  · subst e; exact stepTo_op (rest := p :: q :: s :: rest) hc hin p3 k5 hr h3
  · subst e; exact stepTo_op (rest := p :: q :: r :: rest) hc hin p4 k6 hs h4
end
theorem sgnQ_int (a : Int) : sgnQ (a : Rat) = Int.sign a := by
  unfold sgnQ
  rcases Int.lt_trichotomy a 0 with h | h | h
  · rw [Int.sign_eq_neg_one_of_neg h, if_pos (by exact_mod_cast h)]
  · subst h; rw [if_neg (by decide), if_pos (by rfl)]; rfl
  · rw [Int.sign_eq_one_of_pos h, if_neg (by have : (0 : Rat) < (a : Rat) := by exact_mod_cast h
                                             grind), if_neg (by have : (0 : Rat) < (a : Rat) := by exact_mod_cast h
                                                                grind)]
theorem sgn2_int (a b : Int) : sgn2 (a : Rat) (b : Rat) = sgnI2 a b := by
  unfold sgn2 sgnI2
  rw [sgnQ_int, sgnQ_int, ← sgnQ_int (a * a + -(b * b * 2))]
  congr 2
  push_cast
  grind
theorem sgn_ints {x : S4} {n0 n1 n2 n3 : Int} {d K : Nat} (h : Sx x n0 n1 n2 n3 d K) : sgnS x = weighI (sgnI2 n0 n1) (sgnI2 n2 n3) (sgnI2 (sgP n0 n1 n2 n3) (sgQ n0 n1 n2 n3)) := by
  obtain ⟨hd, ⟨h0, h1, h2, h3⟩, _⟩ := h
  have hd' : (0 : Rat) < (d : Rat) := by exact_mod_cast Nat.pos_of_ne_zero hd
  rw [sgnS_scale hd' h0 h1 h2 h3]
  unfold sgn4
  rw [sgn2_int, sgn2_int, ← sgn2_int (sgP n0 n1 n2 n3)]
  congr 2
  · unfold sgP; push_cast; grind
  · unfold sgQ; push_cast; grind
theorem ssign_any (v : Value) (x : S4) (K : Nat) (w : World) (hv : RdS w v x K) (hK : K ≤ 50000) :
    Calls Tryz.prog 152 #[v] w fun e w' => e = .returned (.int .i64 (sgnS x)) ∧ Below w.heap.size w w' := by
  obtain ⟨n0, n1, n2, n3, d, hv, hx⟩ := hv
  have hsg : sgnS x = weighI (sgnI2 n0 n1) (sgnI2 n2 n3) (sgnI2 (sgP n0 n1 n2 n3) (sgQ n0 n1 n2 n3)) := sgn_ints hx
  rw [hsg]
  have HD := h0d hx.2.2.1
  obtain ⟨gp0a, Ap0a, kp0a, cp0a, gp0b, Ap0b, kp0b, cp0b, gp0c, Ap0c, kp0c, cp0c, gp0d, Ap0d, kp0d, cp0d, Ap0e, kp0e, cp0e, rfl, hv⟩ := hv.open
  obtain ⟨W1, HW1, HB1, s1w, j1⟩ := st_al0 w #[.bool gp0a, .slice Ap0a kp0a cp0a, .bool gp0b, .slice Ap0b kp0b cp0b, .bool gp0c, .slice Ap0c kp0c cp0c, .bool gp0d, .slice Ap0d kp0d cp0d, .slice Ap0e kp0e cp0e] 30
  have HX0 := kV j1 (h0d hv)
  have HBw := h0d j1
  clear hv hx hsg j1 s1w
  go_enter Tryz.func152, Tryz.ntmps152
  go_wp2_with fail
  rw [← HW1.out]
  clear HW1
  go_cut [3, 4, 5, 6] (fun v3 v4 v5 v6 wx => ∃ g3 g4 g5 g6, v3 = .pointer (some ⟨g3, 0, none⟩) ∧ v4 = .pointer (some ⟨g4, 0, none⟩) ∧ v5 = .pointer (some ⟨g5, 0, none⟩) ∧ v6 = .pointer (some ⟨g6, 0, none⟩) ∧
    Hid (wx.heap[g3]? = some (.cells #[.bool gp0a, .slice Ap0a kp0a cp0a] 27 (0, 0))) ∧ Hid (wx.heap[g4]? = some (.cells #[.bool gp0b, .slice Ap0b kp0b cp0b] 27 (0, 0))) ∧ Hid (wx.heap[g5]? = some (.cells #[.bool gp0c, .slice Ap0c kp0c cp0c] 27 (0, 0))) ∧ Hid (wx.heap[g6]? = some (.cells #[.bool gp0d, .slice Ap0d kp0d cp0d] 27 (0, 0))) ∧ Hid (Below W1.heap.size W1 wx))
  case first =>
    obtain ⟨wa, hwa⟩ : ∃ W, W = W1.drew := ⟨_, rfl⟩
    have j2 : Below W1.heap.size W1 wa := by rw [hwa]; exact (Below.refl _ _).drew
    have HJ2 : Hid (∀ W', Below wa.heap.size wa W' → Below W1.heap.size W1 W') := fun W' hW => j2.trans (hW.mono j2.size)
    replace HB1 := kB HB1 j2
    have HS : Hid (∀ w', Below wa.heap.size wa w' → w'.cell? ⟨w.heap.size, 0, none⟩ = some (.bool gp0a) ∧ w'.cell? ⟨w.heap.size, 1, none⟩ = some (.slice Ap0a kp0a cp0a) ∧ w'.cell? ⟨w.heap.size, 2, none⟩ = some (.bool gp0b) ∧ w'.cell? ⟨w.heap.size, 3, none⟩ = some (.slice Ap0b kp0b cp0b) ∧ w'.cell? ⟨w.heap.size, 4, none⟩ = some (.bool gp0c) ∧ w'.cell? ⟨w.heap.size, 5, none⟩ = some (.slice Ap0c kp0c cp0c) ∧ w'.cell? ⟨w.heap.size, 6, none⟩ = some (.bool gp0d) ∧ w'.cell? ⟨w.heap.size, 7, none⟩ = some (.slice Ap0d kp0d cp0d)) := fun w' hb => ⟨kD (kB HB1 hb) 0, kD (kB HB1 hb) 1, kD (kB HB1 hb) 2, kD (kB HB1 hb) 3, kD (kB HB1 hb) 4, kD (kB HB1 hb) 5, kD (kB HB1 hb) 6, kD (kB HB1 hb) 7⟩
    have HG : Hid (Below wa.heap.size wa wa) := Below.refl _ _
    clear j2
    go_wp2_with fail
    refine seq_start (S := fun w' => w'.cell? ⟨w.heap.size, 0, none⟩ = some (.bool gp0a) ∧ w'.cell? ⟨w.heap.size, 1, none⟩ = some (.slice Ap0a kp0a cp0a) ∧ w'.cell? ⟨w.heap.size, 2, none⟩ = some (.bool gp0b) ∧ w'.cell? ⟨w.heap.size, 3, none⟩ = some (.slice Ap0b kp0b cp0b) ∧ w'.cell? ⟨w.heap.size, 4, none⟩ = some (.bool gp0c) ∧ w'.cell? ⟨w.heap.size, 5, none⟩ = some (.slice Ap0c kp0c cp0c) ∧ w'.cell? ⟨w.heap.size, 6, none⟩ = some (.bool gp0d) ∧ w'.cell? ⟨w.heap.size, 7, none⟩ = some (.slice Ap0d kp0d cp0d)) (by kernel_rfl) (by kernel_rfl) (by rw [← hwa]; exact HS.out _ HG.out) ?_
    rw [← hwa]
    clear hwa HB1 HX0 HD
    iterate 12 refine tk0 (h := ?_)
    refine seq_four (by kernel_rfl) (by rfl) (by rfl) (by rfl) (by rfl) ?_ ?_ ?_ ?_
    all_goals (intro K9 hK9; go_simp; refine ckI hK9 HG HS.out (h := fun V1 j1 hl1 HA1 HG => ?_); clear hK9 K9)
    all_goals refine seq_three (by kernel_rfl) (by rfl) (by rfl) (by rfl) ?_ ?_ ?_
    all_goals (intro K9 hK9; go_simp; refine ckI hK9 HG HS.out (h := fun V2 j2 hl2 HA2 HG => ?_); clear hK9 K9)
    all_goals refine seq_both (by kernel_rfl) (by rfl) (by rfl) ?_ ?_
    all_goals (intro K9 hK9; go_simp; refine ckI hK9 HG HS.out (h := fun V3 j3 hl3 HA3 HG => ?_); clear hK9 K9)
    all_goals (refine sop (h := fun K9 hK9 => ?_); go_simp; refine ckI hK9 HG HS.out (h := fun V4 j4 hl4 HA4 HG => ?_); clear hK9 K9)
    all_goals
      replace HA1 := kB (kB (kB HA1 j2) j3) j4
      replace HA2 := kB (kB HA2 j3) j4
      replace HA3 := kB HA3 j4
      have HN12 : Hid (wa.heap.size ≠ V1.heap.size) := by show _ ≠ _; omega
      have HN13 : Hid (wa.heap.size ≠ V2.heap.size) := by show _ ≠ _; omega
      have HN14 : Hid (wa.heap.size ≠ V3.heap.size) := by show _ ≠ _; omega
      have HN23 : Hid (V1.heap.size ≠ V2.heap.size) := by show _ ≠ _; omega
      have HN24 : Hid (V1.heap.size ≠ V3.heap.size) := by show _ ≠ _; omega
      have HN34 : Hid (V2.heap.size ≠ V3.heap.size) := by show _ ≠ _; omega
      have HL1 : Hid (wa.heap.size ≤ wa.heap.size) := Nat.le_refl _
      have HL2 : Hid (wa.heap.size ≤ V1.heap.size) := by show _ ≤ _; omega
      have HL3 : Hid (wa.heap.size ≤ V2.heap.size) := by show _ ≤ _; omega
      have HL4 : Hid (wa.heap.size ≤ V3.heap.size) := by show _ ≤ _; omega
      clear j1 j2 j3 j4 hl1 hl2 hl3 hl4
      refine sop (h := fun K9 hK9 => ?_)
      first
        | (refine wp_store_mid 27 _ _ (by rfl) (wa.heap.size) 0 #[.bool gp0a, .slice Ap0a kp0a cp0a] (by rfl) (by rfl) (blk_there HA1.out (Nat.le_of_ble_eq_true rfl)) (by kernel_rfl) (by kernel_rfl) ?_; obtain ⟨U1, HU⟩ : ∃ W, Hid (W = V4.setCells (wa.heap.size) 0 [.bool gp0a, .slice Ap0a kp0a cp0a]) := ⟨_, rfl⟩; replace HA1 := kP (ds := [.bool gp0a, .slice Ap0a kp0a cp0a]) (kM HU) HA1 rfl rfl; replace HA2 := kO (kM HU) HA2 HN12.out.symm; replace HA3 := kO (kM HU) HA3 HN13.out.symm; replace HA4 := kO (kM HU) HA4 HN14.out.symm; replace HG := kS (kM HU) HL1 HG)
        | (refine wp_store_mid 27 _ _ (by rfl) (V1.heap.size) 0 #[.bool gp0a, .slice Ap0a kp0a cp0a] (by rfl) (by rfl) (blk_there HA2.out (Nat.le_of_ble_eq_true rfl)) (by kernel_rfl) (by kernel_rfl) ?_; obtain ⟨U1, HU⟩ : ∃ W, Hid (W = V4.setCells (V1.heap.size) 0 [.bool gp0a, .slice Ap0a kp0a cp0a]) := ⟨_, rfl⟩; replace HA1 := kO (kM HU) HA1 HN12.out; replace HA2 := kP (ds := [.bool gp0a, .slice Ap0a kp0a cp0a]) (kM HU) HA2 rfl rfl; replace HA3 := kO (kM HU) HA3 HN23.out.symm; replace HA4 := kO (kM HU) HA4 HN24.out.symm; replace HG := kS (kM HU) HL2 HG)
        | (refine wp_store_mid 27 _ _ (by rfl) (V2.heap.size) 0 #[.bool gp0a, .slice Ap0a kp0a cp0a] (by rfl) (by rfl) (blk_there HA3.out (Nat.le_of_ble_eq_true rfl)) (by kernel_rfl) (by kernel_rfl) ?_; obtain ⟨U1, HU⟩ : ∃ W, Hid (W = V4.setCells (V2.heap.size) 0 [.bool gp0a, .slice Ap0a kp0a cp0a]) := ⟨_, rfl⟩; replace HA1 := kO (kM HU) HA1 HN13.out; replace HA2 := kO (kM HU) HA2 HN23.out; replace HA3 := kP (ds := [.bool gp0a, .slice Ap0a kp0a cp0a]) (kM HU) HA3 rfl rfl; replace HA4 := kO (kM HU) HA4 HN34.out.symm; replace HG := kS (kM HU) HL3 HG)
        | (refine wp_store_mid 27 _ _ (by rfl) (V3.heap.size) 0 #[.bool gp0a, .slice Ap0a kp0a cp0a] (by rfl) (by rfl) (blk_there HA4.out (Nat.le_of_ble_eq_true rfl)) (by kernel_rfl) (by kernel_rfl) ?_; obtain ⟨U1, HU⟩ : ∃ W, Hid (W = V4.setCells (V3.heap.size) 0 [.bool gp0a, .slice Ap0a kp0a cp0a]) := ⟨_, rfl⟩; replace HA1 := kO (kM HU) HA1 HN14.out; replace HA2 := kO (kM HU) HA2 HN24.out; replace HA3 := kO (kM HU) HA3 HN34.out; replace HA4 := kP (ds := [.bool gp0a, .slice Ap0a kp0a cp0a]) (kM HU) HA4 rfl rfl; replace HG := kS (kM HU) HL4 HG)
      rw [← HU.out]
      clear HU
      refine ckk hK9 (by exact HS.out _ HG.out) (h := ?_)
      clear hK9 K9
      refine sop (h := fun K9 hK9 => ?_)
      first
        | (refine wp_store_mid 27 _ _ (by rfl) (wa.heap.size) 0 #[.bool gp0b, .slice Ap0b kp0b cp0b] (by rfl) (by rfl) (blk_there HA1.out (Nat.le_of_ble_eq_true rfl)) (by kernel_rfl) (by kernel_rfl) ?_; obtain ⟨U2, HU⟩ : ∃ W, Hid (W = U1.setCells (wa.heap.size) 0 [.bool gp0b, .slice Ap0b kp0b cp0b]) := ⟨_, rfl⟩; replace HA1 := kP (ds := [.bool gp0b, .slice Ap0b kp0b cp0b]) (kM HU) HA1 rfl rfl; replace HA2 := kO (kM HU) HA2 HN12.out.symm; replace HA3 := kO (kM HU) HA3 HN13.out.symm; replace HA4 := kO (kM HU) HA4 HN14.out.symm; replace HG := kS (kM HU) HL1 HG)
        | (refine wp_store_mid 27 _ _ (by rfl) (V1.heap.size) 0 #[.bool gp0b, .slice Ap0b kp0b cp0b] (by rfl) (by rfl) (blk_there HA2.out (Nat.le_of_ble_eq_true rfl)) (by kernel_rfl) (by kernel_rfl) ?_; obtain ⟨U2, HU⟩ : ∃ W, Hid (W = U1.setCells (V1.heap.size) 0 [.bool gp0b, .slice Ap0b kp0b cp0b]) := ⟨_, rfl⟩; replace HA1 := kO (kM HU) HA1 HN12.out; replace HA2 := kP (ds := [.bool gp0b, .slice Ap0b kp0b cp0b]) (kM HU) HA2 rfl rfl; replace HA3 := kO (kM HU) HA3 HN23.out.symm; replace HA4 := kO (kM HU) HA4 HN24.out.symm; replace HG := kS (kM HU) HL2 HG)
        | (refine wp_store_mid 27 _ _ (by rfl) (V2.heap.size) 0 #[.bool gp0b, .slice Ap0b kp0b cp0b] (by rfl) (by rfl) (blk_there HA3.out (Nat.le_of_ble_eq_true rfl)) (by kernel_rfl) (by kernel_rfl) ?_; obtain ⟨U2, HU⟩ : ∃ W, Hid (W = U1.setCells (V2.heap.size) 0 [.bool gp0b, .slice Ap0b kp0b cp0b]) := ⟨_, rfl⟩; replace HA1 := kO (kM HU) HA1 HN13.out; replace HA2 := kO (kM HU) HA2 HN23.out; replace HA3 := kP (ds := [.bool gp0b, .slice Ap0b kp0b cp0b]) (kM HU) HA3 rfl rfl; replace HA4 := kO (kM HU) HA4 HN34.out.symm; replace HG := kS (kM HU) HL3 HG)
        | (refine wp_store_mid 27 _ _ (by rfl) (V3.heap.size) 0 #[.bool gp0b, .slice Ap0b kp0b cp0b] (by rfl) (by rfl) (blk_there HA4.out (Nat.le_of_ble_eq_true rfl)) (by kernel_rfl) (by kernel_rfl) ?_; obtain ⟨U2, HU⟩ : ∃ W, Hid (W = U1.setCells (V3.heap.size) 0 [.bool gp0b, .slice Ap0b kp0b cp0b]) := ⟨_, rfl⟩; replace HA1 := kO (kM HU) HA1 HN14.out; replace HA2 := kO (kM HU) HA2 HN24.out; replace HA3 := kO (kM HU) HA3 HN34.out; replace HA4 := kP (ds := [.bool gp0b, .slice Ap0b kp0b cp0b]) (kM HU) HA4 rfl rfl; replace HG := kS (kM HU) HL4 HG)
      rw [← HU.out]
      clear HU
      refine ckk hK9 (by exact HS.out _ HG.out) (h := ?_)
      clear hK9 K9
      refine sop (h := fun K9 hK9 => ?_)
      first
        | (refine wp_store_mid 27 _ _ (by rfl) (wa.heap.size) 0 #[.bool gp0c, .slice Ap0c kp0c cp0c] (by rfl) (by rfl) (blk_there HA1.out (Nat.le_of_ble_eq_true rfl)) (by kernel_rfl) (by kernel_rfl) ?_; obtain ⟨U3, HU⟩ : ∃ W, Hid (W = U2.setCells (wa.heap.size) 0 [.bool gp0c, .slice Ap0c kp0c cp0c]) := ⟨_, rfl⟩; replace HA1 := kP (ds := [.bool gp0c, .slice Ap0c kp0c cp0c]) (kM HU) HA1 rfl rfl; replace HA2 := kO (kM HU) HA2 HN12.out.symm; replace HA3 := kO (kM HU) HA3 HN13.out.symm; replace HA4 := kO (kM HU) HA4 HN14.out.symm; replace HG := kS (kM HU) HL1 HG)
        | (refine wp_store_mid 27 _ _ (by rfl) (V1.heap.size) 0 #[.bool gp0c, .slice Ap0c kp0c cp0c] (by rfl) (by rfl) (blk_there HA2.out (Nat.le_of_ble_eq_true rfl)) (by kernel_rfl) (by kernel_rfl) ?_; obtain ⟨U3, HU⟩ : ∃ W, Hid (W = U2.setCells (V1.heap.size) 0 [.bool gp0c, .slice Ap0c kp0c cp0c]) := ⟨_, rfl⟩; replace HA1 := kO (kM HU) HA1 HN12.out; replace HA2 := kP (ds := [.bool gp0c, .slice Ap0c kp0c cp0c]) (kM HU) HA2 rfl rfl; replace HA3 := kO (kM HU) HA3 HN23.out.symm; replace HA4 := kO (kM HU) HA4 HN24.out.symm; replace HG := kS (kM HU) HL2 HG)
        | (refine wp_store_mid 27 _ _ (by rfl) (V2.heap.size) 0 #[.bool gp0c, .slice Ap0c kp0c cp0c] (by rfl) (by rfl) (blk_there HA3.out (Nat.le_of_ble_eq_true rfl)) (by kernel_rfl) (by kernel_rfl) ?_; obtain ⟨U3, HU⟩ : ∃ W, Hid (W = U2.setCells (V2.heap.size) 0 [.bool gp0c, .slice Ap0c kp0c cp0c]) := ⟨_, rfl⟩; replace HA1 := kO (kM HU) HA1 HN13.out; replace HA2 := kO (kM HU) HA2 HN23.out; replace HA3 := kP (ds := [.bool gp0c, .slice Ap0c kp0c cp0c]) (kM HU) HA3 rfl rfl; replace HA4 := kO (kM HU) HA4 HN34.out.symm; replace HG := kS (kM HU) HL3 HG)
        | (refine wp_store_mid 27 _ _ (by rfl) (V3.heap.size) 0 #[.bool gp0c, .slice Ap0c kp0c cp0c] (by rfl) (by rfl) (blk_there HA4.out (Nat.le_of_ble_eq_true rfl)) (by kernel_rfl) (by kernel_rfl) ?_; obtain ⟨U3, HU⟩ : ∃ W, Hid (W = U2.setCells (V3.heap.size) 0 [.bool gp0c, .slice Ap0c kp0c cp0c]) := ⟨_, rfl⟩; replace HA1 := kO (kM HU) HA1 HN14.out; replace HA2 := kO (kM HU) HA2 HN24.out; replace HA3 := kO (kM HU) HA3 HN34.out; replace HA4 := kP (ds := [.bool gp0c, .slice Ap0c kp0c cp0c]) (kM HU) HA4 rfl rfl; replace HG := kS (kM HU) HL4 HG)
      rw [← HU.out]
      clear HU
      refine ckk hK9 (by exact HS.out _ HG.out) (h := ?_)
      clear hK9 K9
      refine sop (h := fun K9 hK9 => ?_)
      first
        | (refine wp_store_mid 27 _ _ (by rfl) (wa.heap.size) 0 #[.bool gp0d, .slice Ap0d kp0d cp0d] (by rfl) (by rfl) (blk_there HA1.out (Nat.le_of_ble_eq_true rfl)) (by kernel_rfl) (by kernel_rfl) ?_; obtain ⟨U4, HU⟩ : ∃ W, Hid (W = U3.setCells (wa.heap.size) 0 [.bool gp0d, .slice Ap0d kp0d cp0d]) := ⟨_, rfl⟩; replace HA1 := kP (ds := [.bool gp0d, .slice Ap0d kp0d cp0d]) (kM HU) HA1 rfl rfl; replace HA2 := kO (kM HU) HA2 HN12.out.symm; replace HA3 := kO (kM HU) HA3 HN13.out.symm; replace HA4 := kO (kM HU) HA4 HN14.out.symm; replace HG := kS (kM HU) HL1 HG)
        | (refine wp_store_mid 27 _ _ (by rfl) (V1.heap.size) 0 #[.bool gp0d, .slice Ap0d kp0d cp0d] (by rfl) (by rfl) (blk_there HA2.out (Nat.le_of_ble_eq_true rfl)) (by kernel_rfl) (by kernel_rfl) ?_; obtain ⟨U4, HU⟩ : ∃ W, Hid (W = U3.setCells (V1.heap.size) 0 [.bool gp0d, .slice Ap0d kp0d cp0d]) := ⟨_, rfl⟩; replace HA1 := kO (kM HU) HA1 HN12.out; replace HA2 := kP (ds := [.bool gp0d, .slice Ap0d kp0d cp0d]) (kM HU) HA2 rfl rfl; replace HA3 := kO (kM HU) HA3 HN23.out.symm; replace HA4 := kO (kM HU) HA4 HN24.out.symm; replace HG := kS (kM HU) HL2 HG)
        | (refine wp_store_mid 27 _ _ (by rfl) (V2.heap.size) 0 #[.bool gp0d, .slice Ap0d kp0d cp0d] (by rfl) (by rfl) (blk_there HA3.out (Nat.le_of_ble_eq_true rfl)) (by kernel_rfl) (by kernel_rfl) ?_; obtain ⟨U4, HU⟩ : ∃ W, Hid (W = U3.setCells (V2.heap.size) 0 [.bool gp0d, .slice Ap0d kp0d cp0d]) := ⟨_, rfl⟩; replace HA1 := kO (kM HU) HA1 HN13.out; replace HA2 := kO (kM HU) HA2 HN23.out; replace HA3 := kP (ds := [.bool gp0d, .slice Ap0d kp0d cp0d]) (kM HU) HA3 rfl rfl; replace HA4 := kO (kM HU) HA4 HN34.out.symm; replace HG := kS (kM HU) HL3 HG)
        | (refine wp_store_mid 27 _ _ (by rfl) (V3.heap.size) 0 #[.bool gp0d, .slice Ap0d kp0d cp0d] (by rfl) (by rfl) (blk_there HA4.out (Nat.le_of_ble_eq_true rfl)) (by kernel_rfl) (by kernel_rfl) ?_; obtain ⟨U4, HU⟩ : ∃ W, Hid (W = U3.setCells (V3.heap.size) 0 [.bool gp0d, .slice Ap0d kp0d cp0d]) := ⟨_, rfl⟩; replace HA1 := kO (kM HU) HA1 HN14.out; replace HA2 := kO (kM HU) HA2 HN24.out; replace HA3 := kO (kM HU) HA3 HN34.out; replace HA4 := kP (ds := [.bool gp0d, .slice Ap0d kp0d cp0d]) (kM HU) HA4 rfl rfl; replace HG := kS (kM HU) HL4 HG)
      rw [← HU.out]
      clear HU
      refine ckk hK9 (by exact HS.out _ HG.out) (h := ?_)
      clear hK9 K9
      refine seq_done (by kernel_rfl) ?_
      go_wp2_with fail
      go_meet
      case rel => exact ⟨_, _, _, _, rfl, rfl, rfl, rfl, (by first | exact HA1.out | exact HA2.out | exact HA3.out | exact HA4.out), (by first | exact HA1.out | exact HA2.out | exact HA3.out | exact HA4.out), (by first | exact HA1.out | exact HA2.out | exact HA3.out | exact HA4.out), (by first | exact HA1.out | exact HA2.out | exact HA3.out | exact HA4.out), HJ2.out _ HG.out⟩
  case rest =>
    obtain ⟨g3, g4, g5, g6, rfl, rfl, rfl, rfl, HT3, HT4, HT5, HT6, HJ⟩ := hcut
    obtain ⟨wk, hwk⟩ : ∃ w' : World, w' = wc := ⟨_, rfl⟩
    subst hwk
    replace HX0 := kV HJ.out HX0
    replace HBw := kU HBw HJ.out
    have HZ0 := h0d HX0.out.z0
    have HZ1 := h0d HX0.out.z1
    have HZ2 := h0d HX0.out.z2
    have HZ3 := h0d HX0.out.z3
    clear HB1 HJ HX0
    go_wp2_with fail
    obtain ⟨W1, hW1⟩ : ∃ W, W = wk.drew := ⟨_, rfl⟩
    have j1 : Below wk.heap.size wk W1 := by rw [hW1]; exact (Below.refl _ _).drew
    replace HT3 := kB HT3 j1
    replace HT4 := kB HT4 j1
    replace HT5 := kB HT5 j1
    replace HT6 := kB HT6 j1
    refine seq_start (S := fun w' => w'.cell? ⟨g3, 0, none⟩ = some (.bool gp0a) ∧ w'.cell? ⟨g3, 1, none⟩ = some (.slice Ap0a kp0a cp0a) ∧ w'.cell? ⟨g4, 0, none⟩ = some (.bool gp0b) ∧ w'.cell? ⟨g4, 1, none⟩ = some (.slice Ap0b kp0b cp0b) ∧ w'.cell? ⟨g5, 0, none⟩ = some (.bool gp0c) ∧ w'.cell? ⟨g5, 1, none⟩ = some (.slice Ap0c kp0c cp0c) ∧ w'.cell? ⟨g6, 0, none⟩ = some (.bool gp0d) ∧ w'.cell? ⟨g6, 1, none⟩ = some (.slice Ap0d kp0d cp0d)) (by kernel_rfl) (by kernel_rfl) (by rw [← hW1]; exact ⟨kD HT3 0, kD HT3 1, kD HT4 0, kD HT4 1, kD HT5 0, kD HT5 1, kD HT6 0, kD HT6 1⟩) ?_
    rw [← hW1]
    clear hW1
    iterate 2 refine tk0 (h := ?_)
    iterate 2 (refine plq 1 (h := ?_); refine tk0 (h := ?_))
    refine plq 2 (h := ?_)
    refine tk0 (h := ?_)
    refine sop (h := fun K9 hK9 => ?_)
    go_simp
    replace HZ0 := kV j1 HZ0
    replace HZ1 := kV j1 HZ1
    refine (sign2_any _ _ n0 n1 _ HZ0.out HZ1.out (by have := HD.out.1; omega) (by have := HD.out.2.1; omega)).mono ?_
    rintro e w1 ⟨rfl, j1c⟩
    replace HT3 := kB HT3 j1c
    replace HT4 := kB HT4 j1c
    replace HT5 := kB HT5 j1c
    replace HT6 := kB HT6 j1c
    refine ckk hK9 (by exact ⟨kD HT3 0, kD HT3 1, kD HT4 0, kD HT4 1, kD HT5 0, kD HT5 1, kD HT6 0, kD HT6 1⟩) (h := ?_)
    clear hK9 K9
    refine sop (h := fun K9 hK9 => ?_)
    go_simp
    replace HZ2 := kV j1c (kV j1 HZ2)
    replace HZ3 := kV j1c (kV j1 HZ3)
    refine (sign2_any _ _ n2 n3 _ HZ2.out HZ3.out (by have := HD.out.2.2.1; omega) (by have := HD.out.2.2.2; omega)).mono ?_
    rintro e w2 ⟨rfl, j2c⟩
    replace HT3 := kB HT3 j2c
    replace HT4 := kB HT4 j2c
    replace HT5 := kB HT5 j2c
    replace HT6 := kB HT6 j2c
    refine ckk hK9 (by exact ⟨kD HT3 0, kD HT3 1, kD HT4 0, kD HT4 1, kD HT5 0, kD HT5 1, kD HT6 0, kD HT6 1⟩) (h := ?_)
    clear hK9 K9
    refine sop (h := fun K9 hK9 => ?_)
    go_simp
    replace HZ0 := kV j2c (kV j1c HZ0)
    replace HZ1 := kV j2c (kV j1c HZ1)
    replace HZ2 := kV j2c HZ2
    replace HZ3 := kV j2c HZ3
    refine (weigh_any (sgnI2 n0 n1) (sgnI2 n2 n3) _ 218 #[.pointer (some ⟨g3, 0, none⟩), .pointer (some ⟨g4, 0, none⟩), .pointer (some ⟨g5, 0, none⟩), .pointer (some ⟨g6, 0, none⟩)] enters_sgn1 _ (sgnI2_small _ _) (sgnI2_small _ _) (sgnI2_small _ _) (sgn1_any n0 n1 n2 n3 K _ HT3.out HT4.out HT5.out HT6.out HZ0.out HZ1.out HZ2.out HZ3.out HD.out.1 HD.out.2.1 HD.out.2.2.1 HD.out.2.2.2 hK)).mono ?_
    rintro e w3 ⟨rfl, j3c⟩
    replace HT3 := kB HT3 j3c
    replace HT4 := kB HT4 j3c
    replace HT5 := kB HT5 j3c
    replace HT6 := kB HT6 j3c
    refine ckk hK9 (by exact ⟨kD HT3 0, kD HT3 1, kD HT4 0, kD HT4 1, kD HT5 0, kD HT5 1, kD HT6 0, kD HT6 1⟩) (h := ?_)
    clear hK9 K9
    refine tk0 (h := ?_)
    refine seq_done (by kernel_rfl) ?_
    go_wp2_with fail
    go_ret
    replace HBw := kU (kU (kU (kU HBw j1) j1c) j2c) j3c
    exact ⟨rfl, HBw.out⟩
end Go.Proofs.YtodckaioeomccaaGreat
