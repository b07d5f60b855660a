/- Walks of signs: weigh, sign2. -/
import Derived.Test.YtodckaioeomccaaGreatPart30
import Derived.Test.YtodckaioeomccaaGreatPart02
namespace Go.Proofs.YtodckaioeomccaaGreat
open Go.RowKit Go.Proofs.S4P Go.Proofs.TurP
set_option linter.unusedVariables false
set_option linter.unusedSimpArgs false
set_option maxRecDepth 100000
set_option maxHeartbeats 4000000
theorem enters_sq2 : ∀ args w, (callFunc 252 args).run Tryz.prog w = .ok (.enter 252 args) w := enters_of Tryz.func252 (by kernel_rfl) rfl
theorem sign_small (a : Int) : -1 ≤ Int.sign a ∧ Int.sign a ≤ 1 := by
 rcases Int.lt_trichotomy a 0 with h | h | h
 ·rw [Int.sign_eq_neg_one_of_neg h]; omega
 ·rw [h]; decide
 ·rw [Int.sign_eq_one_of_pos h]; omega
theorem mul_small {s q : Int} (hs : -1 ≤ s ∧ s ≤ 1) (hq : -1 ≤ q ∧ q ≤ 1) : -1 ≤ s * q ∧ s * q ≤ 1 := by
 rcases (show s = -1 ∨ s = 0 ∨ s = 1 by omega) with h | h | h <;> rw [h] <;> omega
theorem weigh_small {s t q : Int} (hs : -1 ≤ s ∧ s ≤ 1) (ht : -1 ≤ t ∧ t ≤ 1) (hq : -1 ≤ q ∧ q ≤ 1) : -1 ≤ weighI s t q ∧ weighI s t q ≤ 1 := by
 unfold weighI
 split
 ·exact hs
 ·split
  ·exact ht
  ·exact mul_small hs hq
theorem weigh_any (s t q : Int) (fid : FuncId) (cpt : Array Value) (eg : ∀ args w, (callFunc fid args).run Tryz.prog w = .ok (.enter fid args) w) (w : World) (hs : -1 ≤ s ∧ s ≤ 1) (ht : -1 ≤ t ∧ t ≤ 1) (hq : -1 ≤ q ∧ q ≤ 1)
  (hf : Calls Tryz.prog fid cpt w fun e w' => e = .returned (.int .i64 q) ∧ Below w.heap.size w w') :
  Calls Tryz.prog 216 #[.int .i64 s, .int .i64 t, .func (.func fid) #[] cpt] w fun e w' => e = .returned (.int .i64 (weighI s t q)) ∧ Below w.heap.size w w' := by
 have HF := h0d hf
 clear hf
 by_cases h1 : s = t
 ·have HR : Hid (weighI s t q = s) := if_pos (.inl h1)
  have hb1 : (s == t) = true := beq_iff_eq.2 h1
  rw [HR.out]
  clear hs ht hq h1 eg
  go_enter Tryz.func216, Tryz.ntmps216
  go_wp2_with fail
  go_ret
  exact ⟨rfl, Below.refl _ _⟩
 ·have hb1 : (s == t) = false := beq_false_of_ne h1
  by_cases h2 : t = 0
  ·have HR : Hid (weighI s t q = s) := if_pos (.inr h2)
   rw [HR.out]
   subst h2
   clear hs ht hq eg
   go_enter Tryz.func216, Tryz.ntmps216
   go_wp2_with fail
   go_ret
   exact ⟨rfl, Below.refl _ _⟩
  ·have hb2 : (t == 0) = false := beq_false_of_ne h2
   by_cases h3 : s = 0
   ·have HR : Hid (weighI s t q = t) := by show _ = _; unfold weighI; rw [if_neg (by omega), if_pos h3]
    rw [HR.out]
    subst h3
    clear hs ht hq eg
    go_enter Tryz.func216, Tryz.ntmps216
    go_wp2_with fail
    go_ret
    exact ⟨rfl, Below.refl _ _⟩
   ·have hb3 : (s == 0) = false := beq_false_of_ne h3
    have HR : Hid (weighI s t q = s * q) := by show _ = _; unfold weighI; rw [if_neg (by omega), if_neg h3]
    rw [HR.out]
    have hw : IntKind.i64.wrap (s * q) = s * q := IntWalk.i64_in _ (by have := mul_small hs hq; omega)
    clear hs ht hq
    go_enter Tryz.func216, Tryz.ntmps216
    go_wp2_with fail
    refine HF.out.mono ?_
    rintro e w1 ⟨rfl, hb⟩
    go_wp2_with fail
    go_ret
    exact ⟨rfl, hb⟩
def sgnI2 (a b : Int) : Int := weighI (Int.sign a) (Int.sign b) (Int.sign (a * a + -(b * b * 2)))
theorem sgnI2_small (a b : Int) : -1 ≤ sgnI2 a b ∧ sgnI2 a b ≤ 1 := weigh_small (sign_small _) (sign_small _) (sign_small _)
theorem sq2_any {b1 b2 : Nat} {g0 g1 : Bool} {s0 s1 : Value} (a b : Int) (w : World) (h1 : w.heap[b1]? = some (.cells #[.bool g0, s0] 27 (0, 0))) (h2 : w.heap[b2]? = some (.cells #[.bool g1, s1] 27 (0, 0))) (hz : RdZ w (.agg #[.bool g0, s0]) a) (hy : RdZ w (.agg #[.bool g1, s1]) b) (hza : dl a.natAbs ≤ 110000) (hyb : dl b.natAbs ≤ 110000) :
  Calls Tryz.prog 252 #[.pointer (some ⟨b1, 0, none⟩), .pointer (some ⟨b2, 0, none⟩)] w fun e w' => e = .returned (.int .i64 (Int.sign (a * a + -(b * b * 2)))) ∧ Below w.heap.size w w' := by
 have HZA := h0d hza
 have HYB := h0d hyb
 have HX0 := h0d hz
 have HX1 := h0d hy
 have HP2 := h0d h1
 have HP3 := h0d h2
 obtain ⟨A0, k0, c0, rfl⟩ := hz.shape
 obtain ⟨A1, k1, c1, rfl⟩ := hy.shape
 clear hz hy h1 h2
 go_enter Tryz.func252, Tryz.ntmps252
 go_wp2_with fail
 obtain ⟨W1, hW1⟩ : ∃ W, W = w.drew := ⟨_, rfl⟩
 have j1 : Below w.heap.size w W1 := by rw [hW1]; exact (Below.refl _ _).drew
 have HBw := h0d j1
 replace HP2 := kB HP2 j1
 replace HP3 := kB HP3 j1
 refine seq_start (S := fun w' => w'.cell? ⟨b1, 0, none⟩ = some (.bool g0) ∧ w'.cell? ⟨b1, 1, none⟩ = some (.slice A0 k0 c0) ∧ w'.cell? ⟨b2, 0, none⟩ = some (.bool g1) ∧ w'.cell? ⟨b2, 1, none⟩ = some (.slice A1 k1 c1)) (by kernel_rfl) (by kernel_rfl) (by rw [← hW1]; exact ⟨kD HP2 0, kD HP2 1, kD HP3 0, kD HP3 1⟩) ?_
 rw [← hW1]
 clear hW1
 iterate 2 refine tk0 (h := ?_)
 iterate 2 (refine plq 1 (h := ?_); refine tk0 (h := ?_))
 refine sop (h := fun K9 hK9 => ?_)
 go_simp
 replace HX0 := kV j1 HX0
 refine (itimes_any _ _ a a _ HX0.out HX0.out (by omega) (by omega)).mono ?_
 rintro e w1 ⟨⟨vx, rfl, hr⟩, j1c⟩
 obtain ⟨g1a, A1a, k1a, c1a, rfl, hr⟩ := hr.open
 have HR1 := h0d hr
 clear hr
 replace HP2 := kB HP2 j1c
 replace HP3 := kB HP3 j1c
 refine ckk hK9 (by exact ⟨kD HP2 0, kD HP2 1, kD HP3 0, kD HP3 1⟩) (h := ?_)
 clear hK9 K9
 refine sop (h := fun K9 hK9 => ?_)
 go_simp
 replace HX1 := kV j1c (kV j1 HX1)
 refine (itimes_any _ _ b b _ HX1.out HX1.out (by omega) (by omega)).mono ?_
 rintro e w2 ⟨⟨vx, rfl, hr⟩, j2c⟩
 obtain ⟨g2a, A2a, k2a, c2a, rfl, hr⟩ := hr.open
 have HR2 := h0d hr
 clear hr
 replace HP2 := kB HP2 j2c
 replace HP3 := kB HP3 j2c
 refine ckk hK9 (by exact ⟨kD HP2 0, kD HP2 1, kD HP3 0, kD HP3 1⟩) (h := ?_)
 clear hK9 K9
 refine sop (h := fun K9 hK9 => ?_)
 go_simp
 refine (ifold2 _ (b * b) _ HR2.out (by have := dl_mul2 HYB.out HYB.out; omega)).mono ?_
 rintro e w3 ⟨⟨vx, rfl, hr⟩, j3c⟩
 obtain ⟨g3a, A3a, k3a, c3a, rfl, hr⟩ := hr.open
 have HR3 := h0d hr
 clear hr
 replace HP2 := kB HP2 j3c
 replace HP3 := kB HP3 j3c
 refine ckk hK9 (by exact ⟨kD HP2 0, kD HP2 1, kD HP3 0, kD HP3 1⟩) (h := ?_)
 clear hK9 K9
 refine sop (h := fun K9 hK9 => ?_)
 go_simp
 refine (iminus_any _ (b * b * 2) _ HR3.out).mono ?_
 rintro e w4 ⟨⟨vx, rfl, hr⟩, j4c⟩
 obtain ⟨g4a, A4a, k4a, c4a, rfl, hr⟩ := hr.open
 have HR4 := h0d hr
 clear hr
 replace HP2 := kB HP2 j4c
 replace HP3 := kB HP3 j4c
 refine ckk hK9 (by exact ⟨kD HP2 0, kD HP2 1, kD HP3 0, kD HP3 1⟩) (h := ?_)
 clear hK9 K9
 refine sop (h := fun K9 hK9 => ?_)
 go_simp
 replace HR1 := kV j4c (kV j3c (kV j2c HR1))
 refine (iplus_any _ _ (a * a) (-(b * b * 2)) _ HR1.out HR4.out (by have := dl_mul2 HZA.out HZA.out; omega) (by rw [Int.natAbs_neg]; have := dl_f2 (dl_mul2 HYB.out HYB.out); omega)).mono ?_
 rintro e w5 ⟨⟨vx, rfl, hr⟩, j5c⟩
 obtain ⟨g5a, A5a, k5a, c5a, rfl, hr⟩ := hr.open
 have HR5 := h0d hr
 clear hr
 replace HP2 := kB HP2 j5c
 replace HP3 := kB HP3 j5c
 refine ckk hK9 (by exact ⟨kD HP2 0, kD HP2 1, kD HP3 0, kD HP3 1⟩) (h := ?_)
 clear hK9 K9
 refine sop (h := fun K9 hK9 => ?_)
 go_simp
 refine (isign_any _ (a * a + -(b * b * 2)) _ HR5.out).mono ?_
 rintro e w6 ⟨rfl, j6c⟩
 replace HP2 := kB HP2 j6c
 replace HP3 := kB HP3 j6c
 refine ckk hK9 (by exact ⟨kD HP2 0, kD HP2 1, kD HP3 0, kD HP3 1⟩) (h := ?_)
 clear hK9 K9
 refine tk0 (h := ?_)
 refine seq_done (by kernel_rfl) ?_
 go_wp2_with fail
 go_ret
 replace HBw := kU (kU (kU (kU (kU (kU HBw j1c) j2c) j3c) j4c) j5c) j6c
 exact ⟨rfl, HBw.out⟩
theorem sign2_any (v u : Value) (a b : Int) (w : World) (hv : RdZ w v a) (hu : RdZ w u b) (hza : dl a.natAbs ≤ 110000) (hyb : dl b.natAbs ≤ 110000) :
  Calls Tryz.prog 217 #[v, u] w fun e w' => e = .returned (.int .i64 (sgnI2 a b)) ∧ Below w.heap.size w w' := by
 have HZA := h0d hza
 have HYB := h0d hyb
 clear hza hyb
 obtain ⟨gp0a, Ap0a, kp0a, cp0a, rfl, hv⟩ := hv.open
 have HX0 := h0d hv
 clear hv
 obtain ⟨gp1a, Ap1a, kp1a, cp1a, rfl, hu⟩ := hu.open
 have HX1 := h0d hu
 clear hu
 go_enter Tryz.func217, Tryz.ntmps217
 obtain ⟨W1, HW1, HB2, s1w, j1⟩ := st_al0 w #[.bool gp0a, .slice Ap0a kp0a cp0a] 27
 have HBw := h0d j1
 obtain ⟨W3, HW3, HB4, s3w, j2⟩ := st_alk 1 2 #[.bool gp1a, .slice Ap1a kp1a cp1a] 27 s1w rfl
 go_wp2_with fail
 rw [← HW1.out, ← HW3.out]
 obtain ⟨W5, hW5⟩ : ∃ W, W = W3.drew := ⟨_, rfl⟩
 have j3 : Below W3.heap.size W3 W5 := by rw [hW5]; exact (Below.refl _ _).drew
 replace HB2 := kB (kB HB2 j2) j3
 replace HB4 := kB HB4 j3
 refine seq_start (S := fun w' => w'.cell? ⟨w.heap.size, 0, none⟩ = some (.bool gp0a) ∧ w'.cell? ⟨w.heap.size, 1, none⟩ = some (.slice Ap0a kp0a cp0a) ∧ w'.cell? ⟨w.heap.size + 1, 0, none⟩ = some (.bool gp1a) ∧ w'.cell? ⟨w.heap.size + 1, 1, none⟩ = some (.slice Ap1a kp1a cp1a)) (by kernel_rfl) (by kernel_rfl) (by rw [← hW5]; exact ⟨kD HB2 0, kD HB2 1, kD HB4 0, kD HB4 1⟩) ?_
 rw [← hW5]
 clear hW5
 refine tk0 (h := ?_)
 refine plq 1 (h := ?_)
 refine tk0 (h := ?_)
 refine plq 2 (h := ?_)
 refine tk0 (h := ?_)
 refine sop (h := fun K9 hK9 => ?_)
 go_simp
 replace HX0 := kV j3 (kV j2 (kV j1 HX0))
 refine (isign_any _ a _ HX0.out).mono ?_
 rintro e w1 ⟨rfl, j1c⟩
 replace HB2 := kB HB2 j1c
 replace HB4 := kB HB4 j1c
 refine ckk hK9 (by exact ⟨kD HB2 0, kD HB2 1, kD HB4 0, kD HB4 1⟩) (h := ?_)
 clear hK9 K9
 refine sop (h := fun K9 hK9 => ?_)
 go_simp
 replace HX1 := kV j1c (kV j3 (kV j2 (kV j1 HX1)))
 refine (isign_any _ b _ HX1.out).mono ?_
 rintro e w2 ⟨rfl, j2c⟩
 replace HB2 := kB HB2 j2c
 replace HB4 := kB HB4 j2c
 refine ckk hK9 (by exact ⟨kD HB2 0, kD HB2 1, kD HB4 0, kD HB4 1⟩) (h := ?_)
 clear hK9 K9
 refine sop (h := fun K9 hK9 => ?_)
 go_simp
 replace HX0 := kV j2c (kV j1c HX0)
 replace HX1 := kV j2c HX1
 refine (weigh_any (Int.sign a) (Int.sign b) _ 252 #[.pointer (some ⟨w.heap.size, 0, none⟩), .pointer (some ⟨w.heap.size + 1, 0, none⟩)] enters_sq2 _ (sign_small _) (sign_small _) (sign_small _) (sq2_any a b _ HB2.out HB4.out HX0.out HX1.out HZA.out HYB.out)).mono ?_
 rintro e w3 ⟨rfl, j3c⟩
 replace HB2 := kB HB2 j3c
 replace HB4 := kB HB4 j3c
 refine ckk hK9 (by exact ⟨kD HB2 0, kD HB2 1, kD HB4 0, kD HB4 1⟩) (h := ?_)
 clear hK9 K9
 refine tk0 (h := ?_)
 refine seq_done (by kernel_rfl) ?_
 go_wp2_with fail
 go_ret
 replace HBw := kU (kU (kU (kU (kU HBw j2) j3) j1c) j2c) j3c
 exact ⟨rfl, HBw.out⟩
end Go.Proofs.YtodckaioeomccaaGreat
