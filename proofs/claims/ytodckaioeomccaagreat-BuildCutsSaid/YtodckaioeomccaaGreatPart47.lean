/- Walks of cuts: Close. -/
import Derived.Test.YtodckaioeomccaaGreatPart43
namespace Go.Proofs.YtodckaioeomccaaGreat
open Go.RowKit
set_option linter.unusedVariables false
set_option linter.unusedSimpArgs false
set_option maxRecDepth 100000
set_option maxHeartbeats 4000000
theorem results_tct {P : Program} {fn : Func} {t u v b : Nat} {ty : TypeId} {tmps : Array Value} {w : World} {d : TypeDesc} {cs : List Value} {x e : Value} (h : fn.results = #[.tmp t, .cell u ty, .tmp v])
  (hp : tmps.getD u undef = .pointer (some ⟨b, 0, none⟩)) (hc : w.rangeAt b 0 cs) (hu : P.underlying ty = some d) (hd : d.isRow = true) (hi : (P.info? ty).map (·.size) = some cs.length) (hx : tmps.getD t undef = x) (he : tmps.getD v undef = e) :
  (results fn tmps).run P w = .ok (.tuple #[x, .agg cs.toArray, e]) w := by
 subst hx he
 have hl := run_loadVar_mid w b 0 ty cs d hc hu hd hi
 rw [Array.getD_eq_getD_getElem?] at hp
 simp [results, h, hp, asAddr, hl]
def ovl (a p : Rat) (n : Nat) : Rat := p - a / ((n : Int) : Rat)
def clsS (a p l m : Rat) : Nat → Nat → Nat
 | 0, _ => 0
 | f + 1, n => if l ≤ ovl a p n ∧ ovl a p n ≤ m then n else clsS a p l m f (n + 1)
def cE (r : Nat) : Int := if r = 0 then 5 else 0
def cV (a p : Rat) (r : Nat) : Rat := if r = 0 then 0 else ovl a p r
theorem cls_yes {a p l m : Rat} {k : Nat} (hk : k ≤ 64) (h1 : l ≤ ovl a p k) (h2 : ovl a p k ≤ m) : clsS a p l m (65 - k) k = k := by
 rw [show 65 - k = (64 - k) + 1 by omega]; unfold clsS; rw [if_pos ⟨h1, h2⟩]
theorem cls_no {a p l m : Rat} {k : Nat} (hk : k ≤ 64) (h : ¬ (l ≤ ovl a p k ∧ ovl a p k ≤ m)) : clsS a p l m (65 - k) k = clsS a p l m (65 - (k + 1)) (k + 1) := by
 rw [show 65 - k = (65 - (k + 1)) + 1 by omega]
 show (if _ then _ else _) = _
 rw [if_neg h]
theorem sgn_nn (x : Rat) : 0 ≤ Int.sign x.num ↔ 0 ≤ x := by rw [Int.sign_nonneg_iff, num_nn]
theorem sgn_np (x : Rat) : Int.sign x.num ≤ 0 ↔ x ≤ 0 := by
 have h1 := sgn_pos x
 constructor
 ·intro h; refine Rat.not_lt.1 fun h0 => ?_; have := h1.2 h0; omega
 ·intro h; refine Int.not_lt.1 fun h0 => ?_; have := h1.1 h0; grind
theorem close_1 (v u s t : Value) (a p l m : Rat) (w : World) (hv : RdQ w v a) (hu : RdQ w u p) (hs : RdQ w s l) (ht : RdQ w t m) (hq0 : QS 1000 a) (hq1 : QS 1000 p) (hq2 : QS 1000 l) (hq3 : QS 1000 m) (sa : Int) (hsa : Int.sign a.num = sa) (ksa : sa ≤ 0) :
  Calls Tryz.prog 41 #[v, u, s, t] w fun e w' => (∃ v', e = .returned (.tuple #[.int .i64 0, v', .int .i64 1]) ∧ RdQ w' v' 0) ∧ Below w.heap.size w w' := by
 have HQ0 := h0d hq0
 have HQ1 := h0d hq1
 have HQ2 := h0d hq2
 have HQ3 := h0d hq3
 clear hq0 hq1 hq2 hq3
 have Hsa := h0d hsa
 clear hsa
 obtain ⟨gp0a, Ap0a, kp0a, cp0a, Ap0b, kp0b, cp0b, rfl, hv⟩ := hv.open
 have HX0 := h0d hv
 clear hv
 obtain ⟨gp1a, Ap1a, kp1a, cp1a, Ap1b, kp1b, cp1b, rfl, hu⟩ := hu.open
 have HX1 := h0d hu
 clear hu
 obtain ⟨gp2a, Ap2a, kp2a, cp2a, Ap2b, kp2b, cp2b, rfl, hs⟩ := hs.open
 have HX2 := h0d hs
 clear hs
 obtain ⟨gp3a, Ap3a, kp3a, cp3a, Ap3b, kp3b, cp3b, rfl, ht⟩ := ht.open
 have HX3 := h0d ht
 clear ht
 go_enter Tryz.func41, Tryz.ntmps41
 obtain ⟨W1, HW1, HB2, s1w, j1⟩ := st_al0 w #[.bool gp0a, .slice Ap0a kp0a cp0a, .slice Ap0b kp0b cp0b] 32
 have HBw := h0d j1
 obtain ⟨W3, HW3, HB4, s3w, j2⟩ := st_alk 1 2 #[.bool gp1a, .slice Ap1a kp1a cp1a, .slice Ap1b kp1b cp1b] 32 s1w rfl
 obtain ⟨W5, HW5, HB6, s5w, j3⟩ := st_alk 2 3 #[.bool gp2a, .slice Ap2a kp2a cp2a, .slice Ap2b kp2b cp2b] 32 s3w rfl
 obtain ⟨W7, HW7, HB8, s7w, j4⟩ := st_alk 3 4 #[.bool gp3a, .slice Ap3a kp3a cp3a, .slice Ap3b kp3b cp3b] 32 s5w rfl
 obtain ⟨W9, HW9, HB10, s9w, j5⟩ := st_alk 4 5 #[.bool false, .slice none 0 0, .slice none 0 0] 32 s7w rfl
 have l10b : Hid (w.heap.size ≤ w.heap.size + 4) := by show _ ≤ _; omega
 go_wp2_with fail
 rw [← HW1.out, ← HW3.out, ← HW5.out, ← HW7.out, ← HW9.out]
 have jm1 := tt (tt (tt j2 j3) j4) j5
 replace HBw := kU HBw jm1
 replace HX0 := kV HBw.out HX0
 refine mV (sign_is _ a sa _ HX0.out Hsa.out) fun w1 j1c => ?_
 replace HB10 := kB HB10 j1c
 have t11h := kth 0 3 HB10
 obtain ⟨W12, HW12⟩ : ∃ W, Hid (W = w1.setCells (w.heap.size + 4) 0 [.bool false, .slice none 0 0, .slice none 0 0]) := ⟨_, rfl⟩
 replace HB10 := kPf (kM HW12) HB10 rfl
 go_wp2_with (refine smd 32 (w.heap.size + 4) 0 (ht := by exact t11h) (h := ?_))
 rw [← HW12.out]
 clear t11h
 replace HBw := kS (kM HW12) l10b (kU HBw j1c)
 exact bodyPost_ret (v := .tuple #[.int .i64 0, .agg #[.bool false, .slice none 0 0, .slice none 0 0], .int .i64 1]) (results_tct rfl (by rfl) (blk_all HB10.out) Tryz.underlying32 rfl (by kernel_rfl) (by rfl) (by rfl)) rfl ⟨⟨_, rfl, RdQ.nil0 _⟩, HBw.out⟩
theorem close_2 (v u s t : Value) (a p l m : Rat) (w : World) (hv : RdQ w v a) (hu : RdQ w u p) (hs : RdQ w s l) (ht : RdQ w t m) (hq0 : QS 1000 a) (hq1 : QS 1000 p) (hq2 : QS 1000 l) (hq3 : QS 1000 m) (hsa : Int.sign a.num = 1) (sp : Int) (hsp : Int.sign p.num = sp) (ksp : sp ≤ 0) :
  Calls Tryz.prog 41 #[v, u, s, t] w fun e w' => (∃ v', e = .returned (.tuple #[.int .i64 0, v', .int .i64 1]) ∧ RdQ w' v' 0) ∧ Below w.heap.size w w' := by
 have HQ0 := h0d hq0
 have HQ1 := h0d hq1
 have HQ2 := h0d hq2
 have HQ3 := h0d hq3
 clear hq0 hq1 hq2 hq3
 have Hsa := h0d hsa
 clear hsa
 have Hsp := h0d hsp
 clear hsp
 obtain ⟨gp0a, Ap0a, kp0a, cp0a, Ap0b, kp0b, cp0b, rfl, hv⟩ := hv.open
 have HX0 := h0d hv
 clear hv
 obtain ⟨gp1a, Ap1a, kp1a, cp1a, Ap1b, kp1b, cp1b, rfl, hu⟩ := hu.open
 have HX1 := h0d hu
 clear hu
 obtain ⟨gp2a, Ap2a, kp2a, cp2a, Ap2b, kp2b, cp2b, rfl, hs⟩ := hs.open
 have HX2 := h0d hs
 clear hs
 obtain ⟨gp3a, Ap3a, kp3a, cp3a, Ap3b, kp3b, cp3b, rfl, ht⟩ := ht.open
 have HX3 := h0d ht
 clear ht
 go_enter Tryz.func41, Tryz.ntmps41
 obtain ⟨W1, HW1, HB2, s1w, j1⟩ := st_al0 w #[.bool gp0a, .slice Ap0a kp0a cp0a, .slice Ap0b kp0b cp0b] 32
 have HBw := h0d j1
 obtain ⟨W3, HW3, HB4, s3w, j2⟩ := st_alk 1 2 #[.bool gp1a, .slice Ap1a kp1a cp1a, .slice Ap1b kp1b cp1b] 32 s1w rfl
 obtain ⟨W5, HW5, HB6, s5w, j3⟩ := st_alk 2 3 #[.bool gp2a, .slice Ap2a kp2a cp2a, .slice Ap2b kp2b cp2b] 32 s3w rfl
 obtain ⟨W7, HW7, HB8, s7w, j4⟩ := st_alk 3 4 #[.bool gp3a, .slice Ap3a kp3a cp3a, .slice Ap3b kp3b cp3b] 32 s5w rfl
 obtain ⟨W9, HW9, HB10, s9w, j5⟩ := st_alk 4 5 #[.bool false, .slice none 0 0, .slice none 0 0] 32 s7w rfl
 have l10b : Hid (w.heap.size ≤ w.heap.size + 4) := by show _ ≤ _; omega
 go_wp2_with fail
 rw [← HW1.out, ← HW3.out, ← HW5.out, ← HW7.out, ← HW9.out]
 have jm1 := tt (tt (tt j2 j3) j4) j5
 replace HBw := kU HBw jm1
 replace HX0 := kV HBw.out HX0
 refine mV (sign_is _ a 1 _ HX0.out Hsa.out) fun w1 j1c => ?_
 have jm2 := tt (tt (tt j3 j4) j5) j1c
 replace HB4 := kB HB4 jm2
 have c11 := kC HB4 0 rfl
 have c12 := kC HB4 1 rfl
 have c13 := kC HB4 2 rfl
 go_wp2_with fail
 clear c11 c12 c13
 replace HBw := kU HBw j1c
 replace HX1 := kV HBw.out HX1
 refine mV (sign_is _ p sp _ HX1.out Hsp.out) fun w2 j2c => ?_
 have jm3 := tt j1c j2c
 replace HB10 := kB HB10 jm3
 have t14h := kth 0 3 HB10
 obtain ⟨W15, HW15⟩ : ∃ W, Hid (W = w2.setCells (w.heap.size + 4) 0 [.bool false, .slice none 0 0, .slice none 0 0]) := ⟨_, rfl⟩
 replace HB10 := kPf (kM HW15) HB10 rfl
 go_wp2_with (refine smd 32 (w.heap.size + 4) 0 (ht := by exact t14h) (h := ?_))
 rw [← HW15.out]
 clear t14h
 replace HBw := kS (kM HW15) l10b (kU HBw j2c)
 exact bodyPost_ret (v := .tuple #[.int .i64 0, .agg #[.bool false, .slice none 0 0, .slice none 0 0], .int .i64 1]) (results_tct rfl (by rfl) (blk_all HB10.out) Tryz.underlying32 rfl (by kernel_rfl) (by rfl) (by rfl)) rfl ⟨⟨_, rfl, RdQ.nil0 _⟩, HBw.out⟩
theorem close_3 (v u s t : Value) (a p l m : Rat) (w : World) (hv : RdQ w v a) (hu : RdQ w u p) (hs : RdQ w s l) (ht : RdQ w t m) (hq0 : QS 1000 a) (hq1 : QS 1000 p) (hq2 : QS 1000 l) (hq3 : QS 1000 m) (hsa : Int.sign a.num = 1) (hsp : Int.sign p.num = 1) (hsc : Int.sign (l - m).num = 1) :
  Calls Tryz.prog 41 #[v, u, s, t] w fun e w' => (∃ v', e = .returned (.tuple #[.int .i64 0, v', .int .i64 7]) ∧ RdQ w' v' 0) ∧ Below w.heap.size w w' := by
 have HQ0 := h0d hq0
 have HQ1 := h0d hq1
 have HQ2 := h0d hq2
 have HQ3 := h0d hq3
 clear hq0 hq1 hq2 hq3
 have Hsa := h0d hsa
 clear hsa
 have Hsp := h0d hsp
 clear hsp
 have Hsc := h0d hsc
 clear hsc
 obtain ⟨gp0a, Ap0a, kp0a, cp0a, Ap0b, kp0b, cp0b, rfl, hv⟩ := hv.open
 have HX0 := h0d hv
 clear hv
 obtain ⟨gp1a, Ap1a, kp1a, cp1a, Ap1b, kp1b, cp1b, rfl, hu⟩ := hu.open
 have HX1 := h0d hu
 clear hu
 obtain ⟨gp2a, Ap2a, kp2a, cp2a, Ap2b, kp2b, cp2b, rfl, hs⟩ := hs.open
 have HX2 := h0d hs
 clear hs
 obtain ⟨gp3a, Ap3a, kp3a, cp3a, Ap3b, kp3b, cp3b, rfl, ht⟩ := ht.open
 have HX3 := h0d ht
 clear ht
 go_enter Tryz.func41, Tryz.ntmps41
 obtain ⟨W1, HW1, HB2, s1w, j1⟩ := st_al0 w #[.bool gp0a, .slice Ap0a kp0a cp0a, .slice Ap0b kp0b cp0b] 32
 have HBw := h0d j1
 obtain ⟨W3, HW3, HB4, s3w, j2⟩ := st_alk 1 2 #[.bool gp1a, .slice Ap1a kp1a cp1a, .slice Ap1b kp1b cp1b] 32 s1w rfl
 obtain ⟨W5, HW5, HB6, s5w, j3⟩ := st_alk 2 3 #[.bool gp2a, .slice Ap2a kp2a cp2a, .slice Ap2b kp2b cp2b] 32 s3w rfl
 obtain ⟨W7, HW7, HB8, s7w, j4⟩ := st_alk 3 4 #[.bool gp3a, .slice Ap3a kp3a cp3a, .slice Ap3b kp3b cp3b] 32 s5w rfl
 obtain ⟨W9, HW9, HB10, s9w, j5⟩ := st_alk 4 5 #[.bool false, .slice none 0 0, .slice none 0 0] 32 s7w rfl
 have l10b : Hid (w.heap.size ≤ w.heap.size + 4) := by show _ ≤ _; omega
 go_wp2_with fail
 rw [← HW1.out, ← HW3.out, ← HW5.out, ← HW7.out, ← HW9.out]
 have jm1 := tt (tt (tt j2 j3) j4) j5
 replace HBw := kU HBw jm1
 replace HX0 := kV HBw.out HX0
 refine mV (sign_is _ a 1 _ HX0.out Hsa.out) fun w1 j1c => ?_
 have jm2 := tt (tt (tt j3 j4) j5) j1c
 replace HB4 := kB HB4 jm2
 have c11 := kC HB4 0 rfl
 have c12 := kC HB4 1 rfl
 have c13 := kC HB4 2 rfl
 go_wp2_with fail
 clear c11 c12 c13
 replace HBw := kU HBw j1c
 replace HX1 := kV HBw.out HX1
 refine mV (sign_is _ p 1 _ HX1.out Hsp.out) fun w2 j2c => ?_
 have jm3 := tt (tt (tt j4 j5) j1c) j2c
 replace HB6 := kB HB6 jm3
 have c14 := kC HB6 0 rfl
 have c15 := kC HB6 1 rfl
 have c16 := kC HB6 2 rfl
 have jm4 := tt (tt j5 j1c) j2c
 replace HB8 := kB HB8 jm4
 have c17 := kC HB8 0 rfl
 have c18 := kC HB8 1 rfl
 have c19 := kC HB8 2 rfl
 go_wp2_with fail
 clear c14 c15 c16 c17 c18 c19
 replace HBw := kU HBw j2c
 replace HX2 := kV HBw.out HX2
 replace HX3 := kV HBw.out HX3
 refine mV (cmp_is _ _ l m 1 _ HX2.out HX3.out (HQ2.out.up (by omega)) (HQ3.out.up (by omega)) Hsc.out) fun w3 j3c => ?_
 have jm5 := tt (tt j1c j2c) j3c
 replace HB10 := kB HB10 jm5
 have t20h := kth 0 3 HB10
 obtain ⟨W21, HW21⟩ : ∃ W, Hid (W = w3.setCells (w.heap.size + 4) 0 [.bool false, .slice none 0 0, .slice none 0 0]) := ⟨_, rfl⟩
 replace HB10 := kPf (kM HW21) HB10 rfl
 go_wp2_with (refine smd 32 (w.heap.size + 4) 0 (ht := by exact t20h) (h := ?_))
 rw [← HW21.out]
 clear t20h
 replace HBw := kS (kM HW21) l10b (kU HBw j3c)
 exact bodyPost_ret (v := .tuple #[.int .i64 0, .agg #[.bool false, .slice none 0 0, .slice none 0 0], .int .i64 7]) (results_tct rfl (by rfl) (blk_all HB10.out) Tryz.underlying32 rfl (by kernel_rfl) (by rfl) (by rfl)) rfl ⟨⟨_, rfl, RdQ.nil0 _⟩, HBw.out⟩
theorem close_4 (v u s t : Value) (a p l m : Rat) (w : World) (hv : RdQ w v a) (hu : RdQ w u p) (hs : RdQ w s l) (ht : RdQ w t m) (hq0 : QS 1000 a) (hq1 : QS 1000 p) (hq2 : QS 1000 l) (hq3 : QS 1000 m) (hsa : Int.sign a.num = 1) (hsp : Int.sign p.num = 1) (sc : Int) (hsc : Int.sign (l - m).num = sc) (ksc : ¬ 0 < sc) :
  Calls Tryz.prog 41 #[v, u, s, t] w fun e w' => (∃ v', e = .returned (.tuple #[.int .i64 (clsS a p l m 64 1 : Nat), v', .int .i64 (cE (clsS a p l m 64 1))]) ∧ RdQ w' v' (cV a p (clsS a p l m 64 1))) ∧ Below w.heap.size w w' := by
 have HQ0 := h0d hq0
 have HQ1 := h0d hq1
 have HQ2 := h0d hq2
 have HQ3 := h0d hq3
 clear hq0 hq1 hq2 hq3
 have Hsa := h0d hsa
 clear hsa
 have Hsp := h0d hsp
 clear hsp
 have Hsc := h0d hsc
 clear hsc
 obtain ⟨gp0a, Ap0a, kp0a, cp0a, Ap0b, kp0b, cp0b, rfl, hv⟩ := hv.open
 have HX0 := h0d hv
 clear hv
 obtain ⟨gp1a, Ap1a, kp1a, cp1a, Ap1b, kp1b, cp1b, rfl, hu⟩ := hu.open
 have HX1 := h0d hu
 clear hu
 obtain ⟨gp2a, Ap2a, kp2a, cp2a, Ap2b, kp2b, cp2b, rfl, hs⟩ := hs.open
 have HX2 := h0d hs
 clear hs
 obtain ⟨gp3a, Ap3a, kp3a, cp3a, Ap3b, kp3b, cp3b, rfl, ht⟩ := ht.open
 have HX3 := h0d ht
 clear ht
 go_enter Tryz.func41, Tryz.ntmps41
 obtain ⟨W1, HW1, HB2, s1w, j1⟩ := st_al0 w #[.bool gp0a, .slice Ap0a kp0a cp0a, .slice Ap0b kp0b cp0b] 32
 have HBw := h0d j1
 obtain ⟨W3, HW3, HB4, s3w, j2⟩ := st_alk 1 2 #[.bool gp1a, .slice Ap1a kp1a cp1a, .slice Ap1b kp1b cp1b] 32 s1w rfl
 obtain ⟨W5, HW5, HB6, s5w, j3⟩ := st_alk 2 3 #[.bool gp2a, .slice Ap2a kp2a cp2a, .slice Ap2b kp2b cp2b] 32 s3w rfl
 obtain ⟨W7, HW7, HB8, s7w, j4⟩ := st_alk 3 4 #[.bool gp3a, .slice Ap3a kp3a cp3a, .slice Ap3b kp3b cp3b] 32 s5w rfl
 obtain ⟨W9, HW9, HB10, s9w, j5⟩ := st_alk 4 5 #[.bool false, .slice none 0 0, .slice none 0 0] 32 s7w rfl
 have n2b10 : Hid (w.heap.size ≠ w.heap.size + 4) := by show _ ≠ _; omega
 have n4b10 : Hid (w.heap.size + 1 ≠ w.heap.size + 4) := by show _ ≠ _; omega
 have n6b10 : Hid (w.heap.size + 2 ≠ w.heap.size + 4) := by show _ ≠ _; omega
 have n8b10 : Hid (w.heap.size + 3 ≠ w.heap.size + 4) := by show _ ≠ _; omega
 have l10b : Hid (w.heap.size ≤ w.heap.size + 4) := by show _ ≤ _; omega
 go_wp2_with fail
 rw [← HW1.out, ← HW3.out, ← HW5.out, ← HW7.out, ← HW9.out]
 have jm1 := tt (tt (tt j2 j3) j4) j5
 replace HBw := kU HBw jm1
 replace HX0 := kV HBw.out HX0
 refine mV (sign_is _ a 1 _ HX0.out Hsa.out) fun w1 j1c => ?_
 have jm2 := tt (tt (tt j3 j4) j5) j1c
 replace HB4 := kB HB4 jm2
 have c11 := kC HB4 0 rfl
 have c12 := kC HB4 1 rfl
 have c13 := kC HB4 2 rfl
 go_wp2_with fail
 clear c11 c12 c13
 replace HBw := kU HBw j1c
 replace HX1 := kV HBw.out HX1
 refine mV (sign_is _ p 1 _ HX1.out Hsp.out) fun w2 j2c => ?_
 have jm3 := tt (tt (tt j4 j5) j1c) j2c
 replace HB6 := kB HB6 jm3
 have c14 := kC HB6 0 rfl
 have c15 := kC HB6 1 rfl
 have c16 := kC HB6 2 rfl
 have jm4 := tt (tt j5 j1c) j2c
 replace HB8 := kB HB8 jm4
 have c17 := kC HB8 0 rfl
 have c18 := kC HB8 1 rfl
 have c19 := kC HB8 2 rfl
 go_wp2_with fail
 clear c14 c15 c16 c17 c18 c19
 replace HBw := kU HBw j2c
 replace HX2 := kV HBw.out HX2
 replace HX3 := kV HBw.out HX3
 refine mV (cmp_is _ _ l m sc _ HX2.out HX3.out (HQ2.out.up (by omega)) (HQ3.out.up (by omega)) Hsc.out) fun w3 j3c => ?_
 go_wp2_with fail
 have jm5 := tt (tt j1c j2c) j3c
 replace HX0 := kV jm5 HX0
 have jm6 := tt j2c j3c
 replace HX1 := kV jm6 HX1
 replace HX2 := kV j3c HX2
 replace HX3 := kV j3c HX3
 replace HBw := kU HBw j3c
 have jm7 := tt (tt (tt jm1 j1c) j2c) j3c
 replace HB2 := kB HB2 jm7
 replace HB4 := kB HB4 jm6
 replace HB6 := kB HB6 j3c
 replace HB8 := kB HB8 j3c
 replace HB10 := kB HB10 jm5
 go_loopw [11] (fun iv wr => ∃ k : Nat, 1 ≤ k ∧ k ≤ 65 ∧ iv = .int .i64 (k : Int) ∧ Hid (clsS a p l m 64 1 = clsS a p l m (65 - k) k) ∧ Hid (wr.heap[w.heap.size]? = some (.cells #[.bool gp0a, .slice Ap0a kp0a cp0a, .slice Ap0b kp0b cp0b] 32 (0, 0))) ∧ Hid (wr.heap[w.heap.size + 1]? = some (.cells #[.bool gp1a, .slice Ap1a kp1a cp1a, .slice Ap1b kp1b cp1b] 32 (0, 0))) ∧ Hid (wr.heap[w.heap.size + 2]? = some (.cells #[.bool gp2a, .slice Ap2a kp2a cp2a, .slice Ap2b kp2b cp2b] 32 (0, 0))) ∧ Hid (wr.heap[w.heap.size + 3]? = some (.cells #[.bool gp3a, .slice Ap3a kp3a cp3a, .slice Ap3b kp3b cp3b] 32 (0, 0))) ∧ Hid (wr.heap[w.heap.size + 4]? = some (.cells #[.bool false, .slice none 0 0, .slice none 0 0] 32 (0, 0))) ∧ Hid (RdQ wr (.agg #[.bool gp0a, .slice Ap0a kp0a cp0a, .slice Ap0b kp0b cp0b]) a) ∧ Hid (RdQ wr (.agg #[.bool gp1a, .slice Ap1a kp1a cp1a, .slice Ap1b kp1b cp1b]) p) ∧ Hid (RdQ wr (.agg #[.bool gp2a, .slice Ap2a kp2a cp2a, .slice Ap2b kp2b cp2b]) l) ∧ Hid (RdQ wr (.agg #[.bool gp3a, .slice Ap3a kp3a cp3a, .slice Ap3b kp3b cp3b]) m) ∧ Hid (Below w.heap.size w wr)) (fun iv _ => 65 - (intOf iv).toNat)
 case atStart => exact ⟨1, by omega, by omega, rfl, rfl, HB2, HB4, HB6, HB8, HB10, HX0, HX1, HX2, HX3, HBw⟩
 case round =>
  clear HB2 HB4 HB6 HB8 HB10 HX0 HX1 HX2 HX3 HBw
  obtain ⟨k, hk1, hk, rfl, HK, HB2, HB4, HB6, HB8, HB10, HX0, HX1, HX2, HX3, HBw⟩ := hrel
  by_cases hlt : k ≤ 64
  ·have hki : (k : Int) ≤ 64 := by omega
   have hwk : IntKind.i64.wrap ((k : Int) + 1) = ((k + 1 : Nat) : Int) := by rw [IntWalk.i64_in _ (by omega)]; omega
   have HKN : Hid (((k : Int) : Rat) ≠ 0) := by show _ ≠ _; have hk0 : (k : Int) ≠ 0 := (by omega); exact_mod_cast hk0
   have HKB : Hid (1 ≤ k ∧ k ≤ 64) := ⟨hk1, hlt⟩
   have HQK : Hid (QS 1 ((k : Int) : Rat)) := qs_int (by omega) (by omega)
   have HQO : Hid (QS 3000 (ovl a p k)) := (sub_sizes HQ1.out (HQ0.out.div HQK.out HKN.out)).up (by omega)
   obtain ⟨o, ho⟩ : ∃ o, o = ovl a p k := ⟨_, rfl⟩
   have HO := h0d ho
   rw [← ho] at HQO
   clear hlt ho hk
   go_wp2_with fail
   obtain ⟨W20, hW20⟩ : ∃ W, W = wr.drew := ⟨_, rfl⟩
   have j6 : Below wr.heap.size wr W20 := by rw [hW20]; exact (Below.refl _ _).drew
   replace HB4 := kB HB4 j6
   replace HB2 := kB HB2 j6
   refine seq_start (S := fun w' => w'.cell? ⟨w.heap.size + 1, 0, none⟩ = some (.bool gp1a) ∧ w'.cell? ⟨w.heap.size + 1, 1, none⟩ = some (.slice Ap1a kp1a cp1a) ∧ w'.cell? ⟨w.heap.size + 1, 2, none⟩ = some (.slice Ap1b kp1b cp1b) ∧ w'.cell? ⟨w.heap.size, 0, none⟩ = some (.bool gp0a) ∧ w'.cell? ⟨w.heap.size, 1, none⟩ = some (.slice Ap0a kp0a cp0a) ∧ w'.cell? ⟨w.heap.size, 2, none⟩ = some (.slice Ap0b kp0b cp0b)) (by kernel_rfl) (by kernel_rfl) (by rw [← hW20]; exact ⟨kD HB4 0, kD HB4 1, kD HB4 2, kD HB2 0, kD HB2 1, kD HB2 2⟩) ?_
   rw [← hW20]
   clear hW20
   replace HBw := kU HBw j6
   have y1b2 := klt HB2
   have y1b4 := klt HB4
   replace HB6 := kB HB6 j6
   have y1b6 := klt HB6
   replace HB8 := kB HB8 j6
   have y1b8 := klt HB8
   replace HB10 := kB HB10 j6
   have y1b10 := klt HB10
   have l1w := ksz HBw
   have HSR1 : Hid (∀ w', Below W20.heap.size W20 w' → w'.cell? ⟨w.heap.size + 1, 0, none⟩ = some (.bool gp1a) ∧ w'.cell? ⟨w.heap.size + 1, 1, none⟩ = some (.slice Ap1a kp1a cp1a) ∧ w'.cell? ⟨w.heap.size + 1, 2, none⟩ = some (.slice Ap1b kp1b cp1b) ∧ w'.cell? ⟨w.heap.size, 0, none⟩ = some (.bool gp0a) ∧ w'.cell? ⟨w.heap.size, 1, none⟩ = some (.slice Ap0a kp0a cp0a) ∧ w'.cell? ⟨w.heap.size, 2, none⟩ = some (.slice Ap0b kp0b cp0b)) := fun w' hb => ⟨kD (kB HB4 hb) 0, kD (kB HB4 hb) 1, kD (kB HB4 hb) 2, kD (kB HB2 hb) 0, kD (kB HB2 hb) 1, kD (kB HB2 hb) 2⟩
   iterate 3 refine tk0 (h := ?_)
   refine plq 3 (h := ?_)
   refine fStart (fs := [⟨_, 32, [.bool false, .slice none 0 0, .slice none 0 0], _⟩]) (h := fun st HFz => ?_)
   refine nrm (hb := by first | (simp only [puts, Act.put, List.setIfInBounds_toArray, List.set_cons_zero, List.set_cons_succ]; rfl)) (h := ?_)
   refine fOp HFz HSR1.out (h := fun st z21 j7 HFz K9 hK9 => ?_)
   go_simp
   refine mQ (int_any (k : Int) _ (by omega) (by omega)) fun w4 g4a A4a k4a c4a A4b k4b c4b HR4 j4c => ?_
   replace HFz := h0d (HFz.out.below j4c)
   refine ckk hK9 (by exact HSR1.out _ HFz.out.bel) (h := ?_)
   clear hK9 K9
   refine fOp HFz HSR1.out (h := fun st z22 j8 HFz K9 hK9 => ?_)
   go_simp
   have jm8 := tt (tt (tt j6 j7) j4c) j8
   replace HX0 := kV jm8 HX0
   replace HR4 := kV j8 HR4
   refine mQ (ratioB_any _ _ a ((k : Int) : Rat) _ HX0.out HR4.out HKN.out (HQ0.out.up (by omega)) (HQK.out.up (by omega))) fun w5 g5a A5a k5a c5a A5b k5b c5b HR5 j5c => ?_
   replace HFz := h0d (HFz.out.below j5c)
   refine ckk hK9 (by exact HSR1.out _ HFz.out.bel) (h := ?_)
   clear hK9 K9
   refine fOp HFz HSR1.out (h := fun st z23 j9 HFz K9 hK9 => ?_)
   go_simp
   have jm9 := tt (tt jm8 j5c) j9
   replace HX1 := kV jm9 HX1
   replace HR5 := kV j9 HR5
   refine mQ (sub_any _ _ p (a / ((k : Int) : Rat)) _ HX1.out HR5.out (HQ1.out.up (by omega)) ((HQ0.out.div HQK.out HKN.out).up (by omega))) fun w6 g6a A6a k6a c6a A6b k6b c6b HR6 j6c => ?_
   have hq3 : p - a / ((k : Int) : Rat) = o := HO.out.symm
   rw [hq3] at HR6
   clear hq3
   replace HFz := h0d (HFz.out.below j6c)
   refine ckk hK9 (by exact HSR1.out _ HFz.out.bel) (h := ?_)
   clear hK9 K9
   refine fEnd HFz HSR1.out (h := fun st z24 j10 HFz hst => ?_)
   obtain ⟨g1_0, e0⟩ := hst 0 nlt
   refine nrm (hb := by simp only [e0, pv]; rfl) (h := ?_)
   have HB25 : Hid (z24.heap[g1_0]? = some (.cells #[.bool false, .slice none 0 0, .slice none 0 0] 32 (0, 0))) := (HFz.out.blk 0 _ g1_0 rfl e0).2
   have n2b25 := kne y1b2 HFz e0
   have n4b25 := kne y1b4 HFz e0
   have n6b25 := kne y1b6 HFz e0
   have n8b25 := kne y1b8 HFz e0
   have n10b25 := kne y1b10 HFz e0
   have l25b := kle l1w HFz e0
   clear HFz hst e0
   refine sop (h := fun K9 hK9 => ?_)
   have t26h := kth 0 3 HB25
   refine smw 32 (g1_0) 0 (ht := by exact t26h) (h := ?_)
   obtain ⟨W27, HW27⟩ : ∃ W, Hid (W = z24.setCells (g1_0) 0 [.bool g6a, .slice A6a k6a c6a, .slice A6b k6b c6b]) := ⟨_, rfl⟩
   have TW27 := kN (kM HW27) HB25 rfl rfl
   replace HB25 := kPf (kM HW27) HB25 rfl
   rw [← HW27.out]
   have jm10 := tt (tt (tt (tt (tt (tt j7 j4c) j8) j5c) j9) j6c) j10
   replace HB4 := kO (kM HW27) (kB HB4 jm10) n4b25.out
   replace HB2 := kO (kM HW27) (kB HB2 jm10) n2b25.out
   refine ckk hK9 (by exact ⟨kD HB4 0, kD HB4 1, kD HB4 2, kD HB2 0, kD HB2 1, kD HB2 2⟩) (h := ?_)
   clear hK9 K9 t26h
   refine seq_done (by kernel_rfl) ?_
   replace HB6 := kO (kM HW27) (kB HB6 jm10) n6b25.out
   replace HB8 := kO (kM HW27) (kB HB8 jm10) n8b25.out
   replace HB10 := kO (kM HW27) (kB HB10 jm10) n10b25.out
   have jm11 := tt (tt (tt j5c j9) j6c) j10
   replace HX0 := kW TW27 (kV jm11 HX0)
   have jm12 := tt j6c j10
   replace HX1 := kW TW27 (kV jm12 HX1)
   have jm13 := tt j6 jm10
   replace HX2 := kW TW27 (kV jm13 HX2)
   replace HX3 := kW TW27 (kV jm13 HX3)
   replace HBw := kS (kM HW27) l25b (kU HBw jm10)
   replace HR4 := kW TW27 (kV jm11 HR4)
   replace HR5 := kW TW27 (kV jm12 HR5)
   replace HR6 := kW TW27 (kV j10 HR6)
   have HC1 : Hid (Int.sign (o - l).num = Int.sign (o - l).num) := rfl
   have HC2 : Hid (Int.sign (o - m).num = Int.sign (o - m).num) := rfl
   have hs1 := sgn_nn (o - l)
   have hs2 := sgn_np (o - m)
   obtain ⟨c1, hc1⟩ : ∃ c, c = Int.sign (o - l).num := ⟨_, rfl⟩
   obtain ⟨c2, hc2⟩ : ∃ c, c = Int.sign (o - m).num := ⟨_, rfl⟩
   replace HC1 : Hid (Int.sign (o - l).num = c1) := hc1.symm
   replace HC2 : Hid (Int.sign (o - m).num = c2) := hc2.symm
   rw [← hc1] at hs1
   rw [← hc2] at hs2
   by_cases k1 : 0 ≤ c1
   rotate_left
   ·have HK2 : Hid (clsS a p l m 64 1 = clsS a p l m (65 - (k + 1)) (k + 1)) := HK.out.trans (cls_no HKB.out.2 (by rw [← HO.out]; intro hh; exact k1 (hs1.2 (by grind))))
    clear hs1 hs2 hc1 hc2 HK
    have c28 := kC HB25 0 rfl
    have c29 := kC HB25 1 rfl
    have c30 := kC HB25 2 rfl
    have c31 := kC HB6 0 rfl
    have c32 := kC HB6 1 rfl
    have c33 := kC HB6 2 rfl
    go_wp2_with fail
    clear c28 c29 c30 c31 c32 c33
    refine mV (cmp_is _ _ o l c1 _ HR6.out HX2.out (HQO.out.up (by omega)) (HQ2.out.up (by omega)) HC1.out) fun w7 j7c => ?_
    go_wp2_with fail
    replace HB2 := kB HB2 j7c
    replace HB4 := kB HB4 j7c
    replace HB6 := kB HB6 j7c
    replace HB8 := kB HB8 j7c
    replace HB10 := kB HB10 j7c
    replace HX0 := kV j7c HX0
    replace HX1 := kV j7c HX1
    replace HX2 := kV j7c HX2
    replace HX3 := kV j7c HX3
    replace HBw := kU HBw j7c
    replace HR4 := kV j7c HR4
    replace HR5 := kV j7c HR5
    replace HR6 := kV j7c HR6
    replace HB25 := kB HB25 j7c
    go_roundw
    case rel => exact ⟨k + 1, by omega, by have := HKB.out; omega, by go_num, HK2, HB2, HB4, HB6, HB8, HB10, HX0, HX1, HX2, HX3, HBw⟩
    case measure => have := HKB.out; simp [intOf]; omega
   by_cases k2 : c2 ≤ 0
   rotate_left
   ·have HK2 : Hid (clsS a p l m 64 1 = clsS a p l m (65 - (k + 1)) (k + 1)) := HK.out.trans (cls_no HKB.out.2 (by rw [← HO.out]; intro hh; exact k2 (hs2.2 (by grind))))
    clear hs1 hs2 hc1 hc2 HK
    have c28 := kC HB25 0 rfl
    have c29 := kC HB25 1 rfl
    have c30 := kC HB25 2 rfl
    have c31 := kC HB6 0 rfl
    have c32 := kC HB6 1 rfl
    have c33 := kC HB6 2 rfl
    go_wp2_with fail
    clear c28 c29 c30 c31 c32 c33
    refine mV (cmp_is _ _ o l c1 _ HR6.out HX2.out (HQO.out.up (by omega)) (HQ2.out.up (by omega)) HC1.out) fun w7 j7c => ?_
    replace HB25 := kB HB25 j7c
    have c34 := kC HB25 0 rfl
    have c35 := kC HB25 1 rfl
    have c36 := kC HB25 2 rfl
    replace HB8 := kB HB8 j7c
    have c37 := kC HB8 0 rfl
    have c38 := kC HB8 1 rfl
    have c39 := kC HB8 2 rfl
    go_wp2_with fail
    clear c34 c35 c36 c37 c38 c39
    replace HR6 := kV j7c HR6
    replace HX3 := kV j7c HX3
    refine mV (cmp_is _ _ o m c2 _ HR6.out HX3.out (HQO.out.up (by omega)) (HQ3.out.up (by omega)) HC2.out) fun w8 j8c => ?_
    go_wp2_with fail
    have jm14 := tt j7c j8c
    replace HB2 := kB HB2 jm14
    replace HB4 := kB HB4 jm14
    replace HB6 := kB HB6 jm14
    replace HB8 := kB HB8 j8c
    replace HB10 := kB HB10 jm14
    replace HX0 := kV jm14 HX0
    replace HX1 := kV jm14 HX1
    replace HX2 := kV jm14 HX2
    replace HX3 := kV j8c HX3
    replace HBw := kU HBw jm14
    replace HR4 := kV jm14 HR4
    replace HR5 := kV jm14 HR5
    replace HR6 := kV j8c HR6
    replace HB25 := kB HB25 j8c
    go_roundw
    case rel => exact ⟨k + 1, by omega, by have := HKB.out; omega, by go_num, HK2, HB2, HB4, HB6, HB8, HB10, HX0, HX1, HX2, HX3, HBw⟩
    case measure => have := HKB.out; simp [intOf]; omega
   ·have HK2 : Hid (clsS a p l m 64 1 = k) := HK.out.trans (cls_yes HKB.out.2 (by rw [← HO.out]; have := hs1.1 k1; grind) (by rw [← HO.out]; have := hs2.1 k2; grind))
    clear hs1 hs2 hc1 hc2 HK
    have c28 := kC HB25 0 rfl
    have c29 := kC HB25 1 rfl
    have c30 := kC HB25 2 rfl
    have c31 := kC HB6 0 rfl
    have c32 := kC HB6 1 rfl
    have c33 := kC HB6 2 rfl
    go_wp2_with fail
    clear c28 c29 c30 c31 c32 c33
    refine mV (cmp_is _ _ o l c1 _ HR6.out HX2.out (HQO.out.up (by omega)) (HQ2.out.up (by omega)) HC1.out) fun w7 j7c => ?_
    replace HB25 := kB HB25 j7c
    have c34 := kC HB25 0 rfl
    have c35 := kC HB25 1 rfl
    have c36 := kC HB25 2 rfl
    replace HB8 := kB HB8 j7c
    have c37 := kC HB8 0 rfl
    have c38 := kC HB8 1 rfl
    have c39 := kC HB8 2 rfl
    go_wp2_with fail
    clear c34 c35 c36 c37 c38 c39
    replace HR6 := kV j7c HR6
    replace HX3 := kV j7c HX3
    refine mV (cmp_is _ _ o m c2 _ HR6.out HX3.out (HQO.out.up (by omega)) (HQ3.out.up (by omega)) HC2.out) fun w8 j8c => ?_
    go_wp2_with fail
    obtain ⟨W40, hW40⟩ : ∃ W, W = w8.drew := ⟨_, rfl⟩
    have j11 : Below w8.heap.size w8 W40 := by rw [hW40]; exact (Below.refl _ _).drew
    have jm14 := tt j8c j11
    replace HB25 := kB HB25 jm14
    refine seq_start (S := fun w' => w'.cell? ⟨g1_0, 0, none⟩ = some (.bool g6a) ∧ w'.cell? ⟨g1_0, 1, none⟩ = some (.slice A6a k6a c6a) ∧ w'.cell? ⟨g1_0, 2, none⟩ = some (.slice A6b k6b c6b)) (by kernel_rfl) (by kernel_rfl) (by rw [← hW40]; exact ⟨kD HB25 0, kD HB25 1, kD HB25 2⟩) ?_
    rw [← hW40]
    clear hW40
    iterate 3 refine tk0 (h := ?_)
    refine sop (h := fun K9 hK9 => ?_)
    have jm15 := tt j7c jm14
    replace HB10 := kB HB10 jm15
    have t41h := kth 0 3 HB10
    refine smw 32 (w.heap.size + 4) 0 (ht := by exact t41h) (h := ?_)
    obtain ⟨W42, HW42⟩ : ∃ W, Hid (W = W40.setCells (w.heap.size + 4) 0 [.bool g6a, .slice A6a k6a c6a, .slice A6b k6b c6b]) := ⟨_, rfl⟩
    have TW42 := kN (kM HW42) HB10 rfl rfl
    replace HB10 := kPf (kM HW42) HB10 rfl
    rw [← HW42.out]
    replace HB25 := kO (kM HW42) HB25 n10b25.out.symm
    refine ckk hK9 (by exact ⟨kD HB25 0, kD HB25 1, kD HB25 2⟩) (h := ?_)
    clear hK9 K9 t41h
    refine tk0 (h := ?_)
    refine seq_done (by kernel_rfl) ?_
    go_wp2_with fail
    replace HB2 := kO (kM HW42) (kB HB2 jm15) n2b10.out
    replace HB4 := kO (kM HW42) (kB HB4 jm15) n4b10.out
    replace HB6 := kO (kM HW42) (kB HB6 jm15) n6b10.out
    replace HB8 := kO (kM HW42) (kB HB8 jm14) n8b10.out
    replace HX0 := kW TW42 (kV jm15 HX0)
    replace HX1 := kW TW42 (kV jm15 HX1)
    replace HX2 := kW TW42 (kV jm15 HX2)
    replace HX3 := kW TW42 (kV jm14 HX3)
    replace HBw := kS (kM HW42) l10b (kU HBw jm15)
    replace HR4 := kW TW42 (kV jm15 HR4)
    replace HR5 := kW TW42 (kV jm15 HR5)
    replace HR6 := kW TW42 (kV jm14 HR6)
    have hne : ¬ k = 0 := by have := HKB.out; omega
    exact bodyPost_ret (v := .tuple #[.int .i64 (k : Int), .agg #[.bool g6a, .slice A6a k6a c6a, .slice A6b k6b c6b], .int .i64 0]) (results_tct rfl (by rfl) (blk_all HB10.out) Tryz.underlying32 rfl (by kernel_rfl) (by rfl) (by rfl)) rfl ⟨⟨_, (by unfold cE; rw [HK2.out, if_neg hne]), by unfold cV; rw [HK2.out, if_neg hne, ← HO.out]; exact HR6.out⟩, HBw.out⟩
  ·obtain rfl : k = 65 := by omega
   have HK2 : Hid (clsS a p l m 64 1 = 0) := HK.out
   clear hlt hk hk1 HK
   have t20h := kth 0 3 HB10
   obtain ⟨W21, HW21⟩ : ∃ W, Hid (W = wr.setCells (w.heap.size + 4) 0 [.bool false, .slice none 0 0, .slice none 0 0]) := ⟨_, rfl⟩
   have TW21 := kN (kM HW21) HB10 rfl rfl
   replace HB10 := kPf (kM HW21) HB10 rfl
   go_wp2_with (refine smd 32 (w.heap.size + 4) 0 (ht := by exact t20h) (h := ?_))
   rw [← HW21.out]
   clear t20h
   replace HB2 := kO (kM HW21) HB2 n2b10.out
   replace HB4 := kO (kM HW21) HB4 n4b10.out
   replace HB6 := kO (kM HW21) HB6 n6b10.out
   replace HB8 := kO (kM HW21) HB8 n8b10.out
   replace HX0 := kW TW21 HX0
   replace HX1 := kW TW21 HX1
   replace HX2 := kW TW21 HX2
   replace HX3 := kW TW21 HX3
   replace HBw := kS (kM HW21) l10b HBw
   exact bodyPost_ret (v := .tuple #[.int .i64 0, .agg #[.bool false, .slice none 0 0, .slice none 0 0], .int .i64 5]) (results_tct rfl (by rfl) (blk_all HB10.out) Tryz.underlying32 rfl (by kernel_rfl) (by rfl) (by rfl)) rfl ⟨⟨_, (by unfold cE; rw [HK2.out, if_pos rfl]; rfl), by unfold cV; rw [HK2.out, if_pos rfl]; exact RdQ.nil0 _⟩, HBw.out⟩
theorem rclose_1 (v u s t : Value) (a p l m : Rat) (w : World) (hv : RdF w v a) (hu : RdF w u p) (hs : RdF w s l) (ht : RdF w t m) (hq0 : QS 1000 a) (hq1 : QS 1000 p) (hq2 : QS 1000 l) (hq3 : QS 1000 m) (sa : Int) (hsa : Int.sign a.num = sa) (ksa : sa ≤ 0) :
  Calls Tryz.prog 42 #[v, u, s, t] w fun e w' => (∃ v', e = .returned (.tuple #[.int .i64 0, v', .int .i64 1]) ∧ RdF w' v' 0) ∧ Below w.heap.size w w' := by
 have HQ0 := h0d hq0
 have HQ1 := h0d hq1
 have HQ2 := h0d hq2
 have HQ3 := h0d hq3
 clear hq0 hq1 hq2 hq3
 have Hsa := h0d hsa
 clear hsa
 obtain ⟨gp0a, Ap0a, kp0a, cp0a, Ap0b, kp0b, cp0b, rfl, hv⟩ := hv.open
 have HX0 := h0d hv
 clear hv
 obtain ⟨gp1a, Ap1a, kp1a, cp1a, Ap1b, kp1b, cp1b, rfl, hu⟩ := hu.open
 have HX1 := h0d hu
 clear hu
 obtain ⟨gp2a, Ap2a, kp2a, cp2a, Ap2b, kp2b, cp2b, rfl, hs⟩ := hs.open
 have HX2 := h0d hs
 clear hs
 obtain ⟨gp3a, Ap3a, kp3a, cp3a, Ap3b, kp3b, cp3b, rfl, ht⟩ := ht.open
 have HX3 := h0d ht
 clear ht
 go_enter Tryz.func42, Tryz.ntmps42
 obtain ⟨W1, HW1, HB2, s1w, j1⟩ := st_al0 w #[.bool gp0a, .slice Ap0a kp0a cp0a, .slice Ap0b kp0b cp0b] 40
 have HBw := h0d j1
 obtain ⟨W3, HW3, HB4, s3w, j2⟩ := st_alk 1 2 #[.bool gp1a, .slice Ap1a kp1a cp1a, .slice Ap1b kp1b cp1b] 40 s1w rfl
 obtain ⟨W5, HW5, HB6, s5w, j3⟩ := st_alk 2 3 #[.bool gp2a, .slice Ap2a kp2a cp2a, .slice Ap2b kp2b cp2b] 40 s3w rfl
 obtain ⟨W7, HW7, HB8, s7w, j4⟩ := st_alk 3 4 #[.bool gp3a, .slice Ap3a kp3a cp3a, .slice Ap3b kp3b cp3b] 40 s5w rfl
 obtain ⟨W9, HW9, HB10, s9w, j5⟩ := st_alk 4 5 #[.bool false, .slice none 0 0, .slice none 0 0] 40 s7w rfl
 have l10b : Hid (w.heap.size ≤ w.heap.size + 4) := by show _ ≤ _; omega
 go_wp2_with fail
 rw [← HW1.out, ← HW3.out, ← HW5.out, ← HW7.out, ← HW9.out]
 have jm1 := tt (tt (tt j2 j3) j4) j5
 replace HBw := kU HBw jm1
 replace HX0 := kV HBw.out HX0
 refine mV (rsign_is _ a sa _ HX0.out Hsa.out) fun w1 j1c => ?_
 go_wp2_with fail
 refine mQ (r5zero_any _) fun w2 g2a A2a k2a c2a A2b k2b c2b HR2 j2c => ?_
 have jm2 := tt j1c j2c
 replace HB10 := kB HB10 jm2
 have t11h := kth 0 3 HB10
 obtain ⟨W12, HW12⟩ : ∃ W, Hid (W = w2.setCells (w.heap.size + 4) 0 [.bool g2a, .slice A2a k2a c2a, .slice A2b k2b c2b]) := ⟨_, rfl⟩
 have TW12 := kN (kM HW12) HB10 rfl rfl
 replace HB10 := kPf (kM HW12) HB10 rfl
 go_wp2_with (refine smd 40 (w.heap.size + 4) 0 (ht := by exact t11h) (h := ?_))
 rw [← HW12.out]
 clear t11h
 replace HR2 := kW TW12 HR2
 replace HBw := kS (kM HW12) l10b (kU HBw jm2)
 exact bodyPost_ret (v := .tuple #[.int .i64 0, .agg #[.bool g2a, .slice A2a k2a c2a, .slice A2b k2b c2b], .int .i64 1]) (results_tct rfl (by rfl) (blk_all HB10.out) Tryz.underlying40 rfl (by kernel_rfl) (by rfl) (by rfl)) rfl ⟨⟨_, rfl, HR2.out⟩, HBw.out⟩
theorem rclose_2 (v u s t : Value) (a p l m : Rat) (w : World) (hv : RdF w v a) (hu : RdF w u p) (hs : RdF w s l) (ht : RdF w t m) (hq0 : QS 1000 a) (hq1 : QS 1000 p) (hq2 : QS 1000 l) (hq3 : QS 1000 m) (hsa : Int.sign a.num = 1) (sp : Int) (hsp : Int.sign p.num = sp) (ksp : sp ≤ 0) :
  Calls Tryz.prog 42 #[v, u, s, t] w fun e w' => (∃ v', e = .returned (.tuple #[.int .i64 0, v', .int .i64 1]) ∧ RdF w' v' 0) ∧ Below w.heap.size w w' := by
 have HQ0 := h0d hq0
 have HQ1 := h0d hq1
 have HQ2 := h0d hq2
 have HQ3 := h0d hq3
 clear hq0 hq1 hq2 hq3
 have Hsa := h0d hsa
 clear hsa
 have Hsp := h0d hsp
 clear hsp
 obtain ⟨gp0a, Ap0a, kp0a, cp0a, Ap0b, kp0b, cp0b, rfl, hv⟩ := hv.open
 have HX0 := h0d hv
 clear hv
 obtain ⟨gp1a, Ap1a, kp1a, cp1a, Ap1b, kp1b, cp1b, rfl, hu⟩ := hu.open
 have HX1 := h0d hu
 clear hu
 obtain ⟨gp2a, Ap2a, kp2a, cp2a, Ap2b, kp2b, cp2b, rfl, hs⟩ := hs.open
 have HX2 := h0d hs
 clear hs
 obtain ⟨gp3a, Ap3a, kp3a, cp3a, Ap3b, kp3b, cp3b, rfl, ht⟩ := ht.open
 have HX3 := h0d ht
 clear ht
 go_enter Tryz.func42, Tryz.ntmps42
 obtain ⟨W1, HW1, HB2, s1w, j1⟩ := st_al0 w #[.bool gp0a, .slice Ap0a kp0a cp0a, .slice Ap0b kp0b cp0b] 40
 have HBw := h0d j1
 obtain ⟨W3, HW3, HB4, s3w, j2⟩ := st_alk 1 2 #[.bool gp1a, .slice Ap1a kp1a cp1a, .slice Ap1b kp1b cp1b] 40 s1w rfl
 obtain ⟨W5, HW5, HB6, s5w, j3⟩ := st_alk 2 3 #[.bool gp2a, .slice Ap2a kp2a cp2a, .slice Ap2b kp2b cp2b] 40 s3w rfl
 obtain ⟨W7, HW7, HB8, s7w, j4⟩ := st_alk 3 4 #[.bool gp3a, .slice Ap3a kp3a cp3a, .slice Ap3b kp3b cp3b] 40 s5w rfl
 obtain ⟨W9, HW9, HB10, s9w, j5⟩ := st_alk 4 5 #[.bool false, .slice none 0 0, .slice none 0 0] 40 s7w rfl
 have l10b : Hid (w.heap.size ≤ w.heap.size + 4) := by show _ ≤ _; omega
 go_wp2_with fail
 rw [← HW1.out, ← HW3.out, ← HW5.out, ← HW7.out, ← HW9.out]
 have jm1 := tt (tt (tt j2 j3) j4) j5
 replace HBw := kU HBw jm1
 replace HX0 := kV HBw.out HX0
 refine mV (rsign_is _ a 1 _ HX0.out Hsa.out) fun w1 j1c => ?_
 have jm2 := tt (tt (tt j3 j4) j5) j1c
 replace HB4 := kB HB4 jm2
 have c11 := kC HB4 0 rfl
 have c12 := kC HB4 1 rfl
 have c13 := kC HB4 2 rfl
 go_wp2_with fail
 clear c11 c12 c13
 replace HBw := kU HBw j1c
 replace HX1 := kV HBw.out HX1
 refine mV (rsign_is _ p sp _ HX1.out Hsp.out) fun w2 j2c => ?_
 go_wp2_with fail
 refine mQ (r5zero_any _) fun w3 g3a A3a k3a c3a A3b k3b c3b HR3 j3c => ?_
 have jm3 := tt (tt j1c j2c) j3c
 replace HB10 := kB HB10 jm3
 have t14h := kth 0 3 HB10
 obtain ⟨W15, HW15⟩ : ∃ W, Hid (W = w3.setCells (w.heap.size + 4) 0 [.bool g3a, .slice A3a k3a c3a, .slice A3b k3b c3b]) := ⟨_, rfl⟩
 have TW15 := kN (kM HW15) HB10 rfl rfl
 replace HB10 := kPf (kM HW15) HB10 rfl
 go_wp2_with (refine smd 40 (w.heap.size + 4) 0 (ht := by exact t14h) (h := ?_))
 rw [← HW15.out]
 clear t14h
 replace HR3 := kW TW15 HR3
 have jm4 := tt j2c j3c
 replace HBw := kS (kM HW15) l10b (kU HBw jm4)
 exact bodyPost_ret (v := .tuple #[.int .i64 0, .agg #[.bool g3a, .slice A3a k3a c3a, .slice A3b k3b c3b], .int .i64 1]) (results_tct rfl (by rfl) (blk_all HB10.out) Tryz.underlying40 rfl (by kernel_rfl) (by rfl) (by rfl)) rfl ⟨⟨_, rfl, HR3.out⟩, HBw.out⟩
theorem rclose_3 (v u s t : Value) (a p l m : Rat) (w : World) (hv : RdF w v a) (hu : RdF w u p) (hs : RdF w s l) (ht : RdF w t m) (hq0 : QS 1000 a) (hq1 : QS 1000 p) (hq2 : QS 1000 l) (hq3 : QS 1000 m) (hsa : Int.sign a.num = 1) (hsp : Int.sign p.num = 1) (hsc : Int.sign (l - m).num = 1) :
  Calls Tryz.prog 42 #[v, u, s, t] w fun e w' => (∃ v', e = .returned (.tuple #[.int .i64 0, v', .int .i64 7]) ∧ RdF w' v' 0) ∧ Below w.heap.size w w' := by
 have HQ0 := h0d hq0
 have HQ1 := h0d hq1
 have HQ2 := h0d hq2
 have HQ3 := h0d hq3
 clear hq0 hq1 hq2 hq3
 have Hsa := h0d hsa
 clear hsa
 have Hsp := h0d hsp
 clear hsp
 have Hsc := h0d hsc
 clear hsc
 obtain ⟨gp0a, Ap0a, kp0a, cp0a, Ap0b, kp0b, cp0b, rfl, hv⟩ := hv.open
 have HX0 := h0d hv
 clear hv
 obtain ⟨gp1a, Ap1a, kp1a, cp1a, Ap1b, kp1b, cp1b, rfl, hu⟩ := hu.open
 have HX1 := h0d hu
 clear hu
 obtain ⟨gp2a, Ap2a, kp2a, cp2a, Ap2b, kp2b, cp2b, rfl, hs⟩ := hs.open
 have HX2 := h0d hs
 clear hs
 obtain ⟨gp3a, Ap3a, kp3a, cp3a, Ap3b, kp3b, cp3b, rfl, ht⟩ := ht.open
 have HX3 := h0d ht
 clear ht
 go_enter Tryz.func42, Tryz.ntmps42
 obtain ⟨W1, HW1, HB2, s1w, j1⟩ := st_al0 w #[.bool gp0a, .slice Ap0a kp0a cp0a, .slice Ap0b kp0b cp0b] 40
 have HBw := h0d j1
 obtain ⟨W3, HW3, HB4, s3w, j2⟩ := st_alk 1 2 #[.bool gp1a, .slice Ap1a kp1a cp1a, .slice Ap1b kp1b cp1b] 40 s1w rfl
 obtain ⟨W5, HW5, HB6, s5w, j3⟩ := st_alk 2 3 #[.bool gp2a, .slice Ap2a kp2a cp2a, .slice Ap2b kp2b cp2b] 40 s3w rfl
 obtain ⟨W7, HW7, HB8, s7w, j4⟩ := st_alk 3 4 #[.bool gp3a, .slice Ap3a kp3a cp3a, .slice Ap3b kp3b cp3b] 40 s5w rfl
 obtain ⟨W9, HW9, HB10, s9w, j5⟩ := st_alk 4 5 #[.bool false, .slice none 0 0, .slice none 0 0] 40 s7w rfl
 have l10b : Hid (w.heap.size ≤ w.heap.size + 4) := by show _ ≤ _; omega
 go_wp2_with fail
 rw [← HW1.out, ← HW3.out, ← HW5.out, ← HW7.out, ← HW9.out]
 have jm1 := tt (tt (tt j2 j3) j4) j5
 replace HBw := kU HBw jm1
 replace HX0 := kV HBw.out HX0
 refine mV (rsign_is _ a 1 _ HX0.out Hsa.out) fun w1 j1c => ?_
 have jm2 := tt (tt (tt j3 j4) j5) j1c
 replace HB4 := kB HB4 jm2
 have c11 := kC HB4 0 rfl
 have c12 := kC HB4 1 rfl
 have c13 := kC HB4 2 rfl
 go_wp2_with fail
 clear c11 c12 c13
 replace HBw := kU HBw j1c
 replace HX1 := kV HBw.out HX1
 refine mV (rsign_is _ p 1 _ HX1.out Hsp.out) fun w2 j2c => ?_
 have jm3 := tt (tt (tt j4 j5) j1c) j2c
 replace HB6 := kB HB6 jm3
 have c14 := kC HB6 0 rfl
 have c15 := kC HB6 1 rfl
 have c16 := kC HB6 2 rfl
 have jm4 := tt (tt j5 j1c) j2c
 replace HB8 := kB HB8 jm4
 have c17 := kC HB8 0 rfl
 have c18 := kC HB8 1 rfl
 have c19 := kC HB8 2 rfl
 go_wp2_with fail
 clear c14 c15 c16 c17 c18 c19
 replace HBw := kU HBw j2c
 replace HX2 := kV HBw.out HX2
 replace HX3 := kV HBw.out HX3
 refine mV (rcmp_is _ _ l m 1 _ HX2.out HX3.out (HQ2.out.rm (by omega)) (HQ3.out.rm (by omega)) Hsc.out) fun w3 j3c => ?_
 go_wp2_with fail
 refine mQ (r5zero_any _) fun w4 g4a A4a k4a c4a A4b k4b c4b HR4 j4c => ?_
 have jm5 := tt (tt (tt j1c j2c) j3c) j4c
 replace HB10 := kB HB10 jm5
 have t20h := kth 0 3 HB10
 obtain ⟨W21, HW21⟩ : ∃ W, Hid (W = w4.setCells (w.heap.size + 4) 0 [.bool g4a, .slice A4a k4a c4a, .slice A4b k4b c4b]) := ⟨_, rfl⟩
 have TW21 := kN (kM HW21) HB10 rfl rfl
 replace HB10 := kPf (kM HW21) HB10 rfl
 go_wp2_with (refine smd 40 (w.heap.size + 4) 0 (ht := by exact t20h) (h := ?_))
 rw [← HW21.out]
 clear t20h
 replace HR4 := kW TW21 HR4
 have jm6 := tt j3c j4c
 replace HBw := kS (kM HW21) l10b (kU HBw jm6)
 exact bodyPost_ret (v := .tuple #[.int .i64 0, .agg #[.bool g4a, .slice A4a k4a c4a, .slice A4b k4b c4b], .int .i64 7]) (results_tct rfl (by rfl) (blk_all HB10.out) Tryz.underlying40 rfl (by kernel_rfl) (by rfl) (by rfl)) rfl ⟨⟨_, rfl, HR4.out⟩, HBw.out⟩
theorem rclose_4 (v u s t : Value) (a p l m : Rat) (w : World) (hv : RdF w v a) (hu : RdF w u p) (hs : RdF w s l) (ht : RdF w t m) (hq0 : QS 1000 a) (hq1 : QS 1000 p) (hq2 : QS 1000 l) (hq3 : QS 1000 m) (hsa : Int.sign a.num = 1) (hsp : Int.sign p.num = 1) (sc : Int) (hsc : Int.sign (l - m).num = sc) (ksc : ¬ 0 < sc) :
  Calls Tryz.prog 42 #[v, u, s, t] w fun e w' => (∃ v', e = .returned (.tuple #[.int .i64 (clsS a p l m 64 1 : Nat), v', .int .i64 (cE (clsS a p l m 64 1))]) ∧ RdF w' v' (cV a p (clsS a p l m 64 1))) ∧ Below w.heap.size w w' := by
 have HQ0 := h0d hq0
 have HQ1 := h0d hq1
 have HQ2 := h0d hq2
 have HQ3 := h0d hq3
 clear hq0 hq1 hq2 hq3
 have Hsa := h0d hsa
 clear hsa
 have Hsp := h0d hsp
 clear hsp
 have Hsc := h0d hsc
 clear hsc
 obtain ⟨gp0a, Ap0a, kp0a, cp0a, Ap0b, kp0b, cp0b, rfl, hv⟩ := hv.open
 have HX0 := h0d hv
 clear hv
 obtain ⟨gp1a, Ap1a, kp1a, cp1a, Ap1b, kp1b, cp1b, rfl, hu⟩ := hu.open
 have HX1 := h0d hu
 clear hu
 obtain ⟨gp2a, Ap2a, kp2a, cp2a, Ap2b, kp2b, cp2b, rfl, hs⟩ := hs.open
 have HX2 := h0d hs
 clear hs
 obtain ⟨gp3a, Ap3a, kp3a, cp3a, Ap3b, kp3b, cp3b, rfl, ht⟩ := ht.open
 have HX3 := h0d ht
 clear ht
 go_enter Tryz.func42, Tryz.ntmps42
 obtain ⟨W1, HW1, HB2, s1w, j1⟩ := st_al0 w #[.bool gp0a, .slice Ap0a kp0a cp0a, .slice Ap0b kp0b cp0b] 40
 have HBw := h0d j1
 obtain ⟨W3, HW3, HB4, s3w, j2⟩ := st_alk 1 2 #[.bool gp1a, .slice Ap1a kp1a cp1a, .slice Ap1b kp1b cp1b] 40 s1w rfl
 obtain ⟨W5, HW5, HB6, s5w, j3⟩ := st_alk 2 3 #[.bool gp2a, .slice Ap2a kp2a cp2a, .slice Ap2b kp2b cp2b] 40 s3w rfl
 obtain ⟨W7, HW7, HB8, s7w, j4⟩ := st_alk 3 4 #[.bool gp3a, .slice Ap3a kp3a cp3a, .slice Ap3b kp3b cp3b] 40 s5w rfl
 obtain ⟨W9, HW9, HB10, s9w, j5⟩ := st_alk 4 5 #[.bool false, .slice none 0 0, .slice none 0 0] 40 s7w rfl
 have n2b10 : Hid (w.heap.size ≠ w.heap.size + 4) := by show _ ≠ _; omega
 have n4b10 : Hid (w.heap.size + 1 ≠ w.heap.size + 4) := by show _ ≠ _; omega
 have n6b10 : Hid (w.heap.size + 2 ≠ w.heap.size + 4) := by show _ ≠ _; omega
 have n8b10 : Hid (w.heap.size + 3 ≠ w.heap.size + 4) := by show _ ≠ _; omega
 have l10b : Hid (w.heap.size ≤ w.heap.size + 4) := by show _ ≤ _; omega
 go_wp2_with fail
 rw [← HW1.out, ← HW3.out, ← HW5.out, ← HW7.out, ← HW9.out]
 have jm1 := tt (tt (tt j2 j3) j4) j5
 replace HBw := kU HBw jm1
 replace HX0 := kV HBw.out HX0
 refine mV (rsign_is _ a 1 _ HX0.out Hsa.out) fun w1 j1c => ?_
 have jm2 := tt (tt (tt j3 j4) j5) j1c
 replace HB4 := kB HB4 jm2
 have c11 := kC HB4 0 rfl
 have c12 := kC HB4 1 rfl
 have c13 := kC HB4 2 rfl
 go_wp2_with fail
 clear c11 c12 c13
 replace HBw := kU HBw j1c
 replace HX1 := kV HBw.out HX1
 refine mV (rsign_is _ p 1 _ HX1.out Hsp.out) fun w2 j2c => ?_
 have jm3 := tt (tt (tt j4 j5) j1c) j2c
 replace HB6 := kB HB6 jm3
 have c14 := kC HB6 0 rfl
 have c15 := kC HB6 1 rfl
 have c16 := kC HB6 2 rfl
 have jm4 := tt (tt j5 j1c) j2c
 replace HB8 := kB HB8 jm4
 have c17 := kC HB8 0 rfl
 have c18 := kC HB8 1 rfl
 have c19 := kC HB8 2 rfl
 go_wp2_with fail
 clear c14 c15 c16 c17 c18 c19
 replace HBw := kU HBw j2c
 replace HX2 := kV HBw.out HX2
 replace HX3 := kV HBw.out HX3
 refine mV (rcmp_is _ _ l m sc _ HX2.out HX3.out (HQ2.out.rm (by omega)) (HQ3.out.rm (by omega)) Hsc.out) fun w3 j3c => ?_
 go_wp2_with fail
 have jm5 := tt (tt j1c j2c) j3c
 replace HX0 := kV jm5 HX0
 have jm6 := tt j2c j3c
 replace HX1 := kV jm6 HX1
 replace HX2 := kV j3c HX2
 replace HX3 := kV j3c HX3
 replace HBw := kU HBw j3c
 have jm7 := tt (tt (tt jm1 j1c) j2c) j3c
 replace HB2 := kB HB2 jm7
 replace HB4 := kB HB4 jm6
 replace HB6 := kB HB6 j3c
 replace HB8 := kB HB8 j3c
 replace HB10 := kB HB10 jm5
 go_loopw [11] (fun iv wr => ∃ k : Nat, 1 ≤ k ∧ k ≤ 65 ∧ iv = .int .i64 (k : Int) ∧ Hid (clsS a p l m 64 1 = clsS a p l m (65 - k) k) ∧ Hid (wr.heap[w.heap.size]? = some (.cells #[.bool gp0a, .slice Ap0a kp0a cp0a, .slice Ap0b kp0b cp0b] 40 (0, 0))) ∧ Hid (wr.heap[w.heap.size + 1]? = some (.cells #[.bool gp1a, .slice Ap1a kp1a cp1a, .slice Ap1b kp1b cp1b] 40 (0, 0))) ∧ Hid (wr.heap[w.heap.size + 2]? = some (.cells #[.bool gp2a, .slice Ap2a kp2a cp2a, .slice Ap2b kp2b cp2b] 40 (0, 0))) ∧ Hid (wr.heap[w.heap.size + 3]? = some (.cells #[.bool gp3a, .slice Ap3a kp3a cp3a, .slice Ap3b kp3b cp3b] 40 (0, 0))) ∧ Hid (wr.heap[w.heap.size + 4]? = some (.cells #[.bool false, .slice none 0 0, .slice none 0 0] 40 (0, 0))) ∧ Hid (RdF wr (.agg #[.bool gp0a, .slice Ap0a kp0a cp0a, .slice Ap0b kp0b cp0b]) a) ∧ Hid (RdF wr (.agg #[.bool gp1a, .slice Ap1a kp1a cp1a, .slice Ap1b kp1b cp1b]) p) ∧ Hid (RdF wr (.agg #[.bool gp2a, .slice Ap2a kp2a cp2a, .slice Ap2b kp2b cp2b]) l) ∧ Hid (RdF wr (.agg #[.bool gp3a, .slice Ap3a kp3a cp3a, .slice Ap3b kp3b cp3b]) m) ∧ Hid (Below w.heap.size w wr)) (fun iv _ => 65 - (intOf iv).toNat)
 case atStart => exact ⟨1, by omega, by omega, rfl, rfl, HB2, HB4, HB6, HB8, HB10, HX0, HX1, HX2, HX3, HBw⟩
 case round =>
  clear HB2 HB4 HB6 HB8 HB10 HX0 HX1 HX2 HX3 HBw
  obtain ⟨k, hk1, hk, rfl, HK, HB2, HB4, HB6, HB8, HB10, HX0, HX1, HX2, HX3, HBw⟩ := hrel
  by_cases hlt : k ≤ 64
  ·have hki : (k : Int) ≤ 64 := by omega
   have hwk : IntKind.i64.wrap ((k : Int) + 1) = ((k + 1 : Nat) : Int) := by rw [IntWalk.i64_in _ (by omega)]; omega
   have HKN : Hid (((k : Int) : Rat) ≠ 0) := by show _ ≠ _; have hk0 : (k : Int) ≠ 0 := (by omega); exact_mod_cast hk0
   have HKB : Hid (1 ≤ k ∧ k ≤ 64) := ⟨hk1, hlt⟩
   have HQK : Hid (QS 1 ((k : Int) : Rat)) := qs_int (by omega) (by omega)
   have HQO : Hid (QS 3000 (ovl a p k)) := (sub_sizes HQ1.out (HQ0.out.div HQK.out HKN.out)).up (by omega)
   obtain ⟨o, ho⟩ : ∃ o, o = ovl a p k := ⟨_, rfl⟩
   have HO := h0d ho
   rw [← ho] at HQO
   clear hlt ho hk
   go_wp2_with fail
   obtain ⟨W20, hW20⟩ : ∃ W, W = wr.drew := ⟨_, rfl⟩
   have j6 : Below wr.heap.size wr W20 := by rw [hW20]; exact (Below.refl _ _).drew
   replace HB4 := kB HB4 j6
   replace HB2 := kB HB2 j6
   refine seq_start (S := fun w' => w'.cell? ⟨w.heap.size + 1, 0, none⟩ = some (.bool gp1a) ∧ w'.cell? ⟨w.heap.size + 1, 1, none⟩ = some (.slice Ap1a kp1a cp1a) ∧ w'.cell? ⟨w.heap.size + 1, 2, none⟩ = some (.slice Ap1b kp1b cp1b) ∧ w'.cell? ⟨w.heap.size, 0, none⟩ = some (.bool gp0a) ∧ w'.cell? ⟨w.heap.size, 1, none⟩ = some (.slice Ap0a kp0a cp0a) ∧ w'.cell? ⟨w.heap.size, 2, none⟩ = some (.slice Ap0b kp0b cp0b)) (by kernel_rfl) (by kernel_rfl) (by rw [← hW20]; exact ⟨kD HB4 0, kD HB4 1, kD HB4 2, kD HB2 0, kD HB2 1, kD HB2 2⟩) ?_
   rw [← hW20]
   clear hW20
   replace HBw := kU HBw j6
   have y1b2 := klt HB2
   have y1b4 := klt HB4
   replace HB6 := kB HB6 j6
   have y1b6 := klt HB6
   replace HB8 := kB HB8 j6
   have y1b8 := klt HB8
   replace HB10 := kB HB10 j6
   have y1b10 := klt HB10
   have l1w := ksz HBw
   have HSR1 : Hid (∀ w', Below W20.heap.size W20 w' → w'.cell? ⟨w.heap.size + 1, 0, none⟩ = some (.bool gp1a) ∧ w'.cell? ⟨w.heap.size + 1, 1, none⟩ = some (.slice Ap1a kp1a cp1a) ∧ w'.cell? ⟨w.heap.size + 1, 2, none⟩ = some (.slice Ap1b kp1b cp1b) ∧ w'.cell? ⟨w.heap.size, 0, none⟩ = some (.bool gp0a) ∧ w'.cell? ⟨w.heap.size, 1, none⟩ = some (.slice Ap0a kp0a cp0a) ∧ w'.cell? ⟨w.heap.size, 2, none⟩ = some (.slice Ap0b kp0b cp0b)) := fun w' hb => ⟨kD (kB HB4 hb) 0, kD (kB HB4 hb) 1, kD (kB HB4 hb) 2, kD (kB HB2 hb) 0, kD (kB HB2 hb) 1, kD (kB HB2 hb) 2⟩
   iterate 3 refine tk0 (h := ?_)
   refine plq 3 (h := ?_)
   refine fStart (fs := [⟨_, 40, [.bool false, .slice none 0 0, .slice none 0 0], _⟩]) (h := fun st HFz => ?_)
   refine nrm (hb := by first | (simp only [puts, Act.put, List.setIfInBounds_toArray, List.set_cons_zero, List.set_cons_succ]; rfl)) (h := ?_)
   refine fOp HFz HSR1.out (h := fun st z21 j7 HFz K9 hK9 => ?_)
   go_simp
   refine mQ (rwhole_any (k : Int) _ (by omega) (by omega)) fun w4 g4a A4a k4a c4a A4b k4b c4b HR4 j4c => ?_
   replace HFz := h0d (HFz.out.below j4c)
   refine ckk hK9 (by exact HSR1.out _ HFz.out.bel) (h := ?_)
   clear hK9 K9
   refine fOp HFz HSR1.out (h := fun st z22 j8 HFz K9 hK9 => ?_)
   go_simp
   have jm8 := tt (tt (tt j6 j7) j4c) j8
   replace HX0 := kV jm8 HX0
   replace HR4 := kV j8 HR4
   refine mQ (rby_any _ _ a ((k : Int) : Rat) _ HX0.out HR4.out HKN.out (HQ0.out.rm (by omega)) (HQK.out.rm (by omega))) fun w5 g5a A5a k5a c5a A5b k5b c5b HR5 j5c => ?_
   replace HFz := h0d (HFz.out.below j5c)
   refine ckk hK9 (by exact HSR1.out _ HFz.out.bel) (h := ?_)
   clear hK9 K9
   refine fOp HFz HSR1.out (h := fun st z23 j9 HFz K9 hK9 => ?_)
   go_simp
   have jm9 := tt (tt jm8 j5c) j9
   replace HX1 := kV jm9 HX1
   replace HR5 := kV j9 HR5
   refine mQ (rsub_any _ _ p (a / ((k : Int) : Rat)) _ HX1.out HR5.out (HQ1.out.rm (by omega)) ((HQ0.out.div HQK.out HKN.out).rm (by omega))) fun w6 g6a A6a k6a c6a A6b k6b c6b HR6 j6c => ?_
   have hq3 : p - a / ((k : Int) : Rat) = o := HO.out.symm
   rw [hq3] at HR6
   clear hq3
   replace HFz := h0d (HFz.out.below j6c)
   refine ckk hK9 (by exact HSR1.out _ HFz.out.bel) (h := ?_)
   clear hK9 K9
   refine fEnd HFz HSR1.out (h := fun st z24 j10 HFz hst => ?_)
   obtain ⟨g1_0, e0⟩ := hst 0 nlt
   refine nrm (hb := by simp only [e0, pv]; rfl) (h := ?_)
   have HB25 : Hid (z24.heap[g1_0]? = some (.cells #[.bool false, .slice none 0 0, .slice none 0 0] 40 (0, 0))) := (HFz.out.blk 0 _ g1_0 rfl e0).2
   have n2b25 := kne y1b2 HFz e0
   have n4b25 := kne y1b4 HFz e0
   have n6b25 := kne y1b6 HFz e0
   have n8b25 := kne y1b8 HFz e0
   have n10b25 := kne y1b10 HFz e0
   have l25b := kle l1w HFz e0
   clear HFz hst e0
   refine sop (h := fun K9 hK9 => ?_)
   have t26h := kth 0 3 HB25
   refine smw 40 (g1_0) 0 (ht := by exact t26h) (h := ?_)
   obtain ⟨W27, HW27⟩ : ∃ W, Hid (W = z24.setCells (g1_0) 0 [.bool g6a, .slice A6a k6a c6a, .slice A6b k6b c6b]) := ⟨_, rfl⟩
   have TW27 := kN (kM HW27) HB25 rfl rfl
   replace HB25 := kPf (kM HW27) HB25 rfl
   rw [← HW27.out]
   have jm10 := tt (tt (tt (tt (tt (tt j7 j4c) j8) j5c) j9) j6c) j10
   replace HB4 := kO (kM HW27) (kB HB4 jm10) n4b25.out
   replace HB2 := kO (kM HW27) (kB HB2 jm10) n2b25.out
   refine ckk hK9 (by exact ⟨kD HB4 0, kD HB4 1, kD HB4 2, kD HB2 0, kD HB2 1, kD HB2 2⟩) (h := ?_)
   clear hK9 K9 t26h
   refine seq_done (by kernel_rfl) ?_
   replace HB6 := kO (kM HW27) (kB HB6 jm10) n6b25.out
   replace HB8 := kO (kM HW27) (kB HB8 jm10) n8b25.out
   replace HB10 := kO (kM HW27) (kB HB10 jm10) n10b25.out
   have jm11 := tt (tt (tt j5c j9) j6c) j10
   replace HX0 := kW TW27 (kV jm11 HX0)
   have jm12 := tt j6c j10
   replace HX1 := kW TW27 (kV jm12 HX1)
   have jm13 := tt j6 jm10
   replace HX2 := kW TW27 (kV jm13 HX2)
   replace HX3 := kW TW27 (kV jm13 HX3)
   replace HBw := kS (kM HW27) l25b (kU HBw jm10)
   replace HR4 := kW TW27 (kV jm11 HR4)
   replace HR5 := kW TW27 (kV jm12 HR5)
   replace HR6 := kW TW27 (kV j10 HR6)
   have HC1 : Hid (Int.sign (o - l).num = Int.sign (o - l).num) := rfl
   have HC2 : Hid (Int.sign (o - m).num = Int.sign (o - m).num) := rfl
   have hs1 := sgn_nn (o - l)
   have hs2 := sgn_np (o - m)
   obtain ⟨c1, hc1⟩ : ∃ c, c = Int.sign (o - l).num := ⟨_, rfl⟩
   obtain ⟨c2, hc2⟩ : ∃ c, c = Int.sign (o - m).num := ⟨_, rfl⟩
   replace HC1 : Hid (Int.sign (o - l).num = c1) := hc1.symm
   replace HC2 : Hid (Int.sign (o - m).num = c2) := hc2.symm
   rw [← hc1] at hs1
   rw [← hc2] at hs2
   by_cases k1 : 0 ≤ c1
   rotate_left
   ·have HK2 : Hid (clsS a p l m 64 1 = clsS a p l m (65 - (k + 1)) (k + 1)) := HK.out.trans (cls_no HKB.out.2 (by rw [← HO.out]; intro hh; exact k1 (hs1.2 (by grind))))
    clear hs1 hs2 hc1 hc2 HK
    have c28 := kC HB25 0 rfl
    have c29 := kC HB25 1 rfl
    have c30 := kC HB25 2 rfl
    have c31 := kC HB6 0 rfl
    have c32 := kC HB6 1 rfl
    have c33 := kC HB6 2 rfl
    go_wp2_with fail
    clear c28 c29 c30 c31 c32 c33
    refine mV (rcmp_is _ _ o l c1 _ HR6.out HX2.out (HQO.out.rm (by omega)) (HQ2.out.rm (by omega)) HC1.out) fun w7 j7c => ?_
    go_wp2_with fail
    replace HB2 := kB HB2 j7c
    replace HB4 := kB HB4 j7c
    replace HB6 := kB HB6 j7c
    replace HB8 := kB HB8 j7c
    replace HB10 := kB HB10 j7c
    replace HX0 := kV j7c HX0
    replace HX1 := kV j7c HX1
    replace HX2 := kV j7c HX2
    replace HX3 := kV j7c HX3
    replace HBw := kU HBw j7c
    replace HR4 := kV j7c HR4
    replace HR5 := kV j7c HR5
    replace HR6 := kV j7c HR6
    replace HB25 := kB HB25 j7c
    go_roundw
    case rel => exact ⟨k + 1, by omega, by have := HKB.out; omega, by go_num, HK2, HB2, HB4, HB6, HB8, HB10, HX0, HX1, HX2, HX3, HBw⟩
    case measure => have := HKB.out; simp [intOf]; omega
   by_cases k2 : c2 ≤ 0
   rotate_left
   ·have HK2 : Hid (clsS a p l m 64 1 = clsS a p l m (65 - (k + 1)) (k + 1)) := HK.out.trans (cls_no HKB.out.2 (by rw [← HO.out]; intro hh; exact k2 (hs2.2 (by grind))))
    clear hs1 hs2 hc1 hc2 HK
    have c28 := kC HB25 0 rfl
    have c29 := kC HB25 1 rfl
    have c30 := kC HB25 2 rfl
    have c31 := kC HB6 0 rfl
    have c32 := kC HB6 1 rfl
    have c33 := kC HB6 2 rfl
    go_wp2_with fail
    clear c28 c29 c30 c31 c32 c33
    refine mV (rcmp_is _ _ o l c1 _ HR6.out HX2.out (HQO.out.rm (by omega)) (HQ2.out.rm (by omega)) HC1.out) fun w7 j7c => ?_
    replace HB25 := kB HB25 j7c
    have c34 := kC HB25 0 rfl
    have c35 := kC HB25 1 rfl
    have c36 := kC HB25 2 rfl
    replace HB8 := kB HB8 j7c
    have c37 := kC HB8 0 rfl
    have c38 := kC HB8 1 rfl
    have c39 := kC HB8 2 rfl
    go_wp2_with fail
    clear c34 c35 c36 c37 c38 c39
    replace HR6 := kV j7c HR6
    replace HX3 := kV j7c HX3
    refine mV (rcmp_is _ _ o m c2 _ HR6.out HX3.out (HQO.out.rm (by omega)) (HQ3.out.rm (by omega)) HC2.out) fun w8 j8c => ?_
    go_wp2_with fail
    have jm14 := tt j7c j8c
    replace HB2 := kB HB2 jm14
    replace HB4 := kB HB4 jm14
    replace HB6 := kB HB6 jm14
    replace HB8 := kB HB8 j8c
    replace HB10 := kB HB10 jm14
    replace HX0 := kV jm14 HX0
    replace HX1 := kV jm14 HX1
    replace HX2 := kV jm14 HX2
    replace HX3 := kV j8c HX3
    replace HBw := kU HBw jm14
    replace HR4 := kV jm14 HR4
    replace HR5 := kV jm14 HR5
    replace HR6 := kV j8c HR6
    replace HB25 := kB HB25 j8c
    go_roundw
    case rel => exact ⟨k + 1, by omega, by have := HKB.out; omega, by go_num, HK2, HB2, HB4, HB6, HB8, HB10, HX0, HX1, HX2, HX3, HBw⟩
    case measure => have := HKB.out; simp [intOf]; omega
   ·have HK2 : Hid (clsS a p l m 64 1 = k) := HK.out.trans (cls_yes HKB.out.2 (by rw [← HO.out]; have := hs1.1 k1; grind) (by rw [← HO.out]; have := hs2.1 k2; grind))
    clear hs1 hs2 hc1 hc2 HK
    have c28 := kC HB25 0 rfl
    have c29 := kC HB25 1 rfl
    have c30 := kC HB25 2 rfl
    have c31 := kC HB6 0 rfl
    have c32 := kC HB6 1 rfl
    have c33 := kC HB6 2 rfl
    go_wp2_with fail
    clear c28 c29 c30 c31 c32 c33
    refine mV (rcmp_is _ _ o l c1 _ HR6.out HX2.out (HQO.out.rm (by omega)) (HQ2.out.rm (by omega)) HC1.out) fun w7 j7c => ?_
    replace HB25 := kB HB25 j7c
    have c34 := kC HB25 0 rfl
    have c35 := kC HB25 1 rfl
    have c36 := kC HB25 2 rfl
    replace HB8 := kB HB8 j7c
    have c37 := kC HB8 0 rfl
    have c38 := kC HB8 1 rfl
    have c39 := kC HB8 2 rfl
    go_wp2_with fail
    clear c34 c35 c36 c37 c38 c39
    replace HR6 := kV j7c HR6
    replace HX3 := kV j7c HX3
    refine mV (rcmp_is _ _ o m c2 _ HR6.out HX3.out (HQO.out.rm (by omega)) (HQ3.out.rm (by omega)) HC2.out) fun w8 j8c => ?_
    go_wp2_with fail
    obtain ⟨W40, hW40⟩ : ∃ W, W = w8.drew := ⟨_, rfl⟩
    have j11 : Below w8.heap.size w8 W40 := by rw [hW40]; exact (Below.refl _ _).drew
    have jm14 := tt j8c j11
    replace HB25 := kB HB25 jm14
    refine seq_start (S := fun w' => w'.cell? ⟨g1_0, 0, none⟩ = some (.bool g6a) ∧ w'.cell? ⟨g1_0, 1, none⟩ = some (.slice A6a k6a c6a) ∧ w'.cell? ⟨g1_0, 2, none⟩ = some (.slice A6b k6b c6b)) (by kernel_rfl) (by kernel_rfl) (by rw [← hW40]; exact ⟨kD HB25 0, kD HB25 1, kD HB25 2⟩) ?_
    rw [← hW40]
    clear hW40
    iterate 3 refine tk0 (h := ?_)
    refine sop (h := fun K9 hK9 => ?_)
    have jm15 := tt j7c jm14
    replace HB10 := kB HB10 jm15
    have t41h := kth 0 3 HB10
    refine smw 40 (w.heap.size + 4) 0 (ht := by exact t41h) (h := ?_)
    obtain ⟨W42, HW42⟩ : ∃ W, Hid (W = W40.setCells (w.heap.size + 4) 0 [.bool g6a, .slice A6a k6a c6a, .slice A6b k6b c6b]) := ⟨_, rfl⟩
    have TW42 := kN (kM HW42) HB10 rfl rfl
    replace HB10 := kPf (kM HW42) HB10 rfl
    rw [← HW42.out]
    replace HB25 := kO (kM HW42) HB25 n10b25.out.symm
    refine ckk hK9 (by exact ⟨kD HB25 0, kD HB25 1, kD HB25 2⟩) (h := ?_)
    clear hK9 K9 t41h
    refine tk0 (h := ?_)
    refine seq_done (by kernel_rfl) ?_
    go_wp2_with fail
    replace HB2 := kO (kM HW42) (kB HB2 jm15) n2b10.out
    replace HB4 := kO (kM HW42) (kB HB4 jm15) n4b10.out
    replace HB6 := kO (kM HW42) (kB HB6 jm15) n6b10.out
    replace HB8 := kO (kM HW42) (kB HB8 jm14) n8b10.out
    replace HX0 := kW TW42 (kV jm15 HX0)
    replace HX1 := kW TW42 (kV jm15 HX1)
    replace HX2 := kW TW42 (kV jm15 HX2)
    replace HX3 := kW TW42 (kV jm14 HX3)
    replace HBw := kS (kM HW42) l10b (kU HBw jm15)
    replace HR4 := kW TW42 (kV jm15 HR4)
    replace HR5 := kW TW42 (kV jm15 HR5)
    replace HR6 := kW TW42 (kV jm14 HR6)
    have hne : ¬ k = 0 := by have := HKB.out; omega
    exact bodyPost_ret (v := .tuple #[.int .i64 (k : Int), .agg #[.bool g6a, .slice A6a k6a c6a, .slice A6b k6b c6b], .int .i64 0]) (results_tct rfl (by rfl) (blk_all HB10.out) Tryz.underlying40 rfl (by kernel_rfl) (by rfl) (by rfl)) rfl ⟨⟨_, (by unfold cE; rw [HK2.out, if_neg hne]), by unfold cV; rw [HK2.out, if_neg hne, ← HO.out]; exact HR6.out⟩, HBw.out⟩
  ·obtain rfl : k = 65 := by omega
   have HK2 : Hid (clsS a p l m 64 1 = 0) := HK.out
   clear hlt hk hk1 HK
   go_wp2_with fail
   refine mQ (r5zero_any _) fun w4 g4a A4a k4a c4a A4b k4b c4b HR4 j4c => ?_
   replace HB10 := kB HB10 j4c
   have t20h := kth 0 3 HB10
   obtain ⟨W21, HW21⟩ : ∃ W, Hid (W = w4.setCells (w.heap.size + 4) 0 [.bool g4a, .slice A4a k4a c4a, .slice A4b k4b c4b]) := ⟨_, rfl⟩
   have TW21 := kN (kM HW21) HB10 rfl rfl
   replace HB10 := kPf (kM HW21) HB10 rfl
   go_wp2_with (refine smd 40 (w.heap.size + 4) 0 (ht := by exact t20h) (h := ?_))
   rw [← HW21.out]
   clear t20h
   replace HB2 := kO (kM HW21) (kB HB2 j4c) n2b10.out
   replace HB4 := kO (kM HW21) (kB HB4 j4c) n4b10.out
   replace HB6 := kO (kM HW21) (kB HB6 j4c) n6b10.out
   replace HB8 := kO (kM HW21) (kB HB8 j4c) n8b10.out
   replace HX0 := kW TW21 (kV j4c HX0)
   replace HX1 := kW TW21 (kV j4c HX1)
   replace HX2 := kW TW21 (kV j4c HX2)
   replace HX3 := kW TW21 (kV j4c HX3)
   replace HBw := kS (kM HW21) l10b (kU HBw j4c)
   replace HR4 := kW TW21 HR4
   exact bodyPost_ret (v := .tuple #[.int .i64 0, .agg #[.bool g4a, .slice A4a k4a c4a, .slice A4b k4b c4b], .int .i64 5]) (results_tct rfl (by rfl) (blk_all HB10.out) Tryz.underlying40 rfl (by kernel_rfl) (by rfl) (by rfl)) rfl ⟨⟨_, (by unfold cE; rw [HK2.out, if_pos rfl]; rfl), by unfold cV; rw [HK2.out, if_pos rfl]; exact HR4.out⟩, HBw.out⟩
end Go.Proofs.YtodckaioeomccaaGreat
