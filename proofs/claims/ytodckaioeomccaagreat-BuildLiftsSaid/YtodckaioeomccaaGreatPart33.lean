/- Walks of the reference's fractions: Whole, under, Zero, Add. Walks of the reference's fractions: New and Of. -/
import Derived.Test.YtodckaioeomccaaGreatPart03
import Derived.Test.YtodckaioeomccaaGreatPart31
namespace Go.Proofs.YtodckaioeomccaaGreat
open Go.RowKit
set_option linter.unusedVariables false
set_option linter.unusedSimpArgs false
theorem RdF.parts {w : World} {v : Value} {x : Rat} (h : RdF w v x) : ∃ Aa ka ca Ab kb cb, v = .agg #[.bool (decide (x.num < 0)), .slice Aa ka ca, .slice Ab kb cb] ∧ RdM w (.slice Aa ka ca) x.num.natAbs ∧ RdM w (.slice Ab kb cb) x.den := by
 obtain ⟨a, b, rfl, h1, h2⟩ := h
 obtain ⟨A, k, c, rfl⟩ := h1.slice
 obtain ⟨A', k', c', rfl⟩ := h2.slice
 exact ⟨_, _, _, _, _, _, rfl, h1, h2⟩
theorem RdM.len {w : World} {A : Option Addr} {k c n : Nat} (h : RdM w (.slice A k c) n) : dm n = k := by
 obtain ⟨A', k', c', e, h1, _⟩ := RdV.open_ h
 simp only [Value.slice.injEq] at e
 obtain ⟨_, rfl, _⟩ := e
 exact h1
set_option maxHeartbeats 1000000 in
theorem runder_any (v : Value) (x : Rat) (w : World) (h : RdF w v x) : Calls Tryz.prog 191 #[v] w fun e w' => (∃ v', e = .returned v' ∧ RdM w' v' x.den) ∧ Below w.heap.size w w' := by
 obtain ⟨Aa, ka, ca, Ab, kb, cb, rfl, ha, hb⟩ := h.parts
 have hk : dm x.den = kb := hb.len
 have hkp : 0 < kb := by rw [← hk]; exact dm_pos x.den_nz
 have hkb : ((kb : Int) == 0) = false := by simp; omega
 obtain ⟨ng, hng⟩ : ∃ b, b = decide (x.num < 0) := ⟨_, rfl⟩
 rw [← hng]
 have HBB : Hid (RdM (w.alloc (.cells #[.bool ng, .slice Aa ka ca, .slice Ab kb cb] 40)) (.slice Ab kb cb) x.den) := hb.below ((Below.refl _ w).alloc (Nat.le_refl _) _)
 clear hk ha hb h hng
 go_enter Tryz.func191, Tryz.ntmps191
 go_wp2_with fail
 go_ret
 exact ⟨⟨_, rfl, HBB.out⟩, (Below.refl _ w).alloc (Nat.le_refl _) _⟩
theorem num_zero_iff {x : Rat} : dm x.num.natAbs = 0 ↔ x = 0 := by
 constructor
 ·intro h
  have h1 : x.num.natAbs = 0 := (digs_nil B32_2).1 (List.length_eq_zero_iff.1 h)
  exact Rat.num_eq_zero.1 (Int.natAbs_eq_zero.1 h1)
 ·rintro rfl; exact dm_zero
set_option maxHeartbeats 1000000 in
theorem rzero_any (v : Value) (x : Rat) (w : World) (h : RdF w v x) : Calls Tryz.prog 172 #[v] w fun e w' => e = .returned (.bool (decide (x = 0))) ∧ Below w.heap.size w w' := by
 obtain ⟨Aa, ka, ca, Ab, kb, cb, rfl, ha, hb⟩ := h.parts
 have hk : dm x.num.natAbs = ka := ha.len
 obtain ⟨ng, hng⟩ : ∃ b, b = decide (x.num < 0) := ⟨_, rfl⟩
 rw [← hng]
 have HZ : Hid (decide (x = 0) = ((ka : Int) == 0)) := by
  show _ = _
  rw [Bool.eq_iff_iff, decide_eq_true_iff, ← num_zero_iff, hk]
  simp
 clear hk ha hb h hng
 go_enter Tryz.func172, Tryz.ntmps172
 go_wp2_with fail
 go_ret
 exact ⟨by rw [HZ.out]; rfl, (Below.refl _ w).alloc (Nat.le_refl _) _⟩
theorem dm_word {k : Nat} (h : k < B64) : dm k ≤ 2 := (dm_le_iff k 2).2 (by
 have : (B32 : Nat) ^ 2 = B64 := by unfold B32 B64; decide
 rw [this]; exact h)
theorem dm_one : dm 1 ≤ 1 := (dm_le_iff 1 1).2 (by rw [Nat.pow_one]; unfold B32; omega)
theorem signed_mk (n : Int) : mkRat (signed (decide (n < 0)) n.natAbs) 1 = (n : Rat) := by
 have : signed (decide (n < 0)) n.natAbs = n := by
  unfold signed
  by_cases h : n < 0
  ·rw [if_pos (by simpa using h)]; omega
  ·rw [if_neg (by simpa using h)]; omega
 rw [this, Rat.mkRat_one]
set_option maxRecDepth 100000 in
set_option maxHeartbeats 4000000 in
theorem rwhole_any (n : Int) (w : World) (h1 : -9223372036854775808 ≤ n) (h2 : n ≤ 9223372036854775807) : Calls Tryz.prog 104 #[.int .i64 n] w fun e w' => (∃ v', e = .returned v' ∧ RdF w' v' (n : Rat)) ∧ Below w.heap.size w w' := by
 obtain ⟨k, hk⟩ : ∃ k : Nat, k = n.natAbs := ⟨_, rfl⟩
 have hkB : k < B64 := by unfold B64; omega
 have HV := h0d (signed_mk n)
 rw [← hk] at HV
 obtain ⟨W1, hW1⟩ : ∃ W, W = w.alloc (.cells #[.bool false, .slice none 0 0, .slice none 0 0] 40) := ⟨_, rfl⟩
 have HW1 : Hid (Below w.heap.size w W1) := by rw [hW1]; exact (Below.refl _ w).alloc (Nat.le_refl _) _
 have HRS : Hid (∀ w', Below W1.heap.size W1 w' → _) := fun w' h => res3 (c0 := .bool false) (c1 := .slice none 0 0) (c2 := .slice none 0 0) (b := w.heap.size) (t := 40) (by rw [hW1]; exact heap_alloc_new w _) h
 have HE := h0d hW1
 have HNT := h0d (fun w' => rnat_any k w' hkB)
 have HFR : Hid (∀ v1 v2 w', RdM w' v1 k → RdM w' v2 1 → Calls Tryz.prog 187 #[.bool (decide (n < 0)), v1, v2] w' fun e w'' => (∃ v', e = .returned v' ∧ RdF w'' v' (n : Rat)) ∧ Below w'.heap.size w' w'') := fun v1 v2 w' g1 g2 => by
  have := rfrac_any (decide (n < 0)) v1 v2 k 1 w' g1 g2 (by decide) (Nat.le_trans (dm_word hkB) (by omega)) (Nat.le_trans dm_one (by omega))
  rw [HV.out] at this
  exact this
 clear hW1
 by_cases h0 : n < 0
 ·have hd : decide (n < 0) = true := decide_eq_true h0
  rw [hd] at HFR
  have hc1 : IntKind.u64.wrap (-(IntKind.u64.wrap n)) = (k : Int) := by rw [IntKind.wrap_u64, IntKind.wrap_u64]; omega
  obtain ⟨m, hm⟩ : ∃ m : Nat, m = 18446744073709551616 - k := ⟨_, rfl⟩
  have hc2 : IntKind.u64.wrap n = (m : Int) := by rw [IntKind.wrap_u64]; unfold B64 at hkB; omega
  rw [hc2] at hc1
  clear hm
  clear hk hkB hd
  go_enter Tryz.func104, Tryz.ntmps104
  go_wp2_with fail
  rw [← HE.out]
  refine (HNT.out _).mono ?_
  rintro e w3 ⟨⟨v3, rfl, hr3⟩, hb3⟩
  have HR3 := h0d hr3
  have HB3 := h0d hb3
  clear hr3 hb3
  have HB4 : Hid (Below W1.heap.size W1 (w3.alloc (.cells #[.int .u32 1] 271))) := HB3.out.alloc HB3.out.size _
  have HR34 : Hid (RdM (w3.alloc (.cells #[.int .u32 1] 271)) v3 k) := HR3.out.below ((Below.refl _ w3).alloc (Nat.le_refl _) _)
  go_wp2_with fail
  refine (HFR.out _ _ _ HR34.out (RdM.one_new w3)).mono ?_
  rintro e w5 ⟨⟨v5, rfl, hr5⟩, hb5⟩
  obtain ⟨A4, n4, c4, A5, n5, c5, rfl, hr4, hr6⟩ := hr5.parts
  have HR4 := h0d hr4
  have HR6 := h0d hr6
  have HB5 : Hid (Below W1.heap.size W1 w5) := HB4.out.trans (hb5.mono HB4.out.size)
  have HBW5 : Hid (Below w.heap.size w w5) := HW1.out.trans (HB5.out.mono HW1.out.size)
  obtain ⟨q0, q1, q2, q3, q4, q5⟩ := HRS.out _ HB5.out
  clear hr4 hr5 hr6 hb5
  obtain ⟨dn, hdn⟩ : ∃ b, b = decide ((n : Rat).num < 0) := ⟨_, rfl⟩
  rw [← hdn]
  have HDN := h0d hdn
  clear hdn
  go_wp2_with fail
  exact bodyPost_ret (v := .agg #[.bool dn, .slice A4 n4 c4, .slice A5 n5 c5]) (by simp [results, Tryz.results104, go_sem, q0, q1, q2]) rfl ⟨⟨_, rfl, _, _, by rw [HDN.out], HR4.out.set3 q0 q1 q2 _ _ _, HR6.out.set3 q0 q1 q2 _ _ _⟩, ((HBW5.out.setCell (by simp) _).setCell (by simp) _).setCell (by simp) _⟩
 ·have hd : decide (n < 0) = false := decide_eq_false h0
  rw [hd] at HFR
  have hc2 : IntKind.u64.wrap n = (k : Int) := by rw [IntKind.wrap_u64]; unfold B64 at hkB; omega
  clear hk hkB hd
  go_enter Tryz.func104, Tryz.ntmps104
  go_wp2_with fail
  rw [← HE.out]
  refine (HNT.out _).mono ?_
  rintro e w3 ⟨⟨v3, rfl, hr3⟩, hb3⟩
  have HR3 := h0d hr3
  have HB3 := h0d hb3
  clear hr3 hb3
  have HB4 : Hid (Below W1.heap.size W1 (w3.alloc (.cells #[.int .u32 1] 271))) := HB3.out.alloc HB3.out.size _
  have HR34 : Hid (RdM (w3.alloc (.cells #[.int .u32 1] 271)) v3 k) := HR3.out.below ((Below.refl _ w3).alloc (Nat.le_refl _) _)
  go_wp2_with fail
  refine (HFR.out _ _ _ HR34.out (RdM.one_new w3)).mono ?_
  rintro e w5 ⟨⟨v5, rfl, hr5⟩, hb5⟩
  obtain ⟨A4, n4, c4, A5, n5, c5, rfl, hr4, hr6⟩ := hr5.parts
  have HR4 := h0d hr4
  have HR6 := h0d hr6
  have HB5 : Hid (Below W1.heap.size W1 w5) := HB4.out.trans (hb5.mono HB4.out.size)
  have HBW5 : Hid (Below w.heap.size w w5) := HW1.out.trans (HB5.out.mono HW1.out.size)
  obtain ⟨q0, q1, q2, q3, q4, q5⟩ := HRS.out _ HB5.out
  clear hr4 hr5 hr6 hb5
  obtain ⟨dn, hdn⟩ : ∃ b, b = decide ((n : Rat).num < 0) := ⟨_, rfl⟩
  rw [← hdn]
  have HDN := h0d hdn
  clear hdn
  go_wp2_with fail
  exact bodyPost_ret (v := .agg #[.bool dn, .slice A4 n4 c4, .slice A5 n5 c5]) (by simp [results, Tryz.results104, go_sem, q0, q1, q2]) rfl ⟨⟨_, rfl, _, _, by rw [HDN.out], HR4.out.set3 q0 q1 q2 _ _ _, HR6.out.set3 q0 q1 q2 _ _ _⟩, ((HBW5.out.setCell (by simp) _).setCell (by simp) _).setCell (by simp) _⟩
def QM (k : Nat) (x : Rat) : Prop := dm x.num.natAbs ≤ k ∧ dm x.den ≤ k
theorem abs_imul (z : Int) (n : Nat) : (z * n).natAbs = z.natAbs * n := by rw [Int.natAbs_mul, Int.natAbs_natCast]
theorem neg_imul (z : Int) {n : Nat} (hn : n ≠ 0) : decide (z * (n : Int) < 0) = decide (z < 0) := by
 rw [decide_eq_decide]
 constructor
 ·intro h
  refine Int.not_le.1 fun h0 => ?_
  have := Int.mul_nonneg h0 (show (0 : Int) ≤ (n : Int) by omega)
  omega
 ·intro h
  exact Int.mul_neg_of_neg_of_pos h (by omega)
set_option maxRecDepth 100000 in
set_option maxHeartbeats 8000000 in
theorem radd_any (v u : Value) (x y : Rat) (w : World) (hv : RdF w v x) (hu : RdF w u y) (hx6 : QM 400000 x) (hy6 : QM 400000 y) :
  Calls Tryz.prog 130 #[v, u] w fun e w' => (∃ v', e = .returned v' ∧ RdF w' v' (x + y)) ∧ Below w.heap.size w w' := by
 obtain ⟨hx1, hx2⟩ := hx6
 obtain ⟨hy1, hy2⟩ := hy6
 have HU1 := h0d (fun w' (h : Below w.heap.size w w') => runder_any _ x w' (hv.below h))
 have HU2 := h0d (fun w' (h : Below w.heap.size w w') => runder_any _ y w' (hu.below h))
 obtain ⟨Aa, ka, ca, Ab, kb, cb, rfl, ha, hb⟩ := hv.parts
 obtain ⟨Ac, kc, cc, Ad, kd, cd, rfl, hc, hd⟩ := hu.parts
 have hxd := x.den_nz
 have hyd := y.den_nz
 have HADD : Hid (mkRat (x.num * y.den + y.num * x.den) (x.den * y.den) = x + y) := (Rat.add_def' x y).symm
 have hs1 := neg_imul x.num hyd
 have hs2 := neg_imul y.num hxd
 obtain ⟨a, hae⟩ : ∃ a, a = x.num.natAbs * y.den := ⟨_, rfl⟩
 obtain ⟨b, hbe⟩ : ∃ b, b = y.num.natAbs * x.den := ⟨_, rfl⟩
 have ha1 := abs_imul x.num y.den
 have hb1 := abs_imul y.num x.den
 rw [← hae] at ha1
 rw [← hbe] at hb1
 obtain ⟨z, hz⟩ : ∃ z, z = x.num * (y.den : Int) := ⟨_, rfl⟩
 obtain ⟨t, ht⟩ : ∃ z, z = y.num * (x.den : Int) := ⟨_, rfl⟩
 rw [← hz] at hs1 ha1 HADD
 rw [← ht] at hs2 hb1 HADD
 obtain ⟨D, hDe⟩ : ∃ D, D = x.den * y.den := ⟨_, rfl⟩
 rw [← hDe] at HADD
 have hD0 : D ≠ 0 := by rw [hDe]; exact Nat.mul_ne_zero hxd hyd
 have hp1 : dm a ≤ 800000 := by have := dm_mul x.num.natAbs y.den; rw [hae]; omega
 have hp2 : dm b ≤ 800000 := by have := dm_mul y.num.natAbs x.den; rw [hbe]; omega
 have hp3 : dm (a + b) ≤ 800001 := by have := dm_add a b; omega
 have hp4 : dm D ≤ 800000 := by have := dm_mul x.den y.den; rw [hDe]; omega
 have HPA : Hid (∀ v' w', Below w.heap.size w w' → RdM w' v' y.den → Calls Tryz.prog 201 #[.slice Aa ka ca, v'] w' fun e w'' => (∃ v', e = .returned v' ∧ RdM w'' v' a) ∧ Below w'.heap.size w' w'') := fun v' w' h hr => by
  rw [hae]; exact rprod_any _ v' x.num.natAbs y.den w' (ha.below h) hr (by omega) (by omega)
 have HPB : Hid (∀ v' w', Below w.heap.size w w' → RdM w' v' x.den → Calls Tryz.prog 201 #[.slice Ac kc cc, v'] w' fun e w'' => (∃ v', e = .returned v' ∧ RdM w'' v' b) ∧ Below w'.heap.size w' w'') := fun v' w' h hr => by
  rw [hbe]; exact rprod_any _ v' y.num.natAbs x.den w' (hc.below h) hr (by omega) (by omega)
 have HPD : Hid (∀ v1 v2 w', RdM w' v1 x.den → RdM w' v2 y.den → Calls Tryz.prog 201 #[v1, v2] w' fun e w'' => (∃ v', e = .returned v' ∧ RdM w'' v' D) ∧ Below w'.heap.size w' w'') := fun v1 v2 w' h1 h2 => by
  rw [hDe]; exact rprod_any v1 v2 x.den y.den w' h1 h2 (by omega) (by omega)
 have HSUM := h0d (fun v1 v2 w' (h1 : RdM w' v1 a) (h2 : RdM w' v2 b) => rsum_any v1 v2 a b w' h1 h2 (by omega) (by omega))
 have HORD := h0d (fun v1 v2 w' (h1 : RdM w' v1 a) (h2 : RdM w' v2 b) => rorder_any v1 v2 a b w' h1 h2)
 have HDAB := h0d (fun v1 v2 w' (h1 : RdM w' v1 a) (h2 : RdM w' v2 b) (hle : b ≤ a) => rdiff_any v1 v2 a b w' h1 h2 (by omega) hle)
 have HDBA := h0d (fun v1 v2 w' (h1 : RdM w' v1 b) (h2 : RdM w' v2 a) (hle : a ≤ b) => rdiff_any v1 v2 b a w' h1 h2 (by omega) hle)
 have HFR := h0d (fun (s : Bool) (N : Nat) v1 v2 w' (h1 : RdM w' v1 N) (h2 : RdM w' v2 D) (h3 : dm N ≤ 800001) (h4 : signed s N = z + t) => by
  have := rfrac_any s v1 v2 N D w' h1 h2 hD0 (by omega) (by omega)
  rw [h4, HADD.out] at this
  exact this)
 obtain ⟨ng, hng⟩ : ∃ b, b = decide (x.num < 0) := ⟨_, rfl⟩
 obtain ⟨nh, hnh⟩ : ∃ b, b = decide (y.num < 0) := ⟨_, rfl⟩
 rw [← hng] at hs1 HU1 ⊢
 rw [← hnh] at hs2 HU2 ⊢
 have HNG := h0d hs1
 have HNH := h0d hs2
 have HA1 := h0d ha1
 have HB1 := h0d hb1
 have HP3 := h0d hp3
 have HP1 := h0d hp1
 have HP2 := h0d hp2
 clear ha hb hc hd hng hnh hp1 hp2 hp3 hp4 hxd hyd hs1 hs2 hae hbe ha1 hb1 hz ht hDe hD0 hx1 hx2 hy1 hy2 hv hu
 obtain ⟨W2, hW2⟩ : ∃ W2, W2 = (((w.alloc (Obj.cells #[Value.bool ng, Value.slice Aa ka ca, Value.slice Ab kb cb] 40)).alloc (Obj.cells #[Value.bool nh, Value.slice Ac kc cc, Value.slice Ad kd cd] 40)).alloc (Obj.cells #[Value.bool false, Value.slice none 0 0, Value.slice none 0 0] 40)) := ⟨_, rfl⟩
 have hb2w : Below w.heap.size w W2 := by rw [hW2]; exact (((Below.refl _ w).alloc (by simp <;> omega) _).alloc (by simp <;> omega) _).alloc (by simp <;> omega) _
 have hsz2 : w.heap.size + 3 ≤ W2.heap.size := by rw [hW2]; simp
 have HARG0 : Hid (∀ w', Below W2.heap.size W2 w' → _) := fun w' h => resL (cs := #[Value.bool ng, Value.slice Aa ka ca, Value.slice Ab kb cb]) (b := w.heap.size) (t := 40) (by rw [hW2, Below.heap_alloc _ _ _ (by simp <;> omega), Below.heap_alloc _ _ _ (by simp <;> omega)]; have hx := heap_alloc_new w (.cells #[Value.bool ng, Value.slice Aa ka ca, Value.slice Ab kb cb] 40); simpa using hx) h
 have HARG1 : Hid (∀ w', Below W2.heap.size W2 w' → _) := fun w' h => resL (cs := #[Value.bool nh, Value.slice Ac kc cc, Value.slice Ad kd cd]) (b := w.heap.size + 1) (t := 40) (by rw [hW2, Below.heap_alloc _ _ _ (by simp <;> omega)]; have hx := heap_alloc_new (w.alloc (Obj.cells #[Value.bool ng, Value.slice Aa ka ca, Value.slice Ab kb cb] 40)) (.cells #[Value.bool nh, Value.slice Ac kc cc, Value.slice Ad kd cd] 40); simpa using hx) h
 have HRES0 : Hid (∀ w', Below W2.heap.size W2 w' → _) := fun w' h => resL (cs := #[Value.bool false, Value.slice none 0 0, Value.slice none 0 0]) (b := w.heap.size + 2) (t := 40) (by rw [hW2]; have hx := heap_alloc_new ((w.alloc (Obj.cells #[Value.bool ng, Value.slice Aa ka ca, Value.slice Ab kb cb] 40)).alloc (Obj.cells #[Value.bool nh, Value.slice Ac kc cc, Value.slice Ad kd cd] 40)) (.cells #[Value.bool false, Value.slice none 0 0, Value.slice none 0 0] 40); simpa using hx) h
 have HB2W := h0d hb2w
 have HSZ2 := h0d hsz2
 have HW2 := h0d hW2
 have HBs : Hid (Below W2.heap.size W2 W2) := Below.refl _ _
 clear hW2 hb2w hsz2
 by_cases hE : ng = nh
 ·have hEb : (ng == nh) = true := by simp [hE]
  have HSG : Hid (signed ng (a + b) = z + t) := by show _ = _; rw [← HA1.out, ← HB1.out, ← HNG.out]; exact signed_sum (by rw [HNG.out, HNH.out, hE])
  have HSZ : Hid (dm (a + b) ≤ 800001) := HP3
  clear hE
  go_enter Tryz.func130, Tryz.ntmps130
  go_wp2_with fail
  rw [← HW2.out]
  have HBD1 : Hid (Below W2.heap.size W2 W2.drew) := HBs.out.drew
  have dd0 := HARG0.out _ HBD1.out
  have dd1 := HARG1.out _ HBD1.out
  refine seq_start (S := fun w' => w'.cell? ⟨w.heap.size, 0, none⟩ = some (Value.bool ng) ∧ w'.cell? ⟨w.heap.size, 1, none⟩ = some (Value.slice Aa ka ca) ∧ w'.cell? ⟨w.heap.size, 2, none⟩ = some (Value.slice Ab kb cb) ∧ w'.cell? ⟨w.heap.size + 1, 0, none⟩ = some (Value.bool nh) ∧ w'.cell? ⟨w.heap.size + 1, 1, none⟩ = some (Value.slice Ac kc cc) ∧ w'.cell? ⟨w.heap.size + 1, 2, none⟩ = some (Value.slice Ad kd cd)) (by kernel_rfl) (by kernel_rfl) (by exact ⟨(dd0 0).1, (dd0 1).1, (dd0 2).1, (dd1 0).1, (dd1 1).1, (dd1 2).1⟩) ?_
  clear dd0 dd1
  repeat (first | refine tk0 (h := ?_) | refine tkG (h := ?_) | refine skG (h := ?_))
  refine seq_pull 1 ?_
  simp only [places, pull]
  (first
   | refine tk0 (h := ?_)
   | refine tkG (h := ?_)
   | refine skG (h := ?_))
  refine seq_op (by kernel_rfl) (by rfl) (fun K hK => ?_)
  go_simp
  refine (HU1.out _ (HB2W.out.trans (HBD1.out.mono HB2W.out.size))).mono ?_
  rintro e w3 ⟨⟨v3, rfl, hr3⟩, hbx⟩
  obtain ⟨A3, n3, c3, rfl⟩ := hr3.slice
  have HR3 := h0d hr3
  have HB_w3 : Hid (Below W2.heap.size W2 w3) := HBD1.out.trans (hbx.mono HBD1.out.size)
  have dd0 := HARG0.out _ HB_w3.out
  have dd1 := HARG1.out _ HB_w3.out
  refine hK.out _ _ (by exact ⟨(dd0 0).1, (dd0 1).1, (dd0 2).1, (dd1 0).1, (dd1 1).1, (dd1 2).1⟩) ?_
  clear hK K dd0 dd1 hbx hr3
  repeat (first | refine tk0 (h := ?_) | refine tkG (h := ?_) | refine skG (h := ?_))
  refine seq_op (by kernel_rfl) (by rfl) (fun K hK => ?_)
  go_simp
  refine (HU2.out _ (HB2W.out.trans (HB_w3.out.mono HB2W.out.size))).mono ?_
  rintro e w4 ⟨⟨v4, rfl, hr4⟩, hbx⟩
  obtain ⟨A4, n4, c4, rfl⟩ := hr4.slice
  have HR4 := h0d hr4
  have HR34 := h0d (HR3.out.below hbx)
  have HB_w4 : Hid (Below W2.heap.size W2 w4) := HB_w3.out.trans (hbx.mono HB_w3.out.size)
  have dd0 := HARG0.out _ HB_w4.out
  have dd1 := HARG1.out _ HB_w4.out
  refine hK.out _ _ (by exact ⟨(dd0 0).1, (dd0 1).1, (dd0 2).1, (dd1 0).1, (dd1 1).1, (dd1 2).1⟩) ?_
  clear hK K dd0 dd1 hbx hr4
  repeat (first | refine tk0 (h := ?_) | refine tkG (h := ?_) | refine skG (h := ?_))
  refine seq_done (by kernel_rfl) ?_
  go_wp2_with fail
  have HBD2 : Hid (Below W2.heap.size W2 w4.drew) := HB_w4.out.drew
  have dd0 := HARG0.out _ HBD2.out
  have dd1 := HARG1.out _ HBD2.out
  refine seq_start (S := fun w' => w'.cell? ⟨w.heap.size, 0, none⟩ = some (Value.bool ng) ∧ w'.cell? ⟨w.heap.size, 1, none⟩ = some (Value.slice Aa ka ca) ∧ w'.cell? ⟨w.heap.size, 2, none⟩ = some (Value.slice Ab kb cb) ∧ w'.cell? ⟨w.heap.size + 1, 0, none⟩ = some (Value.bool nh) ∧ w'.cell? ⟨w.heap.size + 1, 1, none⟩ = some (Value.slice Ac kc cc) ∧ w'.cell? ⟨w.heap.size + 1, 2, none⟩ = some (Value.slice Ad kd cd)) (by kernel_rfl) (by kernel_rfl) (by exact ⟨(dd0 0).1, (dd0 1).1, (dd0 2).1, (dd1 0).1, (dd1 1).1, (dd1 2).1⟩) ?_
  clear dd0 dd1
  repeat (first | refine tk0 (h := ?_) | refine tkG (h := ?_) | refine skG (h := ?_))
  refine seq_pull 1 ?_
  simp only [places, pull]
  (first
   | refine tk0 (h := ?_)
   | refine tkG (h := ?_)
   | refine skG (h := ?_))
  refine seq_pull 1 ?_
  simp only [places, pull]
  (first
   | refine tk0 (h := ?_)
   | refine tkG (h := ?_)
   | refine skG (h := ?_))
  refine seq_pull 1 ?_
  simp only [places, pull]
  (first
   | refine tk0 (h := ?_)
   | refine tkG (h := ?_)
   | refine skG (h := ?_))
  refine seq_op (by kernel_rfl) (by rfl) (fun K hK => ?_)
  go_simp
  refine (HPA.out _ _ (HB2W.out.trans (HBD2.out.mono HB2W.out.size)) (HR4.out.below (by exact (Below.refl _ w4).drew))).mono ?_
  rintro e w5 ⟨⟨v5, rfl, hr5⟩, hbx⟩
  obtain ⟨A5, n5, c5, rfl⟩ := hr5.slice
  have HR5 := h0d hr5
  have HB45 : Hid (Below w4.heap.size w4 w5) := ((Below.refl _ w4).drew).trans hbx
  have HB_w5 : Hid (Below W2.heap.size W2 w5) := HBD2.out.trans (hbx.mono HBD2.out.size)
  have dd0 := HARG0.out _ HB_w5.out
  have dd1 := HARG1.out _ HB_w5.out
  refine hK.out _ _ (by exact ⟨(dd0 0).1, (dd0 1).1, (dd0 2).1, (dd1 0).1, (dd1 1).1, (dd1 2).1⟩) ?_
  clear hK K dd0 dd1 hbx hr5
  repeat (first | refine tk0 (h := ?_) | refine tkG (h := ?_) | refine skG (h := ?_))
  refine seq_op (by kernel_rfl) (by rfl) (fun K hK => ?_)
  go_simp
  refine (HPB.out _ _ (HB2W.out.trans (HB_w5.out.mono HB2W.out.size)) (HR34.out.below HB45.out)).mono ?_
  rintro e w6 ⟨⟨v6, rfl, hr6⟩, hbx⟩
  obtain ⟨A6, n6, c6, rfl⟩ := hr6.slice
  have HR6 := h0d hr6
  have HR56 := h0d (HR5.out.below hbx)
  have HB46 : Hid (Below w4.heap.size w4 w6) := HB45.out.trans (hbx.mono HB45.out.size)
  have HB_w6 : Hid (Below W2.heap.size W2 w6) := HB_w5.out.trans (hbx.mono HB_w5.out.size)
  have dd0 := HARG0.out _ HB_w6.out
  have dd1 := HARG1.out _ HB_w6.out
  refine hK.out _ _ (by exact ⟨(dd0 0).1, (dd0 1).1, (dd0 2).1, (dd1 0).1, (dd1 1).1, (dd1 2).1⟩) ?_
  clear hK K dd0 dd1 hbx hr6
  repeat (first | refine tk0 (h := ?_) | refine tkG (h := ?_) | refine skG (h := ?_))
  have HR36 := h0d (HR34.out.below HB46.out)
  have HR46 := h0d (HR4.out.below HB46.out)
  have cc0_0 : w6.cell? ⟨w.heap.size, 0, none⟩ = some (Value.bool ng) := (HARG0.out _ HB_w6.out 0).1
  have cc0_1 : w6.cell? ⟨w.heap.size, 1, none⟩ = some (Value.slice Aa ka ca) := (HARG0.out _ HB_w6.out 1).1
  have cc0_2 : w6.cell? ⟨w.heap.size, 2, none⟩ = some (Value.slice Ab kb cb) := (HARG0.out _ HB_w6.out 2).1
  have cc1_0 : w6.cell? ⟨w.heap.size + 1, 0, none⟩ = some (Value.bool nh) := (HARG1.out _ HB_w6.out 0).1
  have cc1_1 : w6.cell? ⟨w.heap.size + 1, 1, none⟩ = some (Value.slice Ac kc cc) := (HARG1.out _ HB_w6.out 1).1
  have cc1_2 : w6.cell? ⟨w.heap.size + 1, 2, none⟩ = some (Value.slice Ad kd cd) := (HARG1.out _ HB_w6.out 2).1
  refine seq_done (by kernel_rfl) ?_
  go_wp2_with fail
  clear cc0_0 cc0_1 cc0_2 cc1_0 cc1_1 cc1_2
  have HBDx : Hid (Below w6.heap.size w6 w6.drew) := (Below.refl _ w6).drew
  have HBD3 : Hid (Below W2.heap.size W2 w6.drew) := HB_w6.out.drew
  have dd0 := HARG0.out _ HBD3.out
  have dd1 := HARG1.out _ HBD3.out
  refine seq_start (S := fun w' => w'.cell? ⟨w.heap.size, 0, none⟩ = some (Value.bool ng) ∧ w'.cell? ⟨w.heap.size, 1, none⟩ = some (Value.slice Aa ka ca) ∧ w'.cell? ⟨w.heap.size, 2, none⟩ = some (Value.slice Ab kb cb) ∧ w'.cell? ⟨w.heap.size + 1, 0, none⟩ = some (Value.bool nh) ∧ w'.cell? ⟨w.heap.size + 1, 1, none⟩ = some (Value.slice Ac kc cc) ∧ w'.cell? ⟨w.heap.size + 1, 2, none⟩ = some (Value.slice Ad kd cd)) (by kernel_rfl) (by kernel_rfl) (by exact ⟨(dd0 0).1, (dd0 1).1, (dd0 2).1, (dd1 0).1, (dd1 1).1, (dd1 2).1⟩) ?_
  clear dd0 dd1
  repeat (first | refine tk0 (h := ?_) | refine tkG (h := ?_) | refine skG (h := ?_))
  refine seq_pull 1 ?_
  simp only [places, pull]
  (first
   | refine tk0 (h := ?_)
   | refine tkG (h := ?_)
   | refine skG (h := ?_))
  refine seq_pull 1 ?_
  simp only [places, pull]
  (first
   | refine tk0 (h := ?_)
   | refine tkG (h := ?_)
   | refine skG (h := ?_))
  refine seq_op (by kernel_rfl) (by rfl) (fun K hK => ?_)
  go_simp
  refine (HSUM.out _ _ _ (HR56.out.below HBDx.out) (HR6.out.below HBDx.out)).mono ?_
  rintro e w7 ⟨⟨v7, rfl, hr7⟩, hbx⟩
  obtain ⟨A7, n7, c7, rfl⟩ := hr7.slice
  have HR7 := h0d hr7
  have HB67 : Hid (Below w6.heap.size w6 w7) := HBDx.out.trans (hbx.mono HBDx.out.size)
  have HB_w7 : Hid (Below W2.heap.size W2 w7) := HBD3.out.trans (hbx.mono HBD3.out.size)
  have dd0 := HARG0.out _ HB_w7.out
  have dd1 := HARG1.out _ HB_w7.out
  refine hK.out _ _ (by exact ⟨(dd0 0).1, (dd0 1).1, (dd0 2).1, (dd1 0).1, (dd1 1).1, (dd1 2).1⟩) ?_
  clear hK K dd0 dd1 hbx hr7
  repeat (first | refine tk0 (h := ?_) | refine tkG (h := ?_) | refine skG (h := ?_))
  refine seq_op (by kernel_rfl) (by rfl) (fun K hK => ?_)
  go_simp
  refine (HPD.out _ _ _ (HR36.out.below HB67.out) (HR46.out.below HB67.out)).mono ?_
  rintro e w8 ⟨⟨v8, rfl, hr8⟩, hbx⟩
  obtain ⟨A8, n8, c8, rfl⟩ := hr8.slice
  have HR8 := h0d hr8
  have HR78 := h0d (HR7.out.below hbx)
  have HB_w8 : Hid (Below W2.heap.size W2 w8) := HB_w7.out.trans (hbx.mono HB_w7.out.size)
  have dd0 := HARG0.out _ HB_w8.out
  have dd1 := HARG1.out _ HB_w8.out
  refine hK.out _ _ (by exact ⟨(dd0 0).1, (dd0 1).1, (dd0 2).1, (dd1 0).1, (dd1 1).1, (dd1 2).1⟩) ?_
  clear hK K dd0 dd1 hbx hr8
  repeat (first | refine tk0 (h := ?_) | refine tkG (h := ?_) | refine skG (h := ?_))
  refine seq_op (by kernel_rfl) (by rfl) (fun K hK => ?_)
  go_simp
  refine (HFR.out ng (a + b) _ _ _ HR78.out HR8.out HSZ.out HSG.out).mono ?_
  rintro e w9 ⟨⟨v9, rfl, hz9⟩, hbx⟩
  obtain ⟨A9, n9, c9, B9, m9, k9, rfl, hr9, hs9⟩ := hz9.parts
  have HR9 := h0d hr9
  have HS9 := h0d hs9
  have HB_w9 : Hid (Below W2.heap.size W2 w9) := HB_w8.out.trans (hbx.mono HB_w8.out.size)
  have dd0 := HARG0.out _ HB_w9.out
  have dd1 := HARG1.out _ HB_w9.out
  refine hK.out _ _ (by exact ⟨(dd0 0).1, (dd0 1).1, (dd0 2).1, (dd1 0).1, (dd1 1).1, (dd1 2).1⟩) ?_
  clear hK K dd0 dd1 hbx hr9 hs9 hz9
  repeat (first | refine tk0 (h := ?_) | refine tkG (h := ?_) | refine skG (h := ?_))
  refine seq_op (by kernel_rfl) (by rfl) (fun K hK => ?_)
  have qq := HRES0.out _ HB_w9.out
  have q0 := (qq 0).1
  have q1 := (qq 1).1
  have q2 := (qq 2).1
  have qf0 := (qq 0).2
  have qf1 := (qq 1).2
  have qf2 := (qq 2).2
  simp only [List.getElem?_toArray, List.getElem?_cons_zero, List.getElem?_cons_succ] at q0 q1 q2
  clear qq
  go_simp
  have dd0 := HARG0.out _ HB_w9.out
  have dd1 := HARG1.out _ HB_w9.out
  refine hK.out _ _ (by go_simp; (first | done | exact ⟨(dd0 0).1, (dd0 1).1, (dd0 2).1, (dd1 0).1, (dd1 1).1, (dd1 2).1⟩)) ?_
  clear hK K dd0 dd1
  repeat (first | refine tk0 (h := ?_) | refine tkG (h := ?_) | refine skG (h := ?_))
  refine seq_done (by kernel_rfl) ?_
  go_wp2_with fail
  have hbw := HB2W.out.trans (HB_w9.out.mono HB2W.out.size)
  exact bodyPost_ret (v := .agg #[.bool (decide ((x + y).num < 0)), .slice A9 n9 c9, .slice B9 m9 k9]) (by simp [results, Tryz.results130, go_sem, q0, q1, q2]) rfl ⟨⟨_, rfl, _, _, rfl, HR9.out.set3 q0 q1 q2 _ _ _, HS9.out.set3 q0 q1 q2 _ _ _⟩, ((hbw.setCell (by simp <;> omega) _).setCell (by simp <;> omega) _).setCell (by simp <;> omega) _⟩
 ·have hEb : (ng == nh) = false := by simp [hE]
  have HE : Hid (decide (z < 0) ≠ decide (t < 0)) := by show _ ≠ _; rw [HNG.out, HNH.out]; exact hE
  clear hE
  by_cases hle : b ≤ a
  ·have HLE := h0d hle
   have HSG : Hid (signed ng (a - b) = z + t) := by show _ = _; rw [← HA1.out, ← HB1.out, ← HNG.out]; exact signed_diff HE.out (by rw [HA1.out, HB1.out]; exact HLE.out)
   have HSZ : Hid (dm (a - b) ≤ 800001) := Nat.le_trans (dm_mono (Nat.sub_le _ _)) (by have := HP1.out; have := HP2.out; omega)
   obtain ⟨cv, hcv⟩ : ∃ c, c = cmpN a b := ⟨_, rfl⟩
   rw [← hcv] at HORD
   have hcn : 0 ≤ cv := by rw [hcv]; unfold cmpN; rw [if_neg (by omega)]; split <;> omega
   have hcb : decide (0 ≤ cv) = true := by simpa using hcn
   clear hle hcv
   go_enter Tryz.func130, Tryz.ntmps130
   go_wp2_with fail
   rw [← HW2.out]
   have HBD1 : Hid (Below W2.heap.size W2 W2.drew) := HBs.out.drew
   have dd0 := HARG0.out _ HBD1.out
   have dd1 := HARG1.out _ HBD1.out
   refine seq_start (S := fun w' => w'.cell? ⟨w.heap.size, 0, none⟩ = some (Value.bool ng) ∧ w'.cell? ⟨w.heap.size, 1, none⟩ = some (Value.slice Aa ka ca) ∧ w'.cell? ⟨w.heap.size, 2, none⟩ = some (Value.slice Ab kb cb) ∧ w'.cell? ⟨w.heap.size + 1, 0, none⟩ = some (Value.bool nh) ∧ w'.cell? ⟨w.heap.size + 1, 1, none⟩ = some (Value.slice Ac kc cc) ∧ w'.cell? ⟨w.heap.size + 1, 2, none⟩ = some (Value.slice Ad kd cd)) (by kernel_rfl) (by kernel_rfl) (by exact ⟨(dd0 0).1, (dd0 1).1, (dd0 2).1, (dd1 0).1, (dd1 1).1, (dd1 2).1⟩) ?_
   clear dd0 dd1
   repeat (first | refine tk0 (h := ?_) | refine tkG (h := ?_) | refine skG (h := ?_))
   refine seq_pull 1 ?_
   simp only [places, pull]
   (first
    | refine tk0 (h := ?_)
    | refine tkG (h := ?_)
    | refine skG (h := ?_))
   refine seq_op (by kernel_rfl) (by rfl) (fun K hK => ?_)
   go_simp
   refine (HU1.out _ (HB2W.out.trans (HBD1.out.mono HB2W.out.size))).mono ?_
   rintro e w3 ⟨⟨v3, rfl, hr3⟩, hbx⟩
   obtain ⟨A3, n3, c3, rfl⟩ := hr3.slice
   have HR3 := h0d hr3
   have HB_w3 : Hid (Below W2.heap.size W2 w3) := HBD1.out.trans (hbx.mono HBD1.out.size)
   have dd0 := HARG0.out _ HB_w3.out
   have dd1 := HARG1.out _ HB_w3.out
   refine hK.out _ _ (by exact ⟨(dd0 0).1, (dd0 1).1, (dd0 2).1, (dd1 0).1, (dd1 1).1, (dd1 2).1⟩) ?_
   clear hK K dd0 dd1 hbx hr3
   repeat (first | refine tk0 (h := ?_) | refine tkG (h := ?_) | refine skG (h := ?_))
   refine seq_op (by kernel_rfl) (by rfl) (fun K hK => ?_)
   go_simp
   refine (HU2.out _ (HB2W.out.trans (HB_w3.out.mono HB2W.out.size))).mono ?_
   rintro e w4 ⟨⟨v4, rfl, hr4⟩, hbx⟩
   obtain ⟨A4, n4, c4, rfl⟩ := hr4.slice
   have HR4 := h0d hr4
   have HR34 := h0d (HR3.out.below hbx)
   have HB_w4 : Hid (Below W2.heap.size W2 w4) := HB_w3.out.trans (hbx.mono HB_w3.out.size)
   have dd0 := HARG0.out _ HB_w4.out
   have dd1 := HARG1.out _ HB_w4.out
   refine hK.out _ _ (by exact ⟨(dd0 0).1, (dd0 1).1, (dd0 2).1, (dd1 0).1, (dd1 1).1, (dd1 2).1⟩) ?_
   clear hK K dd0 dd1 hbx hr4
   repeat (first | refine tk0 (h := ?_) | refine tkG (h := ?_) | refine skG (h := ?_))
   refine seq_done (by kernel_rfl) ?_
   go_wp2_with fail
   have HBD2 : Hid (Below W2.heap.size W2 w4.drew) := HB_w4.out.drew
   have dd0 := HARG0.out _ HBD2.out
   have dd1 := HARG1.out _ HBD2.out
   refine seq_start (S := fun w' => w'.cell? ⟨w.heap.size, 0, none⟩ = some (Value.bool ng) ∧ w'.cell? ⟨w.heap.size, 1, none⟩ = some (Value.slice Aa ka ca) ∧ w'.cell? ⟨w.heap.size, 2, none⟩ = some (Value.slice Ab kb cb) ∧ w'.cell? ⟨w.heap.size + 1, 0, none⟩ = some (Value.bool nh) ∧ w'.cell? ⟨w.heap.size + 1, 1, none⟩ = some (Value.slice Ac kc cc) ∧ w'.cell? ⟨w.heap.size + 1, 2, none⟩ = some (Value.slice Ad kd cd)) (by kernel_rfl) (by kernel_rfl) (by exact ⟨(dd0 0).1, (dd0 1).1, (dd0 2).1, (dd1 0).1, (dd1 1).1, (dd1 2).1⟩) ?_
   clear dd0 dd1
   repeat (first | refine tk0 (h := ?_) | refine tkG (h := ?_) | refine skG (h := ?_))
   refine seq_pull 1 ?_
   simp only [places, pull]
   (first
    | refine tk0 (h := ?_)
    | refine tkG (h := ?_)
    | refine skG (h := ?_))
   refine seq_pull 1 ?_
   simp only [places, pull]
   (first
    | refine tk0 (h := ?_)
    | refine tkG (h := ?_)
    | refine skG (h := ?_))
   refine seq_pull 1 ?_
   simp only [places, pull]
   (first
    | refine tk0 (h := ?_)
    | refine tkG (h := ?_)
    | refine skG (h := ?_))
   refine seq_op (by kernel_rfl) (by rfl) (fun K hK => ?_)
   go_simp
   refine (HPA.out _ _ (HB2W.out.trans (HBD2.out.mono HB2W.out.size)) (HR4.out.below (by exact (Below.refl _ w4).drew))).mono ?_
   rintro e w5 ⟨⟨v5, rfl, hr5⟩, hbx⟩
   obtain ⟨A5, n5, c5, rfl⟩ := hr5.slice
   have HR5 := h0d hr5
   have HB45 : Hid (Below w4.heap.size w4 w5) := ((Below.refl _ w4).drew).trans hbx
   have HB_w5 : Hid (Below W2.heap.size W2 w5) := HBD2.out.trans (hbx.mono HBD2.out.size)
   have dd0 := HARG0.out _ HB_w5.out
   have dd1 := HARG1.out _ HB_w5.out
   refine hK.out _ _ (by exact ⟨(dd0 0).1, (dd0 1).1, (dd0 2).1, (dd1 0).1, (dd1 1).1, (dd1 2).1⟩) ?_
   clear hK K dd0 dd1 hbx hr5
   repeat (first | refine tk0 (h := ?_) | refine tkG (h := ?_) | refine skG (h := ?_))
   refine seq_op (by kernel_rfl) (by rfl) (fun K hK => ?_)
   go_simp
   refine (HPB.out _ _ (HB2W.out.trans (HB_w5.out.mono HB2W.out.size)) (HR34.out.below HB45.out)).mono ?_
   rintro e w6 ⟨⟨v6, rfl, hr6⟩, hbx⟩
   obtain ⟨A6, n6, c6, rfl⟩ := hr6.slice
   have HR6 := h0d hr6
   have HR56 := h0d (HR5.out.below hbx)
   have HB46 : Hid (Below w4.heap.size w4 w6) := HB45.out.trans (hbx.mono HB45.out.size)
   have HB_w6 : Hid (Below W2.heap.size W2 w6) := HB_w5.out.trans (hbx.mono HB_w5.out.size)
   have dd0 := HARG0.out _ HB_w6.out
   have dd1 := HARG1.out _ HB_w6.out
   refine hK.out _ _ (by exact ⟨(dd0 0).1, (dd0 1).1, (dd0 2).1, (dd1 0).1, (dd1 1).1, (dd1 2).1⟩) ?_
   clear hK K dd0 dd1 hbx hr6
   repeat (first | refine tk0 (h := ?_) | refine tkG (h := ?_) | refine skG (h := ?_))
   have HR36 := h0d (HR34.out.below HB46.out)
   have HR46 := h0d (HR4.out.below HB46.out)
   have cc0_0 : w6.cell? ⟨w.heap.size, 0, none⟩ = some (Value.bool ng) := (HARG0.out _ HB_w6.out 0).1
   have cc0_1 : w6.cell? ⟨w.heap.size, 1, none⟩ = some (Value.slice Aa ka ca) := (HARG0.out _ HB_w6.out 1).1
   have cc0_2 : w6.cell? ⟨w.heap.size, 2, none⟩ = some (Value.slice Ab kb cb) := (HARG0.out _ HB_w6.out 2).1
   have cc1_0 : w6.cell? ⟨w.heap.size + 1, 0, none⟩ = some (Value.bool nh) := (HARG1.out _ HB_w6.out 0).1
   have cc1_1 : w6.cell? ⟨w.heap.size + 1, 1, none⟩ = some (Value.slice Ac kc cc) := (HARG1.out _ HB_w6.out 1).1
   have cc1_2 : w6.cell? ⟨w.heap.size + 1, 2, none⟩ = some (Value.slice Ad kd cd) := (HARG1.out _ HB_w6.out 2).1
   refine seq_done (by kernel_rfl) ?_
   go_wp2_with (go_at_call 190; refine (HORD.out _ _ _ HR56.out HR6.out).mono ?_; rintro e w62 ⟨rfl, hbx⟩; have HB62 := h0d hbx; have HR57 := h0d (HR56.out.below hbx); have HR67 := h0d (HR6.out.below hbx); have HB_w62 : Hid (Below W2.heap.size W2 w62) := HB_w6.out.trans (hbx.mono HB_w6.out.size); clear hbx)
   clear cc0_0 cc0_1 cc0_2 cc1_0 cc1_1 cc1_2
   have HBDx : Hid (Below w62.heap.size w62 w62.drew) := (Below.refl _ w62).drew
   have HR36 := h0d (HR36.out.below HB62.out)
   have HR46 := h0d (HR46.out.below HB62.out)
   have HBD3 : Hid (Below W2.heap.size W2 w62.drew) := HB_w62.out.drew
   have dd0 := HARG0.out _ HBD3.out
   have dd1 := HARG1.out _ HBD3.out
   refine seq_start (S := fun w' => w'.cell? ⟨w.heap.size, 0, none⟩ = some (Value.bool ng) ∧ w'.cell? ⟨w.heap.size, 1, none⟩ = some (Value.slice Aa ka ca) ∧ w'.cell? ⟨w.heap.size, 2, none⟩ = some (Value.slice Ab kb cb) ∧ w'.cell? ⟨w.heap.size + 1, 0, none⟩ = some (Value.bool nh) ∧ w'.cell? ⟨w.heap.size + 1, 1, none⟩ = some (Value.slice Ac kc cc) ∧ w'.cell? ⟨w.heap.size + 1, 2, none⟩ = some (Value.slice Ad kd cd)) (by kernel_rfl) (by kernel_rfl) (by exact ⟨(dd0 0).1, (dd0 1).1, (dd0 2).1, (dd1 0).1, (dd1 1).1, (dd1 2).1⟩) ?_
   clear dd0 dd1
   repeat (first | refine tk0 (h := ?_) | refine tkG (h := ?_) | refine skG (h := ?_))
   refine seq_pull 1 ?_
   simp only [places, pull]
   (first
    | refine tk0 (h := ?_)
    | refine tkG (h := ?_)
    | refine skG (h := ?_))
   refine seq_pull 1 ?_
   simp only [places, pull]
   (first
    | refine tk0 (h := ?_)
    | refine tkG (h := ?_)
    | refine skG (h := ?_))
   refine seq_op (by kernel_rfl) (by rfl) (fun K hK => ?_)
   go_simp
   refine (HDAB.out _ _ _ (HR57.out.below HBDx.out) (HR67.out.below HBDx.out) HLE.out).mono ?_
   rintro e w7 ⟨⟨v7, rfl, hr7⟩, hbx⟩
   obtain ⟨A7, n7, c7, rfl⟩ := hr7.slice
   have HR7 := h0d hr7
   have HB67 : Hid (Below w62.heap.size w62 w7) := HBDx.out.trans (hbx.mono HBDx.out.size)
   have HB_w7 : Hid (Below W2.heap.size W2 w7) := HBD3.out.trans (hbx.mono HBD3.out.size)
   have dd0 := HARG0.out _ HB_w7.out
   have dd1 := HARG1.out _ HB_w7.out
   refine hK.out _ _ (by exact ⟨(dd0 0).1, (dd0 1).1, (dd0 2).1, (dd1 0).1, (dd1 1).1, (dd1 2).1⟩) ?_
   clear hK K dd0 dd1 hbx hr7
   repeat (first | refine tk0 (h := ?_) | refine tkG (h := ?_) | refine skG (h := ?_))
   refine seq_op (by kernel_rfl) (by rfl) (fun K hK => ?_)
   go_simp
   refine (HPD.out _ _ _ (HR36.out.below HB67.out) (HR46.out.below HB67.out)).mono ?_
   rintro e w8 ⟨⟨v8, rfl, hr8⟩, hbx⟩
   obtain ⟨A8, n8, c8, rfl⟩ := hr8.slice
   have HR8 := h0d hr8
   have HR78 := h0d (HR7.out.below hbx)
   have HB_w8 : Hid (Below W2.heap.size W2 w8) := HB_w7.out.trans (hbx.mono HB_w7.out.size)
   have dd0 := HARG0.out _ HB_w8.out
   have dd1 := HARG1.out _ HB_w8.out
   refine hK.out _ _ (by exact ⟨(dd0 0).1, (dd0 1).1, (dd0 2).1, (dd1 0).1, (dd1 1).1, (dd1 2).1⟩) ?_
   clear hK K dd0 dd1 hbx hr8
   repeat (first | refine tk0 (h := ?_) | refine tkG (h := ?_) | refine skG (h := ?_))
   refine seq_op (by kernel_rfl) (by rfl) (fun K hK => ?_)
   go_simp
   refine (HFR.out ng (a - b) _ _ _ HR78.out HR8.out HSZ.out HSG.out).mono ?_
   rintro e w9 ⟨⟨v9, rfl, hz9⟩, hbx⟩
   obtain ⟨A9, n9, c9, B9, m9, k9, rfl, hr9, hs9⟩ := hz9.parts
   have HR9 := h0d hr9
   have HS9 := h0d hs9
   have HB_w9 : Hid (Below W2.heap.size W2 w9) := HB_w8.out.trans (hbx.mono HB_w8.out.size)
   have dd0 := HARG0.out _ HB_w9.out
   have dd1 := HARG1.out _ HB_w9.out
   refine hK.out _ _ (by exact ⟨(dd0 0).1, (dd0 1).1, (dd0 2).1, (dd1 0).1, (dd1 1).1, (dd1 2).1⟩) ?_
   clear hK K dd0 dd1 hbx hr9 hs9 hz9
   repeat (first | refine tk0 (h := ?_) | refine tkG (h := ?_) | refine skG (h := ?_))
   refine seq_op (by kernel_rfl) (by rfl) (fun K hK => ?_)
   have qq := HRES0.out _ HB_w9.out
   have q0 := (qq 0).1
   have q1 := (qq 1).1
   have q2 := (qq 2).1
   have qf0 := (qq 0).2
   have qf1 := (qq 1).2
   have qf2 := (qq 2).2
   simp only [List.getElem?_toArray, List.getElem?_cons_zero, List.getElem?_cons_succ] at q0 q1 q2
   clear qq
   go_simp
   have dd0 := HARG0.out _ HB_w9.out
   have dd1 := HARG1.out _ HB_w9.out
   refine hK.out _ _ (by go_simp; (first | done | exact ⟨(dd0 0).1, (dd0 1).1, (dd0 2).1, (dd1 0).1, (dd1 1).1, (dd1 2).1⟩)) ?_
   clear hK K dd0 dd1
   repeat (first | refine tk0 (h := ?_) | refine tkG (h := ?_) | refine skG (h := ?_))
   refine seq_done (by kernel_rfl) ?_
   go_wp2_with fail
   have hbw := HB2W.out.trans (HB_w9.out.mono HB2W.out.size)
   exact bodyPost_ret (v := .agg #[.bool (decide ((x + y).num < 0)), .slice A9 n9 c9, .slice B9 m9 k9]) (by simp [results, Tryz.results130, go_sem, q0, q1, q2]) rfl ⟨⟨_, rfl, _, _, rfl, HR9.out.set3 q0 q1 q2 _ _ _, HS9.out.set3 q0 q1 q2 _ _ _⟩, ((hbw.setCell (by simp <;> omega) _).setCell (by simp <;> omega) _).setCell (by simp <;> omega) _⟩
  ·have HLE := h0d hle
   have HSG : Hid (signed nh (b - a) = z + t) := by show _ = _; rw [← HA1.out, ← HB1.out, ← HNH.out, Int.add_comm]; exact signed_diff (fun h => HE.out h.symm) (by rw [HA1.out, HB1.out]; have := HLE.out; omega)
   have HSZ : Hid (dm (b - a) ≤ 800001) := Nat.le_trans (dm_mono (Nat.sub_le _ _)) (by have := HP1.out; have := HP2.out; omega)
   obtain ⟨cv, hcv⟩ : ∃ c, c = cmpN a b := ⟨_, rfl⟩
   rw [← hcv] at HORD
   have hcn : ¬ (0 ≤ cv) := by rw [hcv]; unfold cmpN; rw [if_pos (by omega)]; omega
   have hcb : decide (0 ≤ cv) = false := by simpa using hcn
   clear hle hcv
   go_enter Tryz.func130, Tryz.ntmps130
   go_wp2_with fail
   rw [← HW2.out]
   have HBD1 : Hid (Below W2.heap.size W2 W2.drew) := HBs.out.drew
   have dd0 := HARG0.out _ HBD1.out
   have dd1 := HARG1.out _ HBD1.out
   refine seq_start (S := fun w' => w'.cell? ⟨w.heap.size, 0, none⟩ = some (Value.bool ng) ∧ w'.cell? ⟨w.heap.size, 1, none⟩ = some (Value.slice Aa ka ca) ∧ w'.cell? ⟨w.heap.size, 2, none⟩ = some (Value.slice Ab kb cb) ∧ w'.cell? ⟨w.heap.size + 1, 0, none⟩ = some (Value.bool nh) ∧ w'.cell? ⟨w.heap.size + 1, 1, none⟩ = some (Value.slice Ac kc cc) ∧ w'.cell? ⟨w.heap.size + 1, 2, none⟩ = some (Value.slice Ad kd cd)) (by kernel_rfl) (by kernel_rfl) (by exact ⟨(dd0 0).1, (dd0 1).1, (dd0 2).1, (dd1 0).1, (dd1 1).1, (dd1 2).1⟩) ?_
   clear dd0 dd1
   repeat (first | refine tk0 (h := ?_) | refine tkG (h := ?_) | refine skG (h := ?_))
   refine seq_pull 1 ?_
   simp only [places, pull]
   (first
    | refine tk0 (h := ?_)
    | refine tkG (h := ?_)
    | refine skG (h := ?_))
   refine seq_op (by kernel_rfl) (by rfl) (fun K hK => ?_)
   go_simp
   refine (HU1.out _ (HB2W.out.trans (HBD1.out.mono HB2W.out.size))).mono ?_
   rintro e w3 ⟨⟨v3, rfl, hr3⟩, hbx⟩
   obtain ⟨A3, n3, c3, rfl⟩ := hr3.slice
   have HR3 := h0d hr3
   have HB_w3 : Hid (Below W2.heap.size W2 w3) := HBD1.out.trans (hbx.mono HBD1.out.size)
   have dd0 := HARG0.out _ HB_w3.out
   have dd1 := HARG1.out _ HB_w3.out
   refine hK.out _ _ (by exact ⟨(dd0 0).1, (dd0 1).1, (dd0 2).1, (dd1 0).1, (dd1 1).1, (dd1 2).1⟩) ?_
   clear hK K dd0 dd1 hbx hr3
   repeat (first | refine tk0 (h := ?_) | refine tkG (h := ?_) | refine skG (h := ?_))
   refine seq_op (by kernel_rfl) (by rfl) (fun K hK => ?_)
   go_simp
   refine (HU2.out _ (HB2W.out.trans (HB_w3.out.mono HB2W.out.size))).mono ?_
   rintro e w4 ⟨⟨v4, rfl, hr4⟩, hbx⟩
   obtain ⟨A4, n4, c4, rfl⟩ := hr4.slice
   have HR4 := h0d hr4
   have HR34 := h0d (HR3.out.below hbx)
   have HB_w4 : Hid (Below W2.heap.size W2 w4) := HB_w3.out.trans (hbx.mono HB_w3.out.size)
   have dd0 := HARG0.out _ HB_w4.out
   have dd1 := HARG1.out _ HB_w4.out
   refine hK.out _ _ (by exact ⟨(dd0 0).1, (dd0 1).1, (dd0 2).1, (dd1 0).1, (dd1 1).1, (dd1 2).1⟩) ?_
   clear hK K dd0 dd1 hbx hr4
   repeat (first | refine tk0 (h := ?_) | refine tkG (h := ?_) | refine skG (h := ?_))
   refine seq_done (by kernel_rfl) ?_
   go_wp2_with fail
   have HBD2 : Hid (Below W2.heap.size W2 w4.drew) := HB_w4.out.drew
   have dd0 := HARG0.out _ HBD2.out
   have dd1 := HARG1.out _ HBD2.out
   refine seq_start (S := fun w' => w'.cell? ⟨w.heap.size, 0, none⟩ = some (Value.bool ng) ∧ w'.cell? ⟨w.heap.size, 1, none⟩ = some (Value.slice Aa ka ca) ∧ w'.cell? ⟨w.heap.size, 2, none⟩ = some (Value.slice Ab kb cb) ∧ w'.cell? ⟨w.heap.size + 1, 0, none⟩ = some (Value.bool nh) ∧ w'.cell? ⟨w.heap.size + 1, 1, none⟩ = some (Value.slice Ac kc cc) ∧ w'.cell? ⟨w.heap.size + 1, 2, none⟩ = some (Value.slice Ad kd cd)) (by kernel_rfl) (by kernel_rfl) (by exact ⟨(dd0 0).1, (dd0 1).1, (dd0 2).1, (dd1 0).1, (dd1 1).1, (dd1 2).1⟩) ?_
   clear dd0 dd1
   repeat (first | refine tk0 (h := ?_) | refine tkG (h := ?_) | refine skG (h := ?_))
   refine seq_pull 1 ?_
   simp only [places, pull]
   (first
    | refine tk0 (h := ?_)
    | refine tkG (h := ?_)
    | refine skG (h := ?_))
   refine seq_pull 1 ?_
   simp only [places, pull]
   (first
    | refine tk0 (h := ?_)
    | refine tkG (h := ?_)
    | refine skG (h := ?_))
   refine seq_pull 1 ?_
   simp only [places, pull]
   (first
    | refine tk0 (h := ?_)
    | refine tkG (h := ?_)
    | refine skG (h := ?_))
   refine seq_op (by kernel_rfl) (by rfl) (fun K hK => ?_)
   go_simp
   refine (HPA.out _ _ (HB2W.out.trans (HBD2.out.mono HB2W.out.size)) (HR4.out.below (by exact (Below.refl _ w4).drew))).mono ?_
   rintro e w5 ⟨⟨v5, rfl, hr5⟩, hbx⟩
   obtain ⟨A5, n5, c5, rfl⟩ := hr5.slice
   have HR5 := h0d hr5
   have HB45 : Hid (Below w4.heap.size w4 w5) := ((Below.refl _ w4).drew).trans hbx
   have HB_w5 : Hid (Below W2.heap.size W2 w5) := HBD2.out.trans (hbx.mono HBD2.out.size)
   have dd0 := HARG0.out _ HB_w5.out
   have dd1 := HARG1.out _ HB_w5.out
   refine hK.out _ _ (by exact ⟨(dd0 0).1, (dd0 1).1, (dd0 2).1, (dd1 0).1, (dd1 1).1, (dd1 2).1⟩) ?_
   clear hK K dd0 dd1 hbx hr5
   repeat (first | refine tk0 (h := ?_) | refine tkG (h := ?_) | refine skG (h := ?_))
   refine seq_op (by kernel_rfl) (by rfl) (fun K hK => ?_)
   go_simp
   refine (HPB.out _ _ (HB2W.out.trans (HB_w5.out.mono HB2W.out.size)) (HR34.out.below HB45.out)).mono ?_
   rintro e w6 ⟨⟨v6, rfl, hr6⟩, hbx⟩
   obtain ⟨A6, n6, c6, rfl⟩ := hr6.slice
   have HR6 := h0d hr6
   have HR56 := h0d (HR5.out.below hbx)
   have HB46 : Hid (Below w4.heap.size w4 w6) := HB45.out.trans (hbx.mono HB45.out.size)
   have HB_w6 : Hid (Below W2.heap.size W2 w6) := HB_w5.out.trans (hbx.mono HB_w5.out.size)
   have dd0 := HARG0.out _ HB_w6.out
   have dd1 := HARG1.out _ HB_w6.out
   refine hK.out _ _ (by exact ⟨(dd0 0).1, (dd0 1).1, (dd0 2).1, (dd1 0).1, (dd1 1).1, (dd1 2).1⟩) ?_
   clear hK K dd0 dd1 hbx hr6
   repeat (first | refine tk0 (h := ?_) | refine tkG (h := ?_) | refine skG (h := ?_))
   have HR36 := h0d (HR34.out.below HB46.out)
   have HR46 := h0d (HR4.out.below HB46.out)
   have cc0_0 : w6.cell? ⟨w.heap.size, 0, none⟩ = some (Value.bool ng) := (HARG0.out _ HB_w6.out 0).1
   have cc0_1 : w6.cell? ⟨w.heap.size, 1, none⟩ = some (Value.slice Aa ka ca) := (HARG0.out _ HB_w6.out 1).1
   have cc0_2 : w6.cell? ⟨w.heap.size, 2, none⟩ = some (Value.slice Ab kb cb) := (HARG0.out _ HB_w6.out 2).1
   have cc1_0 : w6.cell? ⟨w.heap.size + 1, 0, none⟩ = some (Value.bool nh) := (HARG1.out _ HB_w6.out 0).1
   have cc1_1 : w6.cell? ⟨w.heap.size + 1, 1, none⟩ = some (Value.slice Ac kc cc) := (HARG1.out _ HB_w6.out 1).1
   have cc1_2 : w6.cell? ⟨w.heap.size + 1, 2, none⟩ = some (Value.slice Ad kd cd) := (HARG1.out _ HB_w6.out 2).1
   refine seq_done (by kernel_rfl) ?_
   go_wp2_with (go_at_call 190; refine (HORD.out _ _ _ HR56.out HR6.out).mono ?_; rintro e w62 ⟨rfl, hbx⟩; have HB62 := h0d hbx; have HR57 := h0d (HR56.out.below hbx); have HR67 := h0d (HR6.out.below hbx); have HB_w62 : Hid (Below W2.heap.size W2 w62) := HB_w6.out.trans (hbx.mono HB_w6.out.size); clear hbx)
   clear cc0_0 cc0_1 cc0_2 cc1_0 cc1_1 cc1_2
   have HBDx : Hid (Below w62.heap.size w62 w62.drew) := (Below.refl _ w62).drew
   have HR36 := h0d (HR36.out.below HB62.out)
   have HR46 := h0d (HR46.out.below HB62.out)
   have HBD3 : Hid (Below W2.heap.size W2 w62.drew) := HB_w62.out.drew
   have dd0 := HARG0.out _ HBD3.out
   have dd1 := HARG1.out _ HBD3.out
   refine seq_start (S := fun w' => w'.cell? ⟨w.heap.size, 0, none⟩ = some (Value.bool ng) ∧ w'.cell? ⟨w.heap.size, 1, none⟩ = some (Value.slice Aa ka ca) ∧ w'.cell? ⟨w.heap.size, 2, none⟩ = some (Value.slice Ab kb cb) ∧ w'.cell? ⟨w.heap.size + 1, 0, none⟩ = some (Value.bool nh) ∧ w'.cell? ⟨w.heap.size + 1, 1, none⟩ = some (Value.slice Ac kc cc) ∧ w'.cell? ⟨w.heap.size + 1, 2, none⟩ = some (Value.slice Ad kd cd)) (by kernel_rfl) (by kernel_rfl) (by exact ⟨(dd0 0).1, (dd0 1).1, (dd0 2).1, (dd1 0).1, (dd1 1).1, (dd1 2).1⟩) ?_
   clear dd0 dd1
   repeat (first | refine tk0 (h := ?_) | refine tkG (h := ?_) | refine skG (h := ?_))
   refine seq_pull 1 ?_
   simp only [places, pull]
   (first
    | refine tk0 (h := ?_)
    | refine tkG (h := ?_)
    | refine skG (h := ?_))
   refine seq_pull 1 ?_
   simp only [places, pull]
   (first
    | refine tk0 (h := ?_)
    | refine tkG (h := ?_)
    | refine skG (h := ?_))
   refine seq_op (by kernel_rfl) (by rfl) (fun K hK => ?_)
   go_simp
   refine (HDBA.out _ _ _ (HR67.out.below HBDx.out) (HR57.out.below HBDx.out) (by have := HLE.out; omega)).mono ?_
   rintro e w7 ⟨⟨v7, rfl, hr7⟩, hbx⟩
   obtain ⟨A7, n7, c7, rfl⟩ := hr7.slice
   have HR7 := h0d hr7
   have HB67 : Hid (Below w62.heap.size w62 w7) := HBDx.out.trans (hbx.mono HBDx.out.size)
   have HB_w7 : Hid (Below W2.heap.size W2 w7) := HBD3.out.trans (hbx.mono HBD3.out.size)
   have dd0 := HARG0.out _ HB_w7.out
   have dd1 := HARG1.out _ HB_w7.out
   refine hK.out _ _ (by exact ⟨(dd0 0).1, (dd0 1).1, (dd0 2).1, (dd1 0).1, (dd1 1).1, (dd1 2).1⟩) ?_
   clear hK K dd0 dd1 hbx hr7
   repeat (first | refine tk0 (h := ?_) | refine tkG (h := ?_) | refine skG (h := ?_))
   refine seq_op (by kernel_rfl) (by rfl) (fun K hK => ?_)
   go_simp
   refine (HPD.out _ _ _ (HR36.out.below HB67.out) (HR46.out.below HB67.out)).mono ?_
   rintro e w8 ⟨⟨v8, rfl, hr8⟩, hbx⟩
   obtain ⟨A8, n8, c8, rfl⟩ := hr8.slice
   have HR8 := h0d hr8
   have HR78 := h0d (HR7.out.below hbx)
   have HB_w8 : Hid (Below W2.heap.size W2 w8) := HB_w7.out.trans (hbx.mono HB_w7.out.size)
   have dd0 := HARG0.out _ HB_w8.out
   have dd1 := HARG1.out _ HB_w8.out
   refine hK.out _ _ (by exact ⟨(dd0 0).1, (dd0 1).1, (dd0 2).1, (dd1 0).1, (dd1 1).1, (dd1 2).1⟩) ?_
   clear hK K dd0 dd1 hbx hr8
   repeat (first | refine tk0 (h := ?_) | refine tkG (h := ?_) | refine skG (h := ?_))
   refine seq_op (by kernel_rfl) (by rfl) (fun K hK => ?_)
   go_simp
   refine (HFR.out nh (b - a) _ _ _ HR78.out HR8.out HSZ.out HSG.out).mono ?_
   rintro e w9 ⟨⟨v9, rfl, hz9⟩, hbx⟩
   obtain ⟨A9, n9, c9, B9, m9, k9, rfl, hr9, hs9⟩ := hz9.parts
   have HR9 := h0d hr9
   have HS9 := h0d hs9
   have HB_w9 : Hid (Below W2.heap.size W2 w9) := HB_w8.out.trans (hbx.mono HB_w8.out.size)
   have dd0 := HARG0.out _ HB_w9.out
   have dd1 := HARG1.out _ HB_w9.out
   refine hK.out _ _ (by exact ⟨(dd0 0).1, (dd0 1).1, (dd0 2).1, (dd1 0).1, (dd1 1).1, (dd1 2).1⟩) ?_
   clear hK K dd0 dd1 hbx hr9 hs9 hz9
   repeat (first | refine tk0 (h := ?_) | refine tkG (h := ?_) | refine skG (h := ?_))
   refine seq_op (by kernel_rfl) (by rfl) (fun K hK => ?_)
   have qq := HRES0.out _ HB_w9.out
   have q0 := (qq 0).1
   have q1 := (qq 1).1
   have q2 := (qq 2).1
   have qf0 := (qq 0).2
   have qf1 := (qq 1).2
   have qf2 := (qq 2).2
   simp only [List.getElem?_toArray, List.getElem?_cons_zero, List.getElem?_cons_succ] at q0 q1 q2
   clear qq
   go_simp
   have dd0 := HARG0.out _ HB_w9.out
   have dd1 := HARG1.out _ HB_w9.out
   refine hK.out _ _ (by go_simp; (first | done | exact ⟨(dd0 0).1, (dd0 1).1, (dd0 2).1, (dd1 0).1, (dd1 1).1, (dd1 2).1⟩)) ?_
   clear hK K dd0 dd1
   repeat (first | refine tk0 (h := ?_) | refine tkG (h := ?_) | refine skG (h := ?_))
   refine seq_done (by kernel_rfl) ?_
   go_wp2_with fail
   have hbw := HB2W.out.trans (HB_w9.out.mono HB2W.out.size)
   exact bodyPost_ret (v := .agg #[.bool (decide ((x + y).num < 0)), .slice A9 n9 c9, .slice B9 m9 k9]) (by simp [results, Tryz.results130, go_sem, q0, q1, q2]) rfl ⟨⟨_, rfl, _, _, rfl, HR9.out.set3 q0 q1 q2 _ _ _, HS9.out.set3 q0 q1 q2 _ _ _⟩, ((hbw.setCell (by simp <;> omega) _).setCell (by simp <;> omega) _).setCell (by simp <;> omega) _⟩
end Go.Proofs.YtodckaioeomccaaGreat
namespace Go.Proofs.YtodckaioeomccaaGreat
open Go.RowKit
set_option linter.unusedVariables false
set_option linter.unusedSimpArgs false
def WholePost (n : Int) (w : World) (e : Ending) (w' : World) : Prop := ∃ A k c B k' c', e = .returned (.agg #[.bool (decide (n < 0)), .slice A k c, .slice B k' c']) ∧ RdM w' (.slice A k c) n.natAbs ∧ Below w.heap.size w w'
theorem rwhole_parts (n : Int) (w : World) (h1 : -9223372036854775808 ≤ n) (h2 : n ≤ 9223372036854775807) : Calls Tryz.prog 104 #[.int .i64 n] w fun e w' => WholePost n w e w' :=
 (rwhole_any n w h1 h2).mono fun e w' ⟨⟨v', h3, h4⟩, h5⟩ => by
  obtain ⟨A, k, c, B, k', c', rfl, g1, g2⟩ := h4.parts
  exact ⟨A, k, c, B, k', c', h3, g1, h5⟩
set_option maxRecDepth 100000 in
set_option maxHeartbeats 4000000 in
theorem rnew_any (n d : Int) (w : World) (h1 : -9223372036854775808 ≤ n) (h2 : n ≤ 9223372036854775807) (h3 : -9223372036854775808 ≤ d) (h4 : d ≤ 9223372036854775807) (hd : d ≠ 0) :
  Calls Tryz.prog 101 #[.int .i64 n, .int .i64 d] w fun e w' => (∃ v', e = .returned (.tuple #[v', .int .i64 0]) ∧ RdF w' v' (ratio n d)) ∧ Below w.heap.size w w' := by
 have hdb : (d == 0) = false := by simp [hd]
 have HO1 := h0d (fun w' => rwhole_parts n w' h1 h2)
 have HO2 := h0d (fun w' => rwhole_parts d w' h3 h4)
 have HRQ := ratio_signed n d hd
 obtain ⟨ng, hng⟩ : ∃ b, b = decide (n < 0) := ⟨_, rfl⟩
 obtain ⟨nh, hnh⟩ : ∃ b, b = decide (d < 0) := ⟨_, rfl⟩
 rw [← hng, ← hnh] at HRQ
 obtain ⟨nx, hnx⟩ : ∃ b, b = (ng != nh) := ⟨_, rfl⟩
 rw [← hnx] at HRQ
 have HFR : Hid (∀ v1 v2 w', RdM w' v1 n.natAbs → RdM w' v2 d.natAbs → Calls Tryz.prog 187 #[.bool nx, v1, v2] w' fun e w'' => (∃ v', e = .returned v' ∧ RdF w'' v' (ratio n d)) ∧ Below w'.heap.size w' w'') := fun v1 v2 w' g1 g2 => by
  have := rfrac_any nx v1 v2 n.natAbs d.natAbs w' g1 g2 (by omega) (Nat.le_trans (dm_word (by unfold B64; omega)) (by omega)) (Nat.le_trans (dm_word (by unfold B64; omega)) (by omega))
  rw [HRQ] at this
  exact this
 have HNG := h0d hng
 have HNH := h0d hnh
 have hnx' : (!(ng == nh)) = nx := hnx.symm
 obtain ⟨W1, hW1⟩ : ∃ W, W = w.alloc (.cells #[.bool false, .slice none 0 0, .slice none 0 0] 40) := ⟨_, rfl⟩
 have HW1 : Hid (Below w.heap.size w W1) := by rw [hW1]; exact (Below.refl _ w).alloc (Nat.le_refl _) _
 have HRS : Hid (∀ w', Below W1.heap.size W1 w' → _) := fun w' h => res3 (c0 := .bool false) (c1 := .slice none 0 0) (c2 := .slice none 0 0) (b := w.heap.size) (t := 40) (by rw [hW1]; exact heap_alloc_new w _) h
 have HSZ : Hid (w.heap.size < W1.heap.size) := by show _ < _; rw [hW1]; simp
 have HE := h0d hW1
 clear hng hnh hnx hd hW1 HRQ
 go_enter Tryz.func101, Tryz.ntmps101
 go_wp2_with fail
 rw [← HE.out]
 refine (HO1.out _).mono ?_
 rintro e w3 ⟨A3, k3, c3, B3, m3, d3, rfl, hr3, hb3⟩
 rw [← HNG.out]
 have HR3 := h0d hr3
 have HB3 := h0d hb3
 clear hr3 hb3
 go_wp2_with fail
 refine (HO2.out _).mono ?_
 rintro e w4 ⟨A4, k4, c4, B4, m4, d4, rfl, hr4, hb4⟩
 rw [← HNH.out]
 have HR4 := h0d hr4
 have HR34 := h0d (HR3.out.below hb4)
 have HB4 : Hid (Below W1.heap.size W1 w4) := HB3.out.trans (hb4.mono HB3.out.size)
 clear hr4 hb4
 have hl4 : w.heap.size < w4.heap.size := by have := HB4.out.size; have := HSZ.out; omega
 go_wp2_with fail
 have HBA : Hid (Below w4.heap.size w4 ((w4.alloc (.cells #[.bool ng, .slice A3 k3 c3, .slice B3 m3 d3] 40)).alloc (.cells #[.bool nh, .slice A4 k4 c4, .slice B4 m4 d4] 40))) := ((Below.refl _ w4).alloc (Nat.le_refl _) _).alloc (by simp) _
 refine (HFR.out _ _ _ (HR34.out.below HBA.out) (HR4.out.below HBA.out)).mono ?_
 rintro e w5 ⟨⟨v5, rfl, hr5⟩, hb5⟩
 obtain ⟨A5, n5, c5, A6, n6, c6, rfl, hr6, hr7⟩ := hr5.parts
 have HR6 := h0d hr6
 have HR7 := h0d hr7
 have hbA5 : Below W1.heap.size W1 w5 := (HB4.out.trans (HBA.out.mono HB4.out.size)).trans (hb5.mono (Nat.le_trans HB4.out.size HBA.out.size))
 have HBW5 : Hid (Below w.heap.size w w5) := HW1.out.trans (hbA5.mono HW1.out.size)
 obtain ⟨q0, q1, q2, q3, q4, q5⟩ := HRS.out _ hbA5
 clear hr5 hr6 hr7 hb5 hbA5
 obtain ⟨dn, hdn⟩ : ∃ b, b = decide ((ratio n d).num < 0) := ⟨_, rfl⟩
 rw [← hdn]
 have HDN := h0d hdn
 clear hdn
 go_wp2_with fail
 exact bodyPost_ret (v := .tuple #[.agg #[.bool dn, .slice A5 n5 c5, .slice A6 n6 c6], .int .i64 0]) (by simp [results, Tryz.results101, go_sem, q0, q1, q2]) rfl ⟨⟨_, rfl, _, _, by rw [HDN.out], HR6.out.set3 q0 q1 q2 _ _ _, HR7.out.set3 q0 q1 q2 _ _ _⟩, ((HBW5.out.setCell (by simp) _).setCell (by simp) _).setCell (by simp) _⟩
set_option maxRecDepth 100000 in
set_option maxHeartbeats 4000000 in
theorem rof_agg (n d : Int) (w : World) (h1 : -9223372036854775808 ≤ n) (h2 : n ≤ 9223372036854775807) (h3 : -9223372036854775808 ≤ d) (h4 : d ≤ 9223372036854775807) :
  Calls Tryz.prog 29 #[.agg #[.int .i64 n, .int .i64 d]] w fun e w' => (∃ v', e = .returned v' ∧ RdF w' v' (ofRatio n d)) ∧ Below w.heap.size w w' := by
 obtain ⟨W2, hW2⟩ : ∃ W2, W2 = (w.alloc (Obj.cells #[Value.int .i64 n, .int .i64 d] 59)).alloc (Obj.cells #[Value.bool false, Value.slice none 0 0, Value.slice none 0 0] 40) := ⟨_, rfl⟩
 have HB2 : Hid (Below w.heap.size w W2) := by rw [hW2]; exact ((Below.refl _ _).alloc (Nat.le_refl _) _).alloc (by simp) _
 have HRS : Hid (∀ w', Below W2.heap.size W2 w' → _) := fun w' h => res3 (c0 := .bool false) (c1 := .slice none 0 0) (c2 := .slice none 0 0) (b := w.heap.size + 1) (t := 40) (by rw [hW2]; have := heap_alloc_new (w.alloc (Obj.cells #[Value.int .i64 n, .int .i64 d] 59)) (.cells #[Value.bool false, Value.slice none 0 0, Value.slice none 0 0] 40); simpa using this) h
 have HW2 := h0d hW2
 have HO1 := h0d (fun w' => rwhole_any n w' h1 h2)
 clear hW2
 by_cases hd : d = 0
 ·have hdb : (d == 0) = true := by simp [hd]
  have HE : Hid (ofRatio n d = (n : Rat)) := by show _ = _; unfold ofRatio; rw [if_pos hd]
  rw [HE.out]
  clear hd
  go_enter Tryz.func29, Tryz.ntmps29
  go_wp2_with fail
  rw [← HW2.out]
  refine (HO1.out _).mono ?_
  rintro e w3 ⟨⟨v3, rfl, hz3⟩, hb3⟩
  obtain ⟨A3, n3, c3, B3, m3, k3, rfl, hr3, hs3⟩ := hz3.parts
  obtain ⟨q0, q1, q2, q3, q4, q5⟩ := HRS.out _ hb3
  have HR3 := h0d hr3
  have HS3 := h0d hs3
  have hbw : Below w.heap.size w w3 := HB2.out.trans (hb3.mono HB2.out.size)
  have HBW := h0d hbw
  clear hr3 hs3 hb3 hbw hz3
  go_wp2_with fail
  exact bodyPost_ret (v := .agg #[.bool (decide ((n : Rat).num < 0)), .slice A3 n3 c3, .slice B3 m3 k3]) (by simp [results, Tryz.results29, go_sem, q0, q1, q2]) rfl ⟨⟨_, rfl, _, _, rfl, HR3.out.set3 q0 q1 q2 _ _ _, HS3.out.set3 q0 q1 q2 _ _ _⟩, ((HBW.out.setCell (by simp <;> omega) _).setCell (by simp <;> omega) _).setCell (by simp <;> omega) _⟩
 ·have hdb : (d == 0) = false := by simp [hd]
  have HE : Hid (ofRatio n d = ratio n d) := by show _ = _; unfold ofRatio; rw [if_neg hd]
  rw [HE.out]
  have HO2 := h0d (fun w' => rnew_any n d w' h1 h2 h3 h4 hd)
  clear hd
  go_enter Tryz.func29, Tryz.ntmps29
  go_wp2_with fail
  rw [← HW2.out]
  refine (HO2.out _).mono ?_
  rintro e w3 ⟨⟨v3, rfl, hz3⟩, hb3⟩
  obtain ⟨A3, n3, c3, B3, m3, k3, rfl, hr3, hs3⟩ := hz3.parts
  obtain ⟨W4, hW4⟩ : ∃ W4, W4 = w3.alloc (Obj.cells #[Value.bool (decide ((ratio n d).num < 0)), .slice A3 n3 c3, .slice B3 m3 k3] 40) := ⟨_, rfl⟩
  have hb4 : Below W2.heap.size W2 W4 := by rw [hW4]; exact hb3.alloc hb3.size _
  obtain ⟨q0, q1, q2, q3, q4, q5⟩ := HRS.out _ hb4
  have HR3 : Hid (RdM W4 (.slice A3 n3 c3) (ratio n d).num.natAbs) := by rw [hW4]; exact hr3.below ((Below.refl _ _).alloc (Nat.le_refl _) _)
  have HS3 : Hid (RdM W4 (.slice B3 m3 k3) (ratio n d).den) := by rw [hW4]; exact hs3.below ((Below.refl _ _).alloc (Nat.le_refl _) _)
  have HBW : Hid (Below w.heap.size w W4) := HB2.out.trans (hb4.mono HB2.out.size)
  rw [hW4] at q0 q1 q2 q3 q4 q5 HR3 HS3 HBW
  clear hr3 hs3 hb3 hb4 hW4 hz3
  go_wp2_with fail
  exact bodyPost_ret (v := .agg #[.bool (decide ((ratio n d).num < 0)), .slice A3 n3 c3, .slice B3 m3 k3]) (by simp [results, Tryz.results29, go_sem, q0, q1, q2]) rfl ⟨⟨_, rfl, _, _, rfl, HR3.out.set3 q0 q1 q2 _ _ _, HS3.out.set3 q0 q1 q2 _ _ _⟩, ((HBW.out.setCell (by simp <;> omega) _).setCell (by simp <;> omega) _).setCell (by simp <;> omega) _⟩
end Go.Proofs.YtodckaioeomccaaGreat
