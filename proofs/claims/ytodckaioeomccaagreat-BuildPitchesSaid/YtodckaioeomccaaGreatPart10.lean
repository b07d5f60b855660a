/- The package math/bits: two words divided by one. -/
import Derived.Test.YtodckaioeomccaaGreatPart03
import Derived.Test.YtodckaioeomccaaGreatPart08
import Derived.Lib.BitFns
import Derived.Test.YtodckaioeomccaaGreatPart04
import Derived.Deep.CutBlock
import Derived.Deep.DeepCutAuto
namespace Go.Proofs.YtodckaioeomccaaGreat
open Go.RowKit
set_option linter.unusedVariables false
set_option linter.unusedSimpArgs false
theorem bitLenAux_spec : ∀ (f x : Nat), x < 2 ^ f → x < 2 ^ Lib.bitLenAux f x ∧ (x ≠ 0 → 1 ≤ Lib.bitLenAux f x ∧ 2 ^ (Lib.bitLenAux f x - 1) ≤ x)
 | 0, x, h => by
  have : x = 0 := by simpa using h
  subst this; simp [Lib.bitLenAux]
 | f + 1, x, h => by
  simp only [Lib.bitLenAux]
  split
  ·rename_i hx; subst hx; simp
  ·rename_i hx
   have ih := bitLenAux_spec f (x / 2) (by rw [Nat.pow_succ] at h; omega)
   refine ⟨?_, fun _ => ⟨by omega, ?_⟩⟩
   ·rw [Nat.add_comm 1, Nat.pow_succ]; omega
   ·rw [show 1 + Lib.bitLenAux f (x / 2) - 1 = Lib.bitLenAux f (x / 2) by omega]
    by_cases h2 : x / 2 = 0
    ·have : Lib.bitLenAux f (x / 2) = 0 := by
      rw [h2]
      cases f <;> simp [Lib.bitLenAux]
     rw [this]; simp; omega
    ·obtain ⟨h3, h4⟩ := ih.2 h2
     have : 2 ^ Lib.bitLenAux f (x / 2) = 2 ^ (Lib.bitLenAux f (x / 2) - 1) * 2 := by rw [← Nat.pow_succ]; congr 1; omega
     omega
theorem two64 : (2 : Nat) ^ 64 = 18446744073709551616 := by decide
theorem bitLen_spec {x : Nat} (h : x < 18446744073709551616) (h0 : x ≠ 0) : 1 ≤ Lib.bitLen x ∧ Lib.bitLen x ≤ 64 ∧ x < 2 ^ Lib.bitLen x ∧ 2 ^ (Lib.bitLen x - 1) ≤ x := by
 obtain ⟨h1, h2⟩ := bitLenAux_spec 64 x (by rw [two64]; exact h)
 obtain ⟨h3, h4⟩ := h2 h0
 exact ⟨h3, Lib.bitLen_le x 64 (Nat.le_refl _) (by rw [two64]; exact h), h1, h4⟩
structure Up (hi lo y s Y N U : Nat) : Prop where
 s63 : s ≤ 63
 eY : Y = y * 2 ^ s
 Y64 : Y < 18446744073709551616
 Y63 : 9223372036854775808 ≤ Y
 eN : N = hi * 2 ^ s + lo / 2 ^ (64 - s)
 hN : N < Y
 hh : hi * 2 ^ s < 18446744073709551616
 hl : lo / 2 ^ (64 - s) < 2 ^ s
 eU : U = lo * 2 ^ s % 18446744073709551616
 all : N * 18446744073709551616 + U = (hi * 18446744073709551616 + lo) * 2 ^ s
theorem up_of {hi lo y : Nat} (hy : hi < y) (hyB : y < 18446744073709551616) (hlo : lo < 18446744073709551616) :
  Up hi lo y (64 - Lib.bitLen y) (y * 2 ^ (64 - Lib.bitLen y)) (hi * 2 ^ (64 - Lib.bitLen y) + lo / 2 ^ (64 - (64 - Lib.bitLen y))) (lo * 2 ^ (64 - Lib.bitLen y) % 18446744073709551616) := by
 obtain ⟨h1, h2, h3, h4⟩ := bitLen_spec hyB (by omega)
 obtain ⟨s, hs⟩ : ∃ s, s = 64 - Lib.bitLen y := ⟨_, rfl⟩
 rw [← hs]
 have hp : 0 < 2 ^ s := Nat.two_pow_pos s
 have hY : y * 2 ^ s < 18446744073709551616 := by
  have : y * 2 ^ s < 2 ^ Lib.bitLen y * 2 ^ s := Nat.mul_lt_mul_of_pos_right h3 hp
  rwa [← Nat.pow_add, show Lib.bitLen y + s = 64 by omega, two64] at this
 have hY3 : 9223372036854775808 ≤ y * 2 ^ s := by
  have : 2 ^ (Lib.bitLen y - 1) * 2 ^ s ≤ y * 2 ^ s := Nat.mul_le_mul_right _ h4
  rwa [← Nat.pow_add, show Lib.bitLen y - 1 + s = 63 by omega, show (2 : Nat) ^ 63 = 9223372036854775808 by decide] at this
 have e64 : 2 ^ (64 - s) * 2 ^ s = 18446744073709551616 := by rw [← Nat.pow_add, show 64 - s + s = 64 by omega, two64]
 have hq : lo * 2 ^ s / 18446744073709551616 = lo / 2 ^ (64 - s) := by rw [← e64, Nat.mul_div_mul_right _ _ hp]
 have hall : (hi * 2 ^ s + lo / 2 ^ (64 - s)) * 18446744073709551616 + lo * 2 ^ s % 18446744073709551616 = (hi * 18446744073709551616 + lo) * 2 ^ s := by
  have := Nat.div_add_mod (lo * 2 ^ s) 18446744073709551616
  rw [hq] at this
  have e1 : hi * 18446744073709551616 * 2 ^ s = hi * 2 ^ s * 18446744073709551616 := by rw [Nat.mul_assoc, Nat.mul_comm 18446744073709551616, ← Nat.mul_assoc]
  rw [Nat.add_mul, Nat.add_mul, e1]
  omega
 have hN : hi * 2 ^ s + lo / 2 ^ (64 - s) < y * 2 ^ s := by
  have e2 : (hi * 18446744073709551616 + lo) * 2 ^ s < y * 18446744073709551616 * 2 ^ s := by
   refine Nat.mul_lt_mul_of_pos_right ?_ hp
   have : (hi + 1) * 18446744073709551616 ≤ y * 18446744073709551616 := Nat.mul_le_mul_right _ hy
   omega
  have e3 : y * 18446744073709551616 * 2 ^ s = y * 2 ^ s * 18446744073709551616 := by rw [Nat.mul_assoc, Nat.mul_comm 18446744073709551616, ← Nat.mul_assoc]
  rw [← hall, e3] at e2
  omega
 refine ⟨by omega, rfl, hY, hY3, rfl, hN, ?_, ?_, rfl, hall⟩
 ·have : hi * 2 ^ s ≤ y * 2 ^ s := Nat.mul_le_mul_right _ (by omega)
  omega
 ·rw [Nat.div_lt_iff_lt_mul (Nat.two_pow_pos _), Nat.mul_comm, e64]; exact hlo
theorem wrap_nat (a : Nat) (ha : a < 18446744073709551616) : IntKind.u64.wrap (a : Int) = (a : Int) := Mul64.wrapN a ha
theorem lz_any (y : Nat) (hy : y < 18446744073709551616) (w : World) : Calls Tryz.prog 266 #[.int .u64 (y : Int)] w fun e w' => e = .returned (.int .i64 (64 - (Lib.bitLen y : Int))) ∧ w = w' :=
 (Tryz.bits_LeadingZeros64 (y : Int) w (by omega) (by omega)).mono fun e w' ⟨h1, h2⟩ => ⟨h1, h2.symm⟩
set_option maxRecDepth 100000 in
set_option maxHeartbeats 8000000 in
theorem div64_any (hi lo y : Nat) (hy : hi < y) (hyB : y < 18446744073709551616) (hlo : lo < 18446744073709551616) (w : World) :
  Calls Tryz.prog 271 #[.int .u64 (hi : Int), .int .u64 (lo : Int), .int .u64 (y : Int)] w fun e w' => e = .returned (.tuple #[.int .u64 (((hi * 18446744073709551616 + lo) / y : Nat) : Int), .int .u64 (((hi * 18446744073709551616 + lo) % y : Nat) : Int)]) ∧ Below w.heap.size w w' := by
 have hy0b : ((y : Int) == 0) = false := by simp; omega
 have hyh : ¬ ((y : Int) ≤ (hi : Int)) := by omega
 by_cases hh : hi = 0
 ·subst hh
  have HQ : Hid ((0 * 18446744073709551616 + lo) / y = lo / y) := by show _ = _; rw [Nat.zero_mul, Nat.zero_add]
  have HR : Hid ((0 * 18446744073709551616 + lo) % y = lo % y) := by show _ = _; rw [Nat.zero_mul, Nat.zero_add]
  obtain ⟨q, hq⟩ : ∃ q, q = lo / y := ⟨_, rfl⟩
  obtain ⟨r, hr⟩ : ∃ q, q = lo % y := ⟨_, rfl⟩
  rw [← hq] at HQ
  rw [← hr] at HR
  have hql : q ≤ lo := by rw [hq]; exact Nat.div_le_self _ _
  have hrl : r ≤ lo := by rw [hr]; exact Nat.mod_le _ _
  have hyz : ((y : Int)) ≠ 0 := by omega
  have hdq : IntKind.u64.wrap ((lo : Int) / (y : Int)) = (q : Int) := by rw [← Int.natCast_ediv, ← hq]; exact wrap_nat _ (by omega)
  have hdr : ((lo : Int).tmod (y : Int)) = (r : Int) := by rw [Int.tmod_eq_emod_of_nonneg (by omega), ← Int.natCast_emod, ← hr]
  clear hq hr
  go_enter Tryz.func271, Tryz.ntmps271
  go_wp2_with fail
  refine seq_start (S := fun _ => True) (by kernel_rfl) (by kernel_rfl) trivial ?_
  repeat (first | refine tk0 (h := ?_) | refine tkG (h := ?_) | refine skG (h := ?_))
  refine seq_done (by kernel_rfl) ?_
  go_wp2_with fail
  go_ret2
  exact ⟨by rw [HQ.out, HR.out]; rfl, (Below.refl _ w).drew⟩
 ·have hhb : ((hi : Int) == 0) = false := by simp; omega
  have hup := up_of hy hyB hlo
  have HLZ := h0d (lz_any y hyB)
  have hbl : Lib.bitLen y ≤ 64 := (bitLen_spec hyB (by omega)).2.1
  have hse : (64 : Int) - (Lib.bitLen y : Int) = ((64 - Lib.bitLen y : Nat) : Int) := by omega
  rw [hse] at HLZ
  obtain ⟨s, hs⟩ : ∃ s, s = 64 - Lib.bitLen y := ⟨_, rfl⟩
  rw [← hs] at hup HLZ
  obtain ⟨Y, hY⟩ : ∃ Y, Y = y * 2 ^ s := ⟨_, rfl⟩
  obtain ⟨N, hN⟩ : ∃ N, N = hi * 2 ^ s + lo / 2 ^ (64 - s) := ⟨_, rfl⟩
  obtain ⟨U, hU⟩ : ∃ U, U = lo * 2 ^ s % 18446744073709551616 := ⟨_, rfl⟩
  rw [← hY, ← hN, ← hU] at hup
  have hs63 := hup.s63
  obtain ⟨y1, hy1⟩ : ∃ y1, y1 = Y / 4294967296 := ⟨_, rfl⟩
  obtain ⟨y0, hy0⟩ : ∃ y0, y0 = Y % 4294967296 := ⟨_, rfl⟩
  obtain ⟨u1, hu1⟩ : ∃ u1, u1 = U / 4294967296 := ⟨_, rfl⟩
  obtain ⟨u0, hu0⟩ : ∃ u0, u0 = U % 4294967296 := ⟨_, rfl⟩
  have hY64 := hup.Y64
  have hY63 := hup.Y63
  have hNY := hup.hN
  have hU64 : U < 18446744073709551616 := by rw [hU]; exact Nat.mod_lt _ (by decide)
  have HF1 : Hid (Half 4294967296 Y y1 y0 N u1) := ⟨by omega, by omega, by omega, by omega, hNY, by omega⟩
  have HUP := h0d hup
  have hws : IntKind.u64.wrap (s : Int) = (s : Int) := wrap_nat s (by omega)
  have hmin : min s 64 = s := by omega
  have hcY : ((y : Int) * 2 ^ s) = (Y : Int) := by rw [hY, Int.natCast_mul, Int.natCast_pow]; rfl
  have hwY : IntKind.u64.wrap (Y : Int) = (Y : Int) := wrap_nat Y hY64
  have hdY : (Y : Int) / 4294967296 = (y1 : Int) := by omega
  have hmY : bits .and .u64 (Y : Int) 4294967295 = (y0 : Int) := by rw [Mul64.maskN Y hY64]; omega
  obtain ⟨t, ht⟩ : ∃ t, t = 64 - s := ⟨_, rfl⟩
  have hwt : IntKind.u64.wrap (64 - (s : Int)) = (t : Int) := by rw [IntKind.wrap_u64]; omega
  have hmint : min t 64 = t := by omega
  obtain ⟨H, hH⟩ : ∃ H, H = hi * 2 ^ s := ⟨_, rfl⟩
  obtain ⟨L, hL⟩ : ∃ L, L = lo / 2 ^ t := ⟨_, rfl⟩
  have hcH : (hi : Int) * 2 ^ s = (H : Int) := by rw [hH, Int.natCast_mul, Int.natCast_pow]; rfl
  have hwh : IntKind.u64.wrap (H : Int) = (H : Int) := wrap_nat _ (by rw [hH]; exact hup.hh)
  have hdl : (lo : Int) / 2 ^ t = (L : Int) := by rw [hL, Int.natCast_ediv, Int.natCast_pow]; rfl
  have hor : bits .or .u64 (H : Int) (L : Int) = (N : Int) := by
   have hl := hup.hl
   rw [← ht] at hl
   rw [hH, hL, bits_or_u64_nat _ _ hup.hh (Nat.lt_of_le_of_lt (Nat.div_le_self _ _) hlo), hN, ← ht, Nat.mul_comm hi, ← Nat.two_pow_add_eq_or_of_lt hl]
  obtain ⟨M, hM⟩ : ∃ M, M = lo * 2 ^ s := ⟨_, rfl⟩
  have hcM : (lo : Int) * 2 ^ s = (M : Int) := by rw [hM, Int.natCast_mul, Int.natCast_pow]; rfl
  have hwU : IntKind.u64.wrap (M : Int) = (U : Int) := by rw [Mul64.wrapM, hM, ← hU]
  have hdU : (U : Int) / 4294967296 = (u1 : Int) := by omega
  have hmU : bits .and .u64 (U : Int) 4294967295 = (u0 : Int) := by rw [Mul64.maskN U hU64]; omega
  have hy1b : 2147483648 ≤ y1 ∧ y1 < 4294967296 := by omega
  obtain ⟨hy1b, hy1c⟩ := hy1b
  have hy1ne : ((y1 : Int) == 0) = false := by simp; omega
  obtain ⟨q0, hq0⟩ : ∃ q0, q0 = N / y1 := ⟨_, rfl⟩
  obtain ⟨r0, hr0⟩ : ∃ r0, r0 = N % y1 := ⟨_, rfl⟩
  have hN64 : N < 18446744073709551616 := by omega
  have hdm := Nat.div_add_mod N y1
  rw [← hq0, ← hr0, Nat.mul_comm] at hdm
  have hr0l : r0 < y1 := by rw [hr0]; exact Nat.mod_lt _ (by omega)
  have hdN : (N : Int) / (y1 : Int) = (q0 : Int) := by rw [hq0, Int.natCast_ediv]
  obtain ⟨d0, hd0⟩ : ∃ d, d = q0 * y1 := ⟨_, rfl⟩
  have hwm : IntKind.u64.wrap ((q0 : Int) * (y1 : Int)) = (d0 : Int) := by rw [← Int.natCast_mul, ← hd0]; exact wrap_nat _ (by omega)
  have hwr0 : IntKind.u64.wrap ((N : Int) - (d0 : Int)) = (r0 : Int) := by rw [IntKind.wrap_u64]; omega
  have hst : halfQ 4294967296 Y N u1 ≤ q0 := by rw [hq0]; exact HF1.out.start
  obtain ⟨Q1, hQ1⟩ : ∃ Q1, Q1 = halfQ 4294967296 Y N u1 := ⟨_, rfl⟩
  rw [← hQ1] at hst
  have HQ1 := h0d hQ1
  have hu0l : u0 < 4294967296 := by omega
  have hu1l : u1 < 4294967296 := by omega
  have hy0l : y0 < 4294967296 := by omega
  have HDM : Hid (N = q0 * y1 + r0) := hdm.symm
  have HY := h0d hY
  have HUe : Hid (u1 * 4294967296 + u0 = U) := by show _ = _; omega
  have HS := h0d hs
  have ht64 : (64 : Int) - (s : Int) = (t : Int) := by omega
  have hwq0 : IntKind.u64.wrap (q0 : Int) = (q0 : Int) := wrap_nat _ (by
   have h1 : q0 * 1 ≤ q0 * y1 := Nat.mul_le_mul_left _ (by omega)
   omega)
  have HF1r := h0d HF1.out.rest
  clear hd0 hH hL hM hup hse hs hY hN hU hy1 hy0 hu1 hu0 ht hq0 hr0 hdm hQ1 hbl hh
  go_enter Tryz.func271, Tryz.ntmps271
  go_upto_block 0 with (go_at_call 266; refine (HLZ.out _).mono ?_; rintro e w' ⟨rfl, rfl⟩)
  clear hws hmin hcY hwY hdY hmY hwt hmint hcH hwh hdl hor hcM hwU hdU hmU hdN hwm hwr0 ht64 hwq0 hy0b hhb hyh
  have hbl0 : Below w.heap.size w w := Below.refl _ _
  go_cut [15] (fun v wx => v = .int .u64 (Q1 : Int) ∧ Below w.heap.size w wx)
  case first =>
   go_wp2_with fail
   go_loopw [15, 16] (fun qv rv wr => ∃ q r : Nat, qv = .int .u64 (q : Int) ∧ rv = .int .u64 (r : Int) ∧ Hid (N = q * y1 + r) ∧ Q1 ≤ q ∧ Hid (r < 4294967296) ∧ Below w.heap.size w wr) (fun qv _ _ => (intOf qv).toNat)
   case atStart => exact ⟨_, _, rfl, rfl, HDM.out, hst, by show _ < _; omega, by assumption⟩
   case round =>
    obtain ⟨q, r, rfl, rfl, HQR, hqq, HRL, hbl⟩ := hrel
    have hr := HRL.out
    have HLESS := h0d (fun h => HF1.out.less HQR.out h)
    rw [← HQ1.out] at HLESS
    have hqB : q < 18446744073709551616 := by
     have h1 : q * 1 ≤ q * y1 := Nat.mul_le_mul_left _ (by omega)
     have := HQR.out
     omega
    have HDEC : Hid (Q1 < q → ∃ p r', p = q - 1 ∧ r' = r + y1 ∧ N = p * y1 + r' ∧ Q1 ≤ p) := fun hlt => by
     refine ⟨_, _, rfl, rfl, ?_, by omega⟩
     have := HQR.out
     obtain ⟨p', rfl⟩ : ∃ p', q = p' + 1 := ⟨q - 1, by omega⟩
     rw [Nat.add_sub_cancel]; rw [Nat.add_mul] at this; omega
    by_cases hA : 4294967296 ≤ q
    focus
     have hAi : (4294967296 : Int) ≤ (q : Int) := by omega
     have hlt : Q1 < q := HLESS.out (.inl hA)
     obtain ⟨p, r', hp, hr', hPe, hpp⟩ := HDEC.out hlt
     have hwq : IntKind.u64.wrap ((q : Int) - 1) = (p : Int) := by rw [IntKind.wrap_u64]; omega
     have hwr : IntKind.u64.wrap ((r : Int) + (y1 : Int)) = (r' : Int) := by rw [IntKind.wrap_u64]; omega
     have HPQ : Hid (p < q) := by show _ < _; omega
     by_cases hbr : 4294967296 ≤ r'
     focus
      have hbri : (4294967296 : Int) ≤ (r' : Int) := by omega
      have hpe : p = Q1 := by rw [HQ1.out] at hpp ⊢; exact HF1.out.eq hPe hpp (HF1.out.brk hPe hbr)
      have HPE := h0d hpe
      clear hp hr' hPe hpp hbr HLESS HQR hlt hqq HPQ hA hpe HDEC hr hqB
      go_wp2_with fail
      go_meet
      case rel => exact ⟨by rw [HPE.out], hbl⟩
     rotate_left
     focus
      have hbri : ¬ ((4294967296 : Int) ≤ (r' : Int)) := by omega
      have HPE := h0d hPe
      have HBR : Hid (r' < 4294967296) := by show _ < _; omega
      clear hp hr' hPe hbr HLESS HQR hlt hqq hr hA HDEC hqB
      go_wp2_with fail
      go_roundw
      case rel => exact ⟨p, r', rfl, rfl, HPE.out, hpp, HBR.out, hbl⟩
      case measure => have := HPQ.out; simp [intOf]; omega
    rotate_left
    focus
     have hAi : ¬ ((4294967296 : Int) ≤ (q : Int)) := by omega
     have hqy0 : q * y0 < 18446744073709551616 := by
      have : q * y0 ≤ 4294967296 * 4294967295 := Nat.mul_le_mul (by omega) (by omega)
      omega
     obtain ⟨m1, hm1e⟩ : ∃ m1, m1 = q * y0 := ⟨_, rfl⟩
     obtain ⟨m2, hm2e⟩ : ∃ m2, m2 = 4294967296 * r := ⟨_, rfl⟩
     obtain ⟨m3, hm3e⟩ : ∃ m3, m3 = m2 + u1 := ⟨_, rfl⟩
     have hm1 : IntKind.u64.wrap ((q : Int) * (y0 : Int)) = (m1 : Int) := by rw [← Int.natCast_mul, hm1e]; exact wrap_nat _ hqy0
     have hm2 : IntKind.u64.wrap (4294967296 * (r : Int)) = (m2 : Int) := by rw [IntKind.wrap_u64]; omega
     have hm3 : IntKind.u64.wrap ((m2 : Int) + (u1 : Int)) = (m3 : Int) := by rw [IntKind.wrap_u64]; omega
     by_cases hB : m3 < m1
     focus
      have hBi : decide (m3 < m1) = true := decide_eq_true hB
      have hBc : 4294967296 * r + u1 < q * y0 := by rw [hm3e, hm2e, hm1e] at hB; exact hB
      have hlt : Q1 < q := HLESS.out (.inr hBc)
      clear hm1e hm2e hm3e hBc hqy0
      obtain ⟨p, r', hp, hr', hPe, hpp⟩ := HDEC.out hlt
      have hwq : IntKind.u64.wrap ((q : Int) - 1) = (p : Int) := by rw [IntKind.wrap_u64]; omega
      have hwr : IntKind.u64.wrap ((r : Int) + (y1 : Int)) = (r' : Int) := by rw [IntKind.wrap_u64]; omega
      have HPQ : Hid (p < q) := by show _ < _; omega
      by_cases hbr : 4294967296 ≤ r'
      focus
       have hbri : (4294967296 : Int) ≤ (r' : Int) := by omega
       have hpe : p = Q1 := by rw [HQ1.out] at hpp ⊢; exact HF1.out.eq hPe hpp (HF1.out.brk hPe hbr)
       have HPE := h0d hpe
       clear hp hr' hPe hpp hbr HLESS HQR hlt hqq HPQ hA hpe HDEC hr hqB
       go_wp2_with fail
       go_meet
       case rel => exact ⟨by rw [HPE.out], hbl⟩
      rotate_left
      focus
       have hbri : ¬ ((4294967296 : Int) ≤ (r' : Int)) := by omega
       have HPE := h0d hPe
       have HBR : Hid (r' < 4294967296) := by show _ < _; omega
       clear hp hr' hPe hbr HLESS HQR hlt hqq hr hA HDEC hqB
       go_wp2_with fail
       go_roundw
       case rel => exact ⟨p, r', rfl, rfl, HPE.out, hpp, HBR.out, hbl⟩
       case measure => have := HPQ.out; simp [intOf]; omega
     rotate_left
     focus
      have hBi : decide (m3 < m1) = false := decide_eq_false hB
      have hBc : q * y0 ≤ 4294967296 * r + u1 := by rw [hm3e, hm2e, hm1e] at hB; omega
      have hqe : q = Q1 := by rw [HQ1.out] at hqq ⊢; exact HF1.out.eq HQR.out hqq hBc
      have HQE := h0d hqe
      clear hm1e hm2e hm3e hB hBc HLESS HQR hqq hA hqy0 hqe HDEC hr
      go_wp2_with fail
      go_meet
      case rel => exact ⟨by rw [HQE.out], hbl⟩
  case rest =>
   obtain ⟨rfl, hb1x⟩ := hcut
   have hrest := HF1.out.rest
   obtain ⟨R1, hR1⟩ : ∃ R1, R1 = (N * 4294967296 + u1) % Y := ⟨_, rfl⟩
   have hR1Y : R1 < Y := by rw [hR1]; exact Nat.mod_lt _ (by omega)
   rw [← hR1, ← HQ1.out] at hrest
   obtain ⟨c1, hc1⟩ : ∃ c, c = Q1 * Y := ⟨_, rfl⟩
   rw [← hc1] at hrest
   have hQ1K : Q1 < 4294967296 := by rw [HQ1.out]; exact HF1.out.ltK
   obtain ⟨a1, ha1⟩ : ∃ a, a = N * 4294967296 % 18446744073709551616 := ⟨_, rfl⟩
   obtain ⟨a2, ha2⟩ : ∃ a, a = (a1 + u1) % 18446744073709551616 := ⟨_, rfl⟩
   obtain ⟨b1, hb1⟩ : ∃ b, b = c1 % 18446744073709551616 := ⟨_, rfl⟩
   have hwa1 : IntKind.u64.wrap ((N : Int) * 4294967296) = (a1 : Int) := by rw [IntKind.wrap_u64]; omega
   have hwa2 : IntKind.u64.wrap ((a1 : Int) + (u1 : Int)) = (a2 : Int) := by rw [IntKind.wrap_u64]; omega
   have hwb1 : IntKind.u64.wrap ((Q1 : Int) * (Y : Int)) = (b1 : Int) := by rw [← Int.natCast_mul, ← hc1, IntKind.wrap_u64]; omega
   have hwR1 : IntKind.u64.wrap ((a2 : Int) - (b1 : Int)) = (R1 : Int) := by rw [IntKind.wrap_u64]; omega
   have HF2 : Hid (Half 4294967296 Y y1 y0 R1 u0) := ⟨HF1.out.hy, HF1.out.y0K, HF1.out.top, HF1.out.y1K, hR1Y, hu0l⟩
   obtain ⟨Q2, hQ2⟩ : ∃ Q2, Q2 = halfQ 4294967296 Y R1 u0 := ⟨_, rfl⟩
   have HQ2 := h0d hQ2
   obtain ⟨q2, hq2⟩ : ∃ q, q = R1 / y1 := ⟨_, rfl⟩
   obtain ⟨r2, hr2⟩ : ∃ r, r = R1 % y1 := ⟨_, rfl⟩
   have hdm2 := Nat.div_add_mod R1 y1
   rw [← hq2, ← hr2, Nat.mul_comm] at hdm2
   have hr2l : r2 < y1 := by rw [hr2]; exact Nat.mod_lt _ (by omega)
   have hst2 : Q2 ≤ q2 := by rw [hQ2, hq2]; exact HF2.out.start
   have hdR : (R1 : Int) / (y1 : Int) = (q2 : Int) := by rw [hq2, Int.natCast_ediv]
   have hwq2 : IntKind.u64.wrap (q2 : Int) = (q2 : Int) := wrap_nat _ (by
    have h1 : q2 * 1 ≤ q2 * y1 := Nat.mul_le_mul_left _ (by omega)
    omega)
   obtain ⟨d2, hd2⟩ : ∃ d, d = q2 * y1 := ⟨_, rfl⟩
   have hwm2 : IntKind.u64.wrap ((q2 : Int) * (y1 : Int)) = (d2 : Int) := by rw [← Int.natCast_mul, ← hd2]; exact wrap_nat _ (by omega)
   have hwr2 : IntKind.u64.wrap ((R1 : Int) - (d2 : Int)) = (r2 : Int) := by rw [IntKind.wrap_u64]; omega
   have HDM2 : Hid (R1 = q2 * y1 + r2) := hdm2.symm
   have hrest2 := HF2.out.rest
   obtain ⟨R2, hR2⟩ : ∃ R, R = (R1 * 4294967296 + u0) % Y := ⟨_, rfl⟩
   have hR2Y : R2 < Y := by rw [hR2]; exact Nat.mod_lt _ (by omega)
   rw [← hR2, ← HQ2.out] at hrest2
   obtain ⟨c2, hc2⟩ : ∃ c, c = Q2 * Y := ⟨_, rfl⟩
   rw [← hc2] at hrest2
   have hQ2K : Q2 < 4294967296 := by rw [HQ2.out]; exact HF2.out.ltK
   obtain ⟨e1, he1⟩ : ∃ a, a = R1 * 4294967296 % 18446744073709551616 := ⟨_, rfl⟩
   obtain ⟨e2, he2⟩ : ∃ a, a = (e1 + u0) % 18446744073709551616 := ⟨_, rfl⟩
   obtain ⟨b2, hb2⟩ : ∃ b, b = c2 % 18446744073709551616 := ⟨_, rfl⟩
   have hwe1 : IntKind.u64.wrap ((R1 : Int) * 4294967296) = (e1 : Int) := by rw [IntKind.wrap_u64]; omega
   have hwe2 : IntKind.u64.wrap ((e1 : Int) + (u0 : Int)) = (e2 : Int) := by rw [IntKind.wrap_u64]; omega
   have hwb2 : IntKind.u64.wrap ((Q2 : Int) * (Y : Int)) = (b2 : Int) := by rw [← Int.natCast_mul, ← hc2, IntKind.wrap_u64]; omega
   have hwR2 : IntKind.u64.wrap ((e2 : Int) - (b2 : Int)) = (R2 : Int) := by rw [IntKind.wrap_u64]; omega
   obtain ⟨f1, hf1⟩ : ∃ f, f = Q1 * 4294967296 := ⟨_, rfl⟩
   obtain ⟨f2, hf2⟩ : ∃ f, f = f1 + Q2 := ⟨_, rfl⟩
   have hwf1 : IntKind.u64.wrap ((Q1 : Int) * 4294967296) = (f1 : Int) := by rw [IntKind.wrap_u64]; omega
   have hwf2 : IntKind.u64.wrap ((f1 : Int) + (Q2 : Int)) = (f2 : Int) := by rw [IntKind.wrap_u64]; omega
   obtain ⟨g2, hg2⟩ : ∃ g, g = R2 / 2 ^ s := ⟨_, rfl⟩
   have hdg : (R2 : Int) / 2 ^ s = (g2 : Int) := by rw [hg2, Int.natCast_ediv, Int.natCast_pow]; rfl
   have hth := two_halves (K := 4294967296) (y := Y) (hi := N) (lo1 := u1) (lo0 := u0) (by omega) Q1 R1 Q2 R2 HQ1.out hR1 HQ2.out hR2
   have hsc := scaled_div (u := hi * 18446744073709551616 + lo) (y := y) (s := 2 ^ s) (Nat.two_pow_pos s)
   have hall : N * (4294967296 * 4294967296) + (u1 * 4294967296 + u0) = (hi * 18446744073709551616 + lo) * 2 ^ s := by
    rw [HUe.out]; exact HUP.out.all
   rw [hall, HUP.out.eY, hsc.1] at hth
   have HFQ : Hid ((hi * 18446744073709551616 + lo) / y = f2) := by show _ = _; rw [hf2, hf1]; exact hth.1.symm
   have HFR : Hid ((hi * 18446744073709551616 + lo) % y = g2) := by show _ = _; rw [hg2, hth.2]; exact hsc.2.symm
   clear hrest hR1 hc1 ha1 ha2 hb1 hQ2 hq2 hr2 hdm2 hd2 hrest2 hR2 hc2 he1 he2 hb2 hf1 hf2 hg2 hth hsc hall
   go_upto_block 2 with fail
   clear hwa1 hwa2 hwb1 hwR1 hdR hwq2 hwm2 hwr2
   go_cut [18] (fun v wx => v = .int .u64 (Q2 : Int) ∧ Below w.heap.size w wx)
   case first =>
    go_wp2_with fail
    go_loopw [18, 16] (fun qv rv wr => ∃ q r : Nat, qv = .int .u64 (q : Int) ∧ rv = .int .u64 (r : Int) ∧ Hid (R1 = q * y1 + r) ∧ Q2 ≤ q ∧ Hid (r < 4294967296) ∧ Below w.heap.size w wr) (fun qv _ _ => (intOf qv).toNat)
    case atStart => exact ⟨_, _, rfl, rfl, HDM2.out, hst2, by show _ < _; omega, by assumption⟩
    case round =>
     obtain ⟨q, r, rfl, rfl, HQR, hqq, HRL, hbl⟩ := hrel
     have hr := HRL.out
     have HLESS := h0d (fun h => HF2.out.less HQR.out h)
     rw [← HQ2.out] at HLESS
     have hqB : q < 18446744073709551616 := by
      have h1 : q * 1 ≤ q * y1 := Nat.mul_le_mul_left _ (by omega)
      have := HQR.out
      omega
     have HDEC : Hid (Q2 < q → ∃ p r', p = q - 1 ∧ r' = r + y1 ∧ R1 = p * y1 + r' ∧ Q2 ≤ p) := fun hlt => by
      refine ⟨_, _, rfl, rfl, ?_, by omega⟩
      have := HQR.out
      obtain ⟨p', rfl⟩ : ∃ p', q = p' + 1 := ⟨q - 1, by omega⟩
      rw [Nat.add_sub_cancel]; rw [Nat.add_mul] at this; omega
     by_cases hA : 4294967296 ≤ q
     focus
      have hAi : (4294967296 : Int) ≤ (q : Int) := by omega
      have hlt : Q2 < q := HLESS.out (.inl hA)
      obtain ⟨p, r', hp, hr', hPe, hpp⟩ := HDEC.out hlt
      have hwq : IntKind.u64.wrap ((q : Int) - 1) = (p : Int) := by rw [IntKind.wrap_u64]; omega
      have hwr : IntKind.u64.wrap ((r : Int) + (y1 : Int)) = (r' : Int) := by rw [IntKind.wrap_u64]; omega
      have HPQ : Hid (p < q) := by show _ < _; omega
      by_cases hbr : 4294967296 ≤ r'
      focus
       have hbri : (4294967296 : Int) ≤ (r' : Int) := by omega
       have hpe : p = Q2 := by rw [HQ2.out] at hpp ⊢; exact HF2.out.eq hPe hpp (HF2.out.brk hPe hbr)
       have HPE := h0d hpe
       clear hp hr' hPe hpp hbr HLESS HQR hlt hqq HPQ hA hpe HDEC hr hqB
       go_wp2_with fail
       go_meet
       case rel => exact ⟨by rw [HPE.out], hbl⟩
      rotate_left
      focus
       have hbri : ¬ ((4294967296 : Int) ≤ (r' : Int)) := by omega
       have HPE := h0d hPe
       have HBR : Hid (r' < 4294967296) := by show _ < _; omega
       clear hp hr' hPe hbr HLESS HQR hlt hqq hr hA HDEC hqB
       go_wp2_with fail
       go_roundw
       case rel => exact ⟨p, r', rfl, rfl, HPE.out, hpp, HBR.out, hbl⟩
       case measure => have := HPQ.out; simp [intOf]; omega
     rotate_left
     focus
      have hAi : ¬ ((4294967296 : Int) ≤ (q : Int)) := by omega
      have hqy0 : q * y0 < 18446744073709551616 := by
       have : q * y0 ≤ 4294967296 * 4294967295 := Nat.mul_le_mul (by omega) (by omega)
       omega
      obtain ⟨m1, hm1e⟩ : ∃ m1, m1 = q * y0 := ⟨_, rfl⟩
      obtain ⟨m2, hm2e⟩ : ∃ m2, m2 = 4294967296 * r := ⟨_, rfl⟩
      obtain ⟨m3, hm3e⟩ : ∃ m3, m3 = m2 + u0 := ⟨_, rfl⟩
      have hm1 : IntKind.u64.wrap ((q : Int) * (y0 : Int)) = (m1 : Int) := by rw [← Int.natCast_mul, hm1e]; exact wrap_nat _ hqy0
      have hm2 : IntKind.u64.wrap (4294967296 * (r : Int)) = (m2 : Int) := by rw [IntKind.wrap_u64]; omega
      have hm3 : IntKind.u64.wrap ((m2 : Int) + (u0 : Int)) = (m3 : Int) := by rw [IntKind.wrap_u64]; omega
      by_cases hB : m3 < m1
      focus
       have hBi : decide (m3 < m1) = true := decide_eq_true hB
       have hBc : 4294967296 * r + u0 < q * y0 := by rw [hm3e, hm2e, hm1e] at hB; exact hB
       have hlt : Q2 < q := HLESS.out (.inr hBc)
       clear hm1e hm2e hm3e hBc hqy0
       obtain ⟨p, r', hp, hr', hPe, hpp⟩ := HDEC.out hlt
       have hwq : IntKind.u64.wrap ((q : Int) - 1) = (p : Int) := by rw [IntKind.wrap_u64]; omega
       have hwr : IntKind.u64.wrap ((r : Int) + (y1 : Int)) = (r' : Int) := by rw [IntKind.wrap_u64]; omega
       have HPQ : Hid (p < q) := by show _ < _; omega
       by_cases hbr : 4294967296 ≤ r'
       focus
        have hbri : (4294967296 : Int) ≤ (r' : Int) := by omega
        have hpe : p = Q2 := by rw [HQ2.out] at hpp ⊢; exact HF2.out.eq hPe hpp (HF2.out.brk hPe hbr)
        have HPE := h0d hpe
        clear hp hr' hPe hpp hbr HLESS HQR hlt hqq HPQ hA hpe HDEC hr hqB
        go_wp2_with fail
        go_meet
        case rel => exact ⟨by rw [HPE.out], hbl⟩
       rotate_left
       focus
        have hbri : ¬ ((4294967296 : Int) ≤ (r' : Int)) := by omega
        have HPE := h0d hPe
        have HBR : Hid (r' < 4294967296) := by show _ < _; omega
        clear hp hr' hPe hbr HLESS HQR hlt hqq hr hA HDEC hqB
        go_wp2_with fail
        go_roundw
        case rel => exact ⟨p, r', rfl, rfl, HPE.out, hpp, HBR.out, hbl⟩
        case measure => have := HPQ.out; simp [intOf]; omega
      rotate_left
      focus
       have hBi : decide (m3 < m1) = false := decide_eq_false hB
       have hBc : q * y0 ≤ 4294967296 * r + u0 := by rw [hm3e, hm2e, hm1e] at hB; omega
       have hqe : q = Q2 := by rw [HQ2.out] at hqq ⊢; exact HF2.out.eq HQR.out hqq hBc
       have HQE := h0d hqe
       clear hm1e hm2e hm3e hB hBc HLESS HQR hqq hA hqy0 hqe HDEC hr
       go_wp2_with fail
       go_meet
       case rel => exact ⟨by rw [HQE.out], hbl⟩
   case rest =>
    obtain ⟨rfl, hb2⟩ := hcut
    have HB2 := h0d hb2
    clear hb2 hbl0 hb1x
    go_wp2_with fail
    go_ret2
    exact ⟨by rw [HFQ.out, HFR.out]; rfl, HB2.out⟩
end Go.Proofs.YtodckaioeomccaaGreat
