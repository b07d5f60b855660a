/- Walks of the reference's natural numbers: Bits, Raised, Lowered. -/
import Derived.Test.YtodckaioeomccaaGreatPart24
namespace Go.Proofs.YtodckaioeomccaaGreat
open Go.RowKit
set_option linter.unusedVariables false
set_option linter.unusedSimpArgs false
def bl (n : Nat) : Nat := if n = 0 then 0 else n.log2 + 1
theorem bl_zero : bl 0 = 0 := rfl
theorem bl_half {n : Nat} (h : n ≠ 0) : bl n = bl (n / 2) + 1 := by
 unfold bl
 rw [if_neg h, Nat.log2_def]
 by_cases h2 : 2 ≤ n
 ·rw [if_pos h2, if_neg (by omega)]
 ·rw [if_neg h2, if_pos (by omega)]
theorem bl_lt (n : Nat) : n < 2 ^ bl n := by
 unfold bl
 split
 ·rename_i h; rw [h]; decide
 ·exact Nat.lt_log2_self
theorem bl_ge {n : Nat} (h : n ≠ 0) : 2 ^ (bl n - 1) ≤ n := by
 unfold bl
 rw [if_neg h, Nat.add_sub_cancel]
 exact Nat.log2_self_le h
theorem bl_of {n b : Nat} (h1 : 2 ^ b ≤ n) (h2 : n < 2 ^ (b + 1)) : bl n = b + 1 := by
 have h0 : n ≠ 0 := by have := Nat.two_pow_pos b; omega
 unfold bl
 rw [if_neg h0, (Nat.log2_eq_iff h0).2 ⟨h1, h2⟩]
theorem bl_le {n b : Nat} (h : n < 2 ^ b) : bl n ≤ b := by
 refine Nat.not_lt.1 fun hlt => ?_
 have h0 : n ≠ 0 := fun e => by rw [e, bl_zero] at hlt; omega
 have h1 := bl_ge h0
 have : 2 ^ b ≤ 2 ^ (bl n - 1) := Nat.pow_le_pow_right (by omega) (by omega)
 omega
theorem two32 : (2 : Nat) ^ 32 = B32 := by unfold B32; decide
theorem bl_top {n k x : Nat} (hk : dm n = k + 1) (hx : (digs B32 n)[k]? = some x) : bl n = 32 * k + bl x ∧ x ≠ 0 ∧ x < B32 := by
 have hxB := digs_lt B32_2 n x (List.mem_of_getElem? hx)
 have h1 := val_split' B32 (digs B32 n) k
 rw [val_digs B32_2, val_drop B32 hx, List.drop_of_length_le (by unfold dm at hk; omega)] at h1
 simp only [val, Nat.mul_zero, Nat.add_zero] at h1
 have h2 : val B32 ((digs B32 n).take k) < B32 ^ k := by
  have := val_lt (b := B32) (by unfold B32; omega) (xs := (digs B32 n).take k) (fun z hz => digs_lt B32_2 n z (List.mem_of_mem_take hz))
  rwa [List.length_take, Nat.min_eq_left (by unfold dm at hk; omega)] at this
 have hx0 : x ≠ 0 := fun e => by
  have h3 : n < B32 ^ k := by rw [h1, e]; omega
  have := (dm_le_iff n k).2 h3
  omega
 refine ⟨?_, hx0, hxB⟩
 have h3 := bl_ge hx0
 have h4 := bl_lt x
 obtain ⟨c, hc⟩ : ∃ c, bl x = c + 1 := ⟨bl x - 1, by have := bl_half hx0; omega⟩
 rw [hc] at h3 h4 ⊢
 rw [Nat.add_sub_cancel] at h3
 have hB : B32 ^ k = 2 ^ (32 * k) := by rw [← two32, ← Nat.pow_mul]
 rw [hB] at h1 h2
 have := bl_of (n := n) (b := 32 * k + c) (by
  rw [Nat.pow_add]
  have := Nat.mul_le_mul_left (2 ^ (32 * k)) h3
  omega) (by
  rw [Nat.add_assoc, Nat.pow_add]
  have : 2 ^ (32 * k) * (x + 1) ≤ 2 ^ (32 * k) * 2 ^ (c + 1) := Nat.mul_le_mul_left _ h4
  rw [Nat.mul_add, Nat.mul_one] at this
  omega)
 omega
set_option maxRecDepth 100000 in
set_option maxHeartbeats 2000000 in
theorem rbits_any (va : Value) (n : Nat) (w : World) (hP : RdM w va n) (hn6 : dm n ≤ 4000000) :
  Calls Tryz.prog 280 #[va] w fun e w' => e = .returned (.int .i64 (bl n : Int)) ∧ w = w' := by
 obtain ⟨A1, k1, c1, rfl, e1, hk1, _, hm1, hc1⟩ := RdV.open_ hP
 have hk16 : k1 ≤ 4000000 := by unfold dm at hn6; omega
 by_cases h0 : k1 = 0
 ·have HZ : Hid (bl n = 0) := by
   show _ = _
   have : n = 0 := (digs_nil B32_2).1 (List.length_eq_zero_iff.1 (by rw [e1, h0]))
   rw [this]; rfl
  clear e1 hc1 hP
  subst h0
  go_enter Tryz.func280, Tryz.ntmps280
  go_wp2_with fail
  go_ret
  exact ⟨by rw [HZ.out]; rfl, rfl⟩
 ·obtain ⟨j, rfl⟩ : ∃ j, k1 = j + 1 := ⟨k1 - 1, by omega⟩
  obtain ⟨b1, f1, x, rfl, hb1, hx, hcx⟩ := hc1 j (by omega)
  obtain ⟨hb, hx0, hxB⟩ := bl_top (n := n) (k := j) e1 hx
  have HB := h0d hb
  have hj0 : (((j + 1 : Nat) : Int) == 0) = false := by simp; omega
  have hj : (((j + 1 : Nat) : Int) - 1) = (j : Int) := by omega
  have hjl : (j : Int) < ((j + 1 : Nat) : Int) := by omega
  have hxB' : x < 4294967296 := by unfold B32 at hxB; exact hxB
  have hbx : bl x ≤ 32 := bl_le (by rw [two32]; exact hxB)
  have HBX := h0d hbx
  have HXB := h0d hxB'
  clear e1 hc1 hP hx hx0 hb hxB h0 hbx
  go_enter Tryz.func280, Tryz.ntmps280
  go_wp2_with fail
  go_loop [3, 4] (fun nv tv => ∃ (y c : Nat), nv = .int .i64 (c : Int) ∧ tv = .int .u32 (y : Int) ∧ y < 4294967296 ∧ c ≤ 200000000 ∧ Hid (c + bl y = 32 * j + bl x)) (fun _ tv => (intOf tv).toNat)
  case atStart => exact ⟨x, 32 * j, by go_num, rfl, HXB.out, by omega, rfl⟩
  case round =>
   obtain ⟨y, c, rfl, rfl, hy, hc, HV⟩ := hrel
   by_cases hy0 : y = 0
   ·have HF : Hid (c = bl n) := by
     show _ = _
     rw [HB.out, ← HV.out, hy0]; rfl
    subst hy0
    clear HV
    go_wp2_with fail
    go_ret
    exact ⟨by rw [HF.out]; rfl, rfl⟩
   ·have hyp : (0 : Int) < (y : Int) := by omega
    have HF : Hid (c + 1 + bl (y / 2) = 32 * j + bl x) := by
     show _ = _
     have := HV.out
     rw [bl_half hy0] at this
     omega
    obtain ⟨z, hz⟩ : ∃ z, z = y / 2 := ⟨_, rfl⟩
    have hy2 : (y : Int) / 2 = (z : Int) := by omega
    rw [← hz] at HF
    have HZL : Hid (z < y) := by show _ < _; omega
    clear hz
    clear HV
    go_wp2_with fail
    go_round
    case rel =>
     have hcb : c + 1 ≤ 200000000 := by
      have := HF.out; have := HBX.out; omega
     exact ⟨z, c + 1, by go_num, by first | rfl | exact val_int hy2, by have := HZL.out; omega, hcb, HF.out⟩
    case measure => have := HZL.out; simp [intOf]; omega
theorem raise_step {O am : List Nat} {i q x c B R : Nat} (hB : 0 < B) (hk : O.length = q + i) (hx : am[i]? = some x)
  (h : val B O + c * B ^ (q + i) = val B (am.take i) * R * B ^ q) :
  val B (O ++ [(x * R + c) % B]) + ((x * R + c) / B) * B ^ (q + (i + 1)) = val B (am.take (i + 1)) * R * B ^ q := by
 rw [val_append, val_one, val_take B hx, hk, Nat.add_mul, Nat.add_mul]
 obtain ⟨s, hs⟩ : ∃ s, s = x * R + c := ⟨_, rfl⟩
 rw [← hs, ← h]
 have e := Nat.div_add_mod s B
 have e2 : B ^ (q + i) * (s % B) + s / B * B ^ (q + (i + 1)) = s * B ^ (q + i) := by
  rw [show q + (i + 1) = (q + i) + 1 by omega, Nat.pow_succ]
  conv => rhs; rw [← e, Nat.add_mul, Nat.mul_comm (s % B)]
  rw [Nat.add_comm, Nat.mul_comm (B ^ (q + i)) B, ← Nat.mul_assoc, Nat.mul_comm (s / B) B]
 have e3 : s * B ^ (q + i) = x * B ^ i * R * B ^ q + c * B ^ (q + i) := by
  rw [hs, Nat.add_mul, Nat.pow_add]
  congr 1
  rw [Nat.mul_comm (B ^ q), ← Nat.mul_assoc, Nat.mul_assoc x R, Nat.mul_comm R, ← Nat.mul_assoc x]
 omega
theorem two_pow_split32 (k : Nat) : 2 ^ k = 2 ^ (k % 32) * B32 ^ (k / 32) := by
 rw [← two32, ← Nat.pow_mul, ← Nat.pow_add]
 congr 1
 omega
set_option maxRecDepth 100000 in
set_option maxHeartbeats 8000000 in
theorem rraised_own (va : Value) (m k : Nat) (w : World) (hP : RdM w va m) (hm6 : dm m ≤ 2000000) (hk6 : k ≤ 32000000) :
  Calls Tryz.prog 281 #[va, .int .i64 (k : Int)] w fun e w' => (∃ v', e = .returned v' ∧ RdMS w' (w.heap.size ≤ ·) v' (m * 2 ^ k)) ∧ Below w.heap.size w w' := by
 have hmk := make_words32
 obtain ⟨i0, hi0, hz0, hz1, hz2⟩ := info_parts info119
 obtain ⟨A1, k1, c1, rfl, e1, hk1, _, hm1, hc1⟩ := RdV.open_ hP
 have hk16 : k1 ≤ 2000000 := by unfold dm at hm6; omega
 have HE1 := h0d e1
 have HC1 := h0d hc1
 obtain ⟨q, hq⟩ : ∃ q, q = k / 32 := ⟨_, rfl⟩
 obtain ⟨r, hr⟩ : ∃ r, r = k % 32 := ⟨_, rfl⟩
 have HMK := hmk q q (Nat.le_refl _) (by omega)
 obtain ⟨C0, hC0⟩ : ∃ C, C = ((List.replicate q 0).map u32V).toArray := ⟨_, rfl⟩
 rw [← hC0] at HMK
 have HB0 : Hid (OwnV (w.alloc (.cells C0 271)) w.heap.size (.slice (some ⟨w.heap.size, 0, none⟩) q q) (List.replicate q 0)) := by
  rw [hC0]
  have := (BlkV.new w (List.replicate q 0)).own (n := q) (Nat.le_refl _) (by simp) (by unfold maxLen; simp; omega)
  unfold OwnV
  simp only [List.length_replicate, List.take_replicate, Nat.min_self] at this ⊢
  exact this
 have HZM : Hid (k1 = 0 → m = 0) := fun h => (digs_nil B32_2).1 (List.length_eq_zero_iff.1 (by rw [e1, h]))
 clear hmk e1 hc1 hP hC0 hm6
 by_cases h0 : k1 = 0
 ·have HZ : Hid (m * 2 ^ k = 0) := by show _ = _; rw [HZM.out h0, Nat.zero_mul]
  subst h0
  go_enter Tryz.func281, Tryz.ntmps281
  go_wp2_with fail
  go_ret
  exact ⟨⟨_, rfl, by rw [HZ.out]; unfold RdMS; rw [digs_zero]; exact Rd.none_ _ _ _⟩, Below.refl _ _⟩
 ·have h0b : ((k1 : Int) == 0) = false := by simp; omega
  have hkq : (k : Int) / 32 = (q : Int) := by omega
  have hkr : (k : Int) % 32 = (r : Int) := by omega
  have hr32 : r < 32 := by omega
  have HPW : Hid (2 ^ k = 2 ^ r * B32 ^ q) := by show _ = _; rw [hq, hr]; exact two_pow_split32 k
  clear hq hr h0
  go_enter Tryz.func281, Tryz.ntmps281
  go_wp2_with fail
  go_loopw [5, 6, 7] (fun ov cv iv wr => ∃ (i c : Nat) (O : List Nat), i ≤ k1 ∧ cv = .int .u64 (c : Int) ∧ iv = .int .i64 (i : Int) ∧ Hid (c < 2 ^ r) ∧ Hid (O.length = q + i) ∧ Hid (∀ x ∈ O, x < B32) ∧ Hid (OwnV wr w.heap.size ov O) ∧ Hid (Below w.heap.size w wr) ∧ Hid (val B32 O + c * B32 ^ (q + i) = val B32 ((digs B32 m).take i) * 2 ^ r * B32 ^ q)) (fun _ _ iv _ => k1 - (intOf iv).toNat)
  case atStart =>
   refine ⟨0, 0, List.replicate q 0, Nat.zero_le _, rfl, rfl, Nat.two_pow_pos r, by show _ = _; simp, fun x hx => ?_, HB0, (Below.refl _ w).alloc (Nat.le_refl _) _, ?_⟩
   ·rw [List.eq_of_mem_replicate hx]; unfold B32; omega
   ·show _ = _
    rw [val_replicate]; simp [val]
  case round =>
   obtain ⟨i, c, O, hi, rfl, rfl, HCB, HOL, HOX, HOW, HBEL, HV⟩ := hrel
   obtain ⟨A5, c5, rfl⟩ := HOW.out.slice
   rw [HOL.out]
   by_cases hlt : i < k1
   ·obtain ⟨b1, f1, x, rfl, hb1, hx, hcx⟩ := HC1.out i hlt
    have hxB := digs_lt B32_2 m x (List.mem_of_getElem? hx)
    have hcx' := (HBEL.out.cell (p := ⟨b1, f1 + i, none⟩) hb1).trans hcx
    have hst := raise_step (B := B32) (by unfold B32; omega) HOL.out hx HV.out
    have hcB := HCB.out
    obtain ⟨X, hX⟩ : ∃ X, X = x * 2 ^ r := ⟨_, rfl⟩
    have hXl : X < B32 * 2 ^ r := by rw [hX]; exact Nat.mul_lt_mul_of_pos_right hxB (Nat.two_pow_pos r)
    have hXm : X + 2 ^ r ≤ B32 * 2 ^ r := by
     have : (x + 1) * 2 ^ r ≤ B32 * 2 ^ r := Nat.mul_le_mul_right _ hxB
     rw [Nat.add_mul, Nat.one_mul] at this
     omega
    have h2r : 2 ^ r ≤ 2147483648 := by
     have : 2 ^ r ≤ 2 ^ 31 := Nat.pow_le_pow_right (by omega) (by omega)
     simpa using this
    have hXB : X + c < 18446744073709551616 := by
     have : B32 * 2 ^ r ≤ B32 * 2147483648 := Nat.mul_le_mul_left _ h2r
     unfold B32 at this hXm
     omega
    have hor : X ||| c = X + c := by rw [Nat.or_comm, or_parts hcB (by rw [hX]; exact Nat.dvd_mul_left _ _), Nat.add_comm]
    have hw0 : IntKind.u64.wrap (x : Int) = (x : Int) := wrap_nat x (by unfold B32 at hxB; omega)
    have hcX : (x : Int) * 2 ^ r = (X : Int) := by rw [hX, Int.natCast_mul, Int.natCast_pow]; rfl
    have hwX : IntKind.u64.wrap (X : Int) = (X : Int) := wrap_nat X (by omega)
    obtain ⟨T, hT⟩ : ∃ T, T = X + c := ⟨_, rfl⟩
    have hbo : bits .or .u64 (X : Int) (c : Int) = (T : Int) := by
     rw [bits_or_u64_nat _ _ (by omega) (by omega), hor, hT]
    rw [← hX, ← hT] at hst
    rw [← hT] at hXB
    obtain ⟨s, hs⟩ : ∃ s, s = T % B32 := ⟨_, rfl⟩
    obtain ⟨t, ht⟩ : ∃ t, t = T / B32 := ⟨_, rfl⟩
    rw [← hs, ← ht] at hst
    have htr : t < 2 ^ r := by rw [ht, Nat.div_lt_iff_lt_mul (by unfold B32; omega), Nat.mul_comm]; omega
    have hsB : s < B32 := by rw [hs]; exact Nat.mod_lt _ (by unfold B32; omega)
    have hs32 : IntKind.u32.wrap (T : Int) = (s : Int) := by rw [IntKind.wrap_u32, hs]; unfold B32; omega
    have hsh : (T : Int) / 4294967296 = (t : Int) := by rw [ht]; unfold B32; omega
    have HST := h0d hst
    have HSB := h0d hsB
    have HTR := h0d htr
    have hwr : IntKind.u64.wrap (r : Int) = (r : Int) := wrap_nat r (by omega)
    have hktm : (k : Int).tmod 32 = (r : Int) := by rw [Int.tmod_eq_emod_of_nonneg (by omega), hkr]
    have hminr : min r 64 = r := by omega
    clear hx hcx hst hcB hX hXl hXm h2r hXB hor hT hs ht htr hsB hxB
    have HOW1 := h0d (World.ownsRow.alloc HOW.out (.cells #[.int .u32 (s : Int)] 271))
    rw [HOL.out] at HOW1
    have HBE1 : Hid (Below w.heap.size w (wr.alloc (.cells #[.int .u32 (s : Int)] 271))) := HBEL.out.alloc HBEL.out.size _
    go_wp2_with (at_builtin; refine wpList_append_own _ rfl _ _ 38 rfl w.heap.size 271 i0 (.int .u32 0) 1 4 Tryz.underlying38 hi0 hz0 hz1 hz2 rfl (by decide) _ (q + i) _ rfl HOW1.out ⟨wr.heap.size, 0, none⟩ 1 1 [.int .u32 (s : Int)] rfl rfl (cells_new wr #[.int .u32 (s : Int)] 271 (0, 0)) (fun u hu => by rw [List.mem_singleton.1 hu]; rfl) (by unfold maxLen; omega) (by omega) (by have := HBEL.out.size; simp; omega) ?_; intro v' w1 hown1 hgrow1 _; have HW1 := h0d hown1; have HG1 := h0d hgrow1; clear hown1 hgrow1)
    go_roundw
    case rel =>
     refine ⟨i + 1, t, O ++ [s], by omega, rfl, by go_num, HTR.out, by show _ = _; rw [List.length_append, HOL.out]; rfl, fun z hz => ?_, ?_, HBE1.out.grown HG1.out (by have := HBEL.out.size; simp; omega) (fun g hg => (HOW1.out.lt g hg).1), HST.out⟩
     ·rcases List.mem_append.1 hz with h | h
      ·exact HOX.out z h
      ·rw [List.mem_singleton.1 h]; exact HSB.out
     ·have h := HW1.out
      unfold OwnV
      rw [List.length_append, HOL.out, List.map_append]; exact h
    case measure => simp [intOf]; omega
   ·obtain rfl : i = k1 := by omega
    obtain ⟨xs, hxs⟩ : ∃ xs, xs = O ++ [c] := ⟨_, rfl⟩
    have hcB : c < B32 := by
     have h1 := HCB.out
     have : 2 ^ r ≤ 2 ^ 32 := Nat.pow_le_pow_right (by omega) (by omega)
     rw [two32] at this
     omega
    have HXX : Hid (∀ x ∈ xs, x < B32) := fun z hz => by
     rw [hxs] at hz
     rcases List.mem_append.1 hz with h | h
     ·exact HOX.out z h
     ·rw [List.mem_singleton.1 h]; exact hcB
    have HXV : Hid (val B32 xs = m * 2 ^ k) := by
     show _ = _
     have h1 := HV.out
     rw [List.take_of_length_le (by rw [HE1.out]; omega), val_digs B32_2, Nat.mul_assoc, ← HPW.out] at h1
     rw [hxs, val_append, val_one, HOL.out, Nat.mul_comm (B32 ^ _)]; exact h1
    have hc32 : IntKind.u32.wrap (c : Int) = (c : Int) := by rw [IntKind.wrap_u32]; unfold B32 at hcB; omega
    have HXS := h0d hxs
    have HOW1 := h0d (World.ownsRow.alloc HOW.out (.cells #[.int .u32 (c : Int)] 271))
    rw [HOL.out] at HOW1
    have HBE1 : Hid (Below w.heap.size w (wr.alloc (.cells #[.int .u32 (c : Int)] 271))) := HBEL.out.alloc HBEL.out.size _
    clear hxs hcB
    go_wp2_with (at_builtin; refine wpList_append_own _ rfl _ _ 38 rfl w.heap.size 271 i0 (.int .u32 0) 1 4 Tryz.underlying38 hi0 hz0 hz1 hz2 rfl (by decide) _ (q + i) _ rfl HOW1.out ⟨wr.heap.size, 0, none⟩ 1 1 [.int .u32 (c : Int)] rfl rfl (cells_new wr #[.int .u32 (c : Int)] 271 (0, 0)) (fun u hu => by rw [List.mem_singleton.1 hu]; rfl) (by unfold maxLen; omega) (by omega) (by have := HBEL.out.size; simp; omega) ?_; intro v' w1 hown1 hgrow1 _; have HW1 := h0d hown1; have HG1 := h0d hgrow1; clear hown1 hgrow1)
    have hOV : OwnV w1 w.heap.size v' xs := by
     have h := HW1.out
     unfold OwnV
     rw [HXS.out, List.length_append, HOL.out, List.map_append]; exact h
    refine (rcut_numS _ v' xs w1 hOV.rdS HXX.out).mono ?_
    rintro e w2 ⟨⟨v2, rfl, hr⟩, rfl⟩
    rw [HXV.out] at hr
    have HR := h0d hr
    clear hr hOV
    go_wp2_with fail
    go_ret
    exact ⟨⟨_, rfl, HR.out⟩, HBE1.out.grown HG1.out (by have := HBEL.out.size; simp; omega) (fun g hg => (HOW1.out.lt g hg).1)⟩
theorem lower_get {m q r i x y : Nat} (hr : r < 32) (hx : (digs B32 m)[i + q]? = some x) (hy : (digs B32 m).getD (i + q + 1) 0 = y) :
  (x + B32 * y) / 2 ^ r % B32 = m / (2 ^ r * B32 ^ q) / B32 ^ i % B32 := by
 have hp : 0 < 2 ^ r := Nat.two_pow_pos r
 have e64 : 2 ^ r * 2 ^ (32 - r) = B32 := by rw [← Nat.pow_add, show r + (32 - r) = 32 by omega, two32]
 obtain ⟨h1, h2⟩ := digs_get_div B32_2 hx
 have hy' : m / B32 ^ (i + q + 1) % B32 = y := by
  by_cases h : i + q + 1 < (digs B32 m).length
  ·have e := List.getElem?_eq_getElem h
   rw [← hy, getD_of e, (digs_get_div B32_2 e).1]
  ·rw [← hy, List.getD_eq_getElem?_getD, List.getElem?_eq_none (by omega), digs_div_none B32_2 (by omega)]; rfl
 have e : m / (2 ^ r * B32 ^ q) / B32 ^ i = m / B32 ^ (i + q) / 2 ^ r := by
  rw [Nat.div_div_eq_div_mul, Nat.div_div_eq_div_mul, Nat.pow_add]
  congr 1
  rw [Nat.mul_comm (2 ^ r), Nat.mul_assoc, Nat.mul_comm (2 ^ r), ← Nat.mul_assoc, Nat.mul_comm (B32 ^ q)]
 obtain ⟨M, hM⟩ : ∃ M, M = m / B32 ^ (i + q + 1) := ⟨_, rfl⟩
 rw [← hM] at hy' h2
 have hMy := Nat.div_add_mod M B32
 rw [hy'] at hMy
 have h3 : x + B32 * M = x + B32 * y + 2 ^ r * (2 ^ (32 - r) * (B32 * (M / B32))) := by
  rw [← Nat.mul_assoc (2 ^ r), e64]
  conv => lhs; rw [← hMy]
  rw [Nat.mul_add]
  omega
 rw [e, h2, h3, Nat.add_mul_div_left _ _ hp, ← Nat.mul_assoc, Nat.mul_comm (2 ^ (32 - r)), Nat.mul_assoc, Nat.add_mul_mod_self_left]
set_option maxRecDepth 100000 in
set_option maxHeartbeats 8000000 in
theorem rlowered_any (va : Value) (m k : Nat) (w : World) (hP : RdM w va m) (hm6 : dm m ≤ 2000000) (hk6 : k ≤ 1000000000) :
  Calls Tryz.prog 282 #[va, .int .i64 (k : Int)] w fun e w' => (∃ v', e = .returned v' ∧ RdM w' v' (m / 2 ^ k)) ∧ Below w.heap.size w w' := by
 obtain ⟨i0, hi0, hz0, hz1, hz2⟩ := info_parts info119
 obtain ⟨A1, k1, c1, rfl, e1, hk1, _, hm1, hc1⟩ := RdV.open_ hP
 have hk16 : k1 ≤ 2000000 := by unfold dm at hm6; omega
 have HE1 := h0d e1
 have HC1 := h0d hc1
 obtain ⟨q, hq⟩ : ∃ q, q = k / 32 := ⟨_, rfl⟩
 obtain ⟨r, hr⟩ : ∃ r, r = k % 32 := ⟨_, rfl⟩
 have hkq : (k : Int) / 32 = (q : Int) := by omega
 have hkr : (k : Int) % 32 = (r : Int) := by omega
 have hr32 : r < 32 := by omega
 have hq6 : q ≤ 1000000000 := by omega
 obtain ⟨N, hN⟩ : ∃ N, N = m / (2 ^ r * B32 ^ q) := ⟨_, rfl⟩
 have HN : Hid (m / 2 ^ k = N) := by show _ = _; rw [hN, hq, hr, ← two_pow_split32 k]
 have HG : Hid (∀ (i x y : Nat), (digs B32 m)[i + q]? = some x → (digs B32 m).getD (i + q + 1) 0 = y → (x + B32 * y) / 2 ^ r % B32 = N / B32 ^ i % B32) := fun i x y h1 h2 => by rw [hN]; exact lower_get hr32 h1 h2
 have HNS : Hid (∀ i, k1 ≤ i + q → N < B32 ^ i) := fun i h => by
  rw [hN, Nat.div_lt_iff_lt_mul (Nat.mul_pos (Nat.two_pow_pos r) (Nat.pow_pos (by unfold B32; omega)))]
  have h1 : m < B32 ^ (i + q) := (len_le_iff B32_2 m _).1 (by rw [e1]; exact h)
  rw [Nat.pow_add] at h1
  have h2 : B32 ^ i * B32 ^ q ≤ B32 ^ i * (2 ^ r * B32 ^ q) := Nat.mul_le_mul_left _ (Nat.le_mul_of_pos_left _ (Nat.two_pow_pos r))
  omega
 clear e1 hc1 hP hm6 hq hr hN
 go_enter Tryz.func282, Tryz.ntmps282
 go_wp2_with fail
 go_loopw [5, 6] (fun ov iv wr => ∃ (i : Nat), (i = 0 ∨ i + q ≤ k1) ∧ iv = .int .i64 ((i : Int) + (q : Int)) ∧ Hid (OwnV wr w.heap.size ov (padded B32 N i)) ∧ Hid (Below w.heap.size w wr)) (fun _ iv _ => k1 - (intOf iv).toNat)
 case atStart =>
  exact ⟨0, .inl rfl, by simp, OwnV.made w, (Below.refl _ w).alloc (Nat.le_refl _) _⟩
 case round =>
  obtain ⟨i, hi, rfl, HOW, HBEL⟩ := hrel
  obtain ⟨O, hO⟩ : ∃ O, O = padded B32 N i := ⟨_, rfl⟩
  have HOO := h0d hO
  rw [← hO] at HOW
  have HOL : Hid (O.length = i) := by show _ = _; rw [hO, padded_length]
  have HOX : Hid (∀ x ∈ O, x < B32) := by rw [hO]; exact padded_lt B32_2 N i
  obtain ⟨A5, c5, rfl⟩ := HOW.out.slice
  rw [HOL.out]
  clear hO
  by_cases hlt : i + q < k1
  ·obtain ⟨b1, f1, x, rfl, hb1, hx, hcx⟩ := HC1.out (i + q) hlt
   have hxB := digs_lt B32_2 m x (List.mem_of_getElem? hx)
   have hcx' := (HBEL.out.cell (p := ⟨b1, f1 + (i + q), none⟩) hb1).trans hcx
   have hxB' : x < 4294967296 := by unfold B32 at hxB; exact hxB
   have hw0 : IntKind.u64.wrap (x : Int) = (x : Int) := wrap_nat x (by omega)
   have hwr : IntKind.u64.wrap (r : Int) = (r : Int) := wrap_nat r (by omega)
   have hktm : (k : Int).tmod 32 = (r : Int) := by rw [Int.tmod_eq_emod_of_nonneg (by omega), hkr]
   have hminr : min r 64 = r := by omega
   have hi6 : i ≤ 2000000 := by omega
   have hlti : (i : Int) + (q : Int) < (k1 : Int) := by omega
   have hiq0 : (0 : Int) ≤ (i : Int) + (q : Int) := by omega
   have hiqn : ((i : Int) + (q : Int)).toNat = i + q := by omega
   by_cases hl2 : i + q + 1 < k1
   ·obtain ⟨b2, f2, y, he2, hb2, hy, hcy⟩ := HC1.out (i + q + 1) hl2
    obtain ⟨rfl, rfl⟩ : b1 = b2 ∧ f1 = f2 := by simpa using he2
    have hyB := digs_lt B32_2 m y (List.mem_of_getElem? hy)
    have hyB' : y < 4294967296 := by unfold B32 at hyB; exact hyB
    have hcy' := (HBEL.out.cell (p := ⟨b1, f1 + (i + q + 1), none⟩) hb1).trans hcy
    have hg := HG.out i x y hx (getD_of hy)
    obtain ⟨Y, hY⟩ : ∃ Y, Y = y * 4294967296 := ⟨_, rfl⟩
    have hwy : IntKind.u64.wrap (y : Int) = (y : Int) := wrap_nat y (by omega)
    have hcY : IntKind.u64.wrap ((y : Int) * 4294967296) = (Y : Int) := by rw [show (y : Int) * 4294967296 = (Y : Int) by omega]; exact wrap_nat Y (by omega)
    obtain ⟨T, hT⟩ : ∃ T, T = x + B32 * y := ⟨_, rfl⟩
    have hor : bits .or .u64 (x : Int) (Y : Int) = (T : Int) := by
     rw [bits_or_u64_nat _ _ (by omega) (by omega), or_parts (r := 32) (by rw [two32]; exact hxB) (by rw [hY]; exact Nat.dvd_mul_left _ _), hT, hY, Nat.mul_comm B32]; rfl
    rw [← hT] at hg
    obtain ⟨s, hs⟩ : ∃ s, s = N / B32 ^ i % B32 := ⟨_, rfl⟩
    obtain ⟨U, hU⟩ : ∃ U, U = T / 2 ^ r := ⟨_, rfl⟩
    have hdr : (T : Int) / 2 ^ r = (U : Int) := by rw [hU, Int.natCast_ediv, Int.natCast_pow]; rfl
    have hs32 : IntKind.u32.wrap (U : Int) = (s : Int) := by rw [IntKind.wrap_u32, hs, ← hg, hU]; unfold B32; omega
    clear hU
    have HS := h0d hs
    have hl2i : (i : Int) + (q : Int) + 1 < (k1 : Int) := by omega
    have hiq10 : (0 : Int) ≤ (i : Int) + (q : Int) + 1 := by omega
    have hn1 : ((i : Int) + (q : Int) + 1).toNat = i + q + 1 := by omega
    have hw1 : IntKind.i64.wrap ((i : Int) + (q : Int) + 1) = (i : Int) + (q : Int) + 1 := IntWalk.i64_in _ (by omega)
    clear hx hcx hg hT hs hxB hyB hy hcy he2 hY hi
    have HOW1 := h0d (World.ownsRow.alloc HOW.out (.cells #[.int .u32 (s : Int)] 271))
    rw [HOL.out] at HOW1
    have HBE1 : Hid (Below w.heap.size w (wr.alloc (.cells #[.int .u32 (s : Int)] 271))) := HBEL.out.alloc HBEL.out.size _
    go_wp2_with (at_builtin; refine wpList_append_own _ rfl _ _ 38 rfl w.heap.size 271 i0 (.int .u32 0) 1 4 Tryz.underlying38 hi0 hz0 hz1 hz2 rfl (by decide) _ (i) _ rfl HOW1.out ⟨wr.heap.size, 0, none⟩ 1 1 [.int .u32 (s : Int)] rfl rfl (cells_new wr #[.int .u32 (s : Int)] 271 (0, 0)) (fun u hu => by rw [List.mem_singleton.1 hu]; rfl) (by unfold maxLen; omega) (by omega) (by have := HBEL.out.size; simp; omega) ?_; intro v' w1 hown1 hgrow1 _; have HW1 := h0d hown1; have HG1 := h0d hgrow1; clear hown1 hgrow1)
    go_roundw
    case rel =>
     refine ⟨i + 1, .inr (by omega), by go_num, ?_, HBE1.out.grown HG1.out (by have := HBEL.out.size; simp; omega) (fun g hg => (HOW1.out.lt g hg).1)⟩
     have h := HW1.out
     show OwnV _ _ _ _
     unfold OwnV
     rw [padded_succ, ← HOO.out, ← HS.out, List.length_append, HOL.out, List.map_append]; exact h
    case measure => simp [intOf]; omega
   ·have hg := HG.out i x 0 hx (by rw [List.getD_eq_getElem?_getD, List.getElem?_eq_none (by rw [HE1.out]; omega)]; rfl)
    rw [Nat.mul_zero, Nat.add_zero] at hg
    obtain ⟨s, hs⟩ : ∃ s, s = N / B32 ^ i % B32 := ⟨_, rfl⟩
    obtain ⟨U, hU⟩ : ∃ U, U = x / 2 ^ r := ⟨_, rfl⟩
    have hdr : (x : Int) / 2 ^ r = (U : Int) := by rw [hU, Int.natCast_ediv, Int.natCast_pow]; rfl
    have hs32 : IntKind.u32.wrap (U : Int) = (s : Int) := by rw [IntKind.wrap_u32, hs, ← hg, hU]; unfold B32; omega
    clear hU
    have HS := h0d hs
    have hl2i : ¬ (i : Int) + (q : Int) + 1 < (k1 : Int) := by omega
    have hw1 : IntKind.i64.wrap ((i : Int) + (q : Int) + 1) = (i : Int) + (q : Int) + 1 := IntWalk.i64_in _ (by omega)
    clear hx hcx hg hs hxB hi
    have HOW1 := h0d (World.ownsRow.alloc HOW.out (.cells #[.int .u32 (s : Int)] 271))
    rw [HOL.out] at HOW1
    have HBE1 : Hid (Below w.heap.size w (wr.alloc (.cells #[.int .u32 (s : Int)] 271))) := HBEL.out.alloc HBEL.out.size _
    go_wp2_with (at_builtin; refine wpList_append_own _ rfl _ _ 38 rfl w.heap.size 271 i0 (.int .u32 0) 1 4 Tryz.underlying38 hi0 hz0 hz1 hz2 rfl (by decide) _ (i) _ rfl HOW1.out ⟨wr.heap.size, 0, none⟩ 1 1 [.int .u32 (s : Int)] rfl rfl (cells_new wr #[.int .u32 (s : Int)] 271 (0, 0)) (fun u hu => by rw [List.mem_singleton.1 hu]; rfl) (by unfold maxLen; omega) (by omega) (by have := HBEL.out.size; simp; omega) ?_; intro v' w1 hown1 hgrow1 _; have HW1 := h0d hown1; have HG1 := h0d hgrow1; clear hown1 hgrow1)
    go_roundw
    case rel =>
     refine ⟨i + 1, .inr (by omega), by go_num, ?_, HBE1.out.grown HG1.out (by have := HBEL.out.size; simp; omega) (fun g hg => (HOW1.out.lt g hg).1)⟩
     have h := HW1.out
     show OwnV _ _ _ _
     unfold OwnV
     rw [padded_succ, ← HOO.out, ← HS.out, List.length_append, HOL.out, List.map_append]; exact h
    case measure => simp [intOf]; omega
  ·have HXV : Hid (val B32 O = m / 2 ^ k) := by
    show _ = _
    rw [HN.out, HOO.out, val_padded B32_2, Nat.mod_eq_of_lt (HNS.out i (by omega))]
   have HCUT := h0d (rcut_num _ O wr HOW.out.rd HOX.out)
   rw [HXV.out, HOL.out] at HCUT
   have hlti : ¬ (i : Int) + (q : Int) < (k1 : Int) := by omega
   clear hi
   go_wp2_with (go_at_call 245; refine HCUT.out.mono ?_; rintro e w2 ⟨⟨v', rfl, hr⟩, rfl⟩; have HR := h0d hr; clear hr)
   go_ret
   exact ⟨⟨_, rfl, HR.out⟩, HBEL.out⟩
end Go.Proofs.YtodckaioeomccaaGreat
