/- The walks of left and right: shifts of a number. -/
import Derived.Test.YtodckaioeomccaaGreatPart09
import Derived.Test.YtodckaioeomccaaGreatPart10
import Derived.StillTailTactics
import Derived.IntWalk
namespace Go.Proofs.YtodckaioeomccaaGreat
open Go.RowKit
set_option linter.unusedVariables false
set_option linter.unusedSimpArgs false
theorem left_step {O am : List Nat} {i q x o u B R : Nat} (hk : i + q + 1 < O.length) (hx : am[i]? = some x) (ho : O.getD (i + q) 0 = o) (hz : O.getD (i + q + 1) 0 = 0)
  (hu : u = o + x * R % B)
  (h : val B O = val B (am.take i) * R * B ^ q) :
  val B ((O.set (i + q) u).set (i + q + 1) (x * R / B)) = val B (am.take (i + 1)) * R * B ^ q := by
 have h1 := val_set B u (show i + q < O.length by omega)
 have h2 := val_set B (xs := O.set (i + q) u) (i := i + q + 1) (x * R / B) (by simpa using hk)
 rw [List.getD_eq_getElem?_getD, List.getElem?_set_ne (by omega), ← List.getD_eq_getElem?_getD, hz] at h2
 rw [ho] at h1
 rw [val_take B hx, Nat.add_mul, Nat.add_mul]
 have e := Nat.div_add_mod (x * R) B
 have e2 : x * R % B * B ^ (i + q) + x * R / B * B ^ (i + q + 1) = x * B ^ i * R * B ^ q := by
  have : x * B ^ i * R * B ^ q = x * R * B ^ (i + q) := by
   rw [Nat.pow_add, Nat.mul_assoc x, Nat.mul_comm (B ^ i) R, ← Nat.mul_assoc x, Nat.mul_assoc (x * R)]
  rw [this, Nat.pow_succ]
  conv => rhs; rw [← e, Nat.add_mul]
  rw [Nat.add_comm, Nat.mul_comm (B ^ (i + q)) B, ← Nat.mul_assoc, Nat.mul_comm (x * R / B) B]
 have e3 : u * B ^ (i + q) = o * B ^ (i + q) + x * R % B * B ^ (i + q) := by rw [hu, Nat.add_mul]
 omega
theorem two_pow_split (k : Nat) : 2 ^ k = 2 ^ (k % 64) * B64 ^ (k / 64) := by
 have : (B64 : Nat) = 2 ^ 64 := by rw [two64]; rfl
 rw [this, ← Nat.pow_mul, ← Nat.pow_add]
 congr 1
 omega
theorem shift_parts {x r : Nat} (hx : x < B64) (hr : r < 64) : x / 2 ^ (64 - r) = x * 2 ^ r / B64 ∧ x * 2 ^ r / B64 < 2 ^ r ∧ 2 ^ r ∣ x * 2 ^ r % B64 := by
 have hp : 0 < 2 ^ r := Nat.two_pow_pos r
 have e64 : 2 ^ (64 - r) * 2 ^ r = B64 := by rw [← Nat.pow_add, show 64 - r + r = 64 by omega, two64]; rfl
 refine ⟨?_, ?_, ?_⟩
 ·rw [← e64, Nat.mul_div_mul_right _ _ hp]
 ·rw [Nat.div_lt_iff_lt_mul (by unfold B64; omega), Nat.mul_comm]; exact Nat.mul_lt_mul_of_pos_left hx hp
 ·rw [← e64, Nat.mul_mod_mul_right]; exact Nat.dvd_mul_left _ _
theorem or_parts {a b r : Nat} (ha : a < 2 ^ r) (hb : 2 ^ r ∣ b) : a ||| b = a + b := by
 obtain ⟨c, rfl⟩ := hb
 rw [Nat.or_comm, ← Nat.two_pow_add_eq_or_of_lt ha, Nat.add_comm]
set_option maxRecDepth 100000 in
set_option maxHeartbeats 4000000 in
theorem left_any (va : Value) (m k : Nat) (w : World) (hP : RdN w va m) (hm6 : dl m ≤ 1000000) (hk6 : k ≤ 64000000) :
  Calls Tryz.prog 267 #[va, .int .i64 (k : Int)] w fun e w' => (∃ v', e = .returned v' ∧ RdN w' v' (m * 2 ^ k)) ∧ Below w.heap.size w w' := by
 have hmk := make_words
 have HP := h0d hP
 obtain ⟨A1, k1, c1, rfl, e1, hk1, _, hm1, hc1⟩ := RdW.open_ hP
 have hk16 : k1 ≤ 1000000 := by unfold dl at hm6; omega
 have HE1 := h0d e1
 have HC1 := h0d hc1
 obtain ⟨q, hq⟩ : ∃ q, q = k / 64 := ⟨_, rfl⟩
 obtain ⟨r, hr⟩ : ∃ r, r = k % 64 := ⟨_, rfl⟩
 have HMK := hmk (k1 + q + 1) (k1 + q + 1) (Nat.le_refl _) (by omega)
 obtain ⟨C0, hC0⟩ : ∃ C, C = ((List.replicate (k1 + q + 1) 0).map u64V).toArray := ⟨_, rfl⟩
 rw [← hC0, show ((k1 + q + 1 : Nat) : Int) = (k1 : Int) + (q : Int) + 1 by omega] at HMK
 have HB0 : Hid (BlkW (w.alloc (.cells C0 270)) w.heap.size (List.replicate (k1 + q + 1) 0)) := by rw [hC0]; exact BlkW.new w _
 have HZM : Hid (k1 = 0 → m = 0) := fun h => (digs_nil B64_2).1 (List.length_eq_zero_iff.1 (by rw [e1, h]))
 clear hmk e1 hc1 hP hC0 hm6
 by_cases h0 : k1 = 0
 ·have HZ : Hid (m * 2 ^ k = m) := by show _ = _; rw [HZM.out h0, Nat.zero_mul]
  subst h0
  go_enter Tryz.func267, Tryz.ntmps267
  go_wp2_with fail
  go_ret
  exact ⟨⟨_, rfl, by rw [HZ.out]; exact HP.out⟩, Below.refl _ _⟩
 ·have h0b : ((k1 : Int) == 0) = false := by simp; omega
  by_cases hk0 : k = 0
  ·have HZ : Hid (m * 2 ^ k = m) := by show _ = _; rw [hk0, Nat.pow_zero, Nat.mul_one]
   clear hq hr
   subst hk0
   go_enter Tryz.func267, Tryz.ntmps267
   go_wp2_with fail
   go_ret
   exact ⟨⟨_, rfl, by rw [HZ.out]; exact HP.out⟩, Below.refl _ _⟩
  ·have hkb : ((k : Int) == 0) = false := by simp; omega
   have hkq : (k : Int) / 64 = (q : Int) := by omega
   have hkr : (k : Int) % 64 = (r : Int) := by omega
   have hr64 : r < 64 := by omega
   obtain ⟨t, ht⟩ : ∃ t, t = 64 - r := ⟨_, rfl⟩
   have htr : (64 : Int) - (r : Int) = (t : Int) := by omega
   have hminr : min r 64 = r := by omega
   have hmint : min t 64 = t := by omega
   have HPW : Hid (2 ^ k = 2 ^ r * B64 ^ q) := by show _ = _; rw [hq, hr]; exact two_pow_split k
   have HT := h0d ht
   have HSP := h0d (fun x hx => shift_parts (x := x) hx hr64)
   clear hq hr h0 hk0 ht
   go_enter Tryz.func267, Tryz.ntmps267
   go_wp2_with fail
   go_loopw [25] (fun iv wr => ∃ (i : Nat) (O : List Nat), i ≤ k1 ∧ iv = .int .i64 (i : Int) ∧ Hid (O.length = k1 + q + 1) ∧ Hid (∀ x ∈ O, x < B64) ∧ Hid (O.getD (i + q) 0 < 2 ^ r) ∧ Hid (∀ j, i + q < j → O.getD j 0 = 0) ∧ Hid (BlkW wr w.heap.size O) ∧ Hid (Below w.heap.size w wr) ∧ Hid (val B64 O = val B64 ((digs B64 m).take i) * 2 ^ r * B64 ^ q)) (fun iv _ => k1 - (intOf iv).toNat)
   case atStart =>
    have hz : ∀ j, (List.replicate (k1 + q + 1) 0).getD j 0 = 0 := fun j => by
     rw [List.getD_eq_getElem?_getD, List.getElem?_replicate]; split <;> rfl
    refine ⟨0, List.replicate (k1 + q + 1) 0, Nat.zero_le _, rfl, by show _ = _; simp, fun x hx => ?_, ?_, fun j _ => hz j, HB0, (Below.refl _ w).alloc (Nat.le_refl _) _, ?_⟩
    ·rw [List.eq_of_mem_replicate hx]; unfold B64; omega
    ·show _ < _; rw [hz]; exact Nat.two_pow_pos r
    ·show _ = _
     rw [val_replicate]; simp [val]
   case round =>
    obtain ⟨i, O, hi, rfl, HOL, HOX, HOR, HOZ, HBW, HBEL, HV⟩ := hrel
    by_cases hlt : i < k1
    ·obtain ⟨b1, f1, x, rfl, hb1, hx, hcx⟩ := HC1.out i hlt
     have hxB := digs_lt B64_2 m x (List.mem_of_getElem? hx)
     have hcx' := (HBEL.out.cell (p := ⟨b1, f1 + i, none⟩) hb1).trans hcx
     have hpl : i + q + 1 < O.length := by have := HOL.out; omega
     obtain ⟨o, ho⟩ : ∃ o, O.getD (i + q) 0 = o := ⟨_, rfl⟩
     have hor := HOR.out
     rw [ho] at hor
     obtain ⟨p1, p2, p3⟩ := HSP.out x hxB
     obtain ⟨lo, hlo⟩ : ∃ l, l = x * 2 ^ r % B64 := ⟨_, rfl⟩
     obtain ⟨hi', hhi⟩ : ∃ l, l = x * 2 ^ r / B64 := ⟨_, rfl⟩
     have hst := left_step (B := B64) (u := o + lo) hpl hx ho (HOZ.out _ (by omega)) (by rw [hlo]) HV.out
     rw [← hhi] at hst p1 p2
     rw [← hlo] at p3
     have hloB : lo < B64 := by rw [hlo]; exact Nat.mod_lt _ (by unfold B64; omega)
     have hsum : o ||| lo = o + lo := or_parts hor p3
     have hsB : o + lo < B64 := by
      rw [← hsum]
      have h1 : o < 2 ^ 64 := by rw [two64]; exact Nat.lt_of_lt_of_le hor (by
       have : 2 ^ r ≤ 2 ^ 64 := Nat.pow_le_pow_right (by omega) (by omega)
       rw [two64] at this; exact this)
      have h2 : lo < 2 ^ 64 := by rw [two64]; exact hloB
      have := Nat.or_lt_two_pow h1 h2
      rw [two64] at this; exact this
     obtain ⟨X, hX⟩ : ∃ X, X = x * 2 ^ r := ⟨_, rfl⟩
     have hcX : (x : Int) * 2 ^ r = (X : Int) := by rw [hX, Int.natCast_mul, Int.natCast_pow]; rfl
     have hwX : IntKind.u64.wrap (X : Int) = (lo : Int) := by rw [Mul64.wrapM, hX, hlo]; rfl
     obtain ⟨u, hu⟩ : ∃ u, u = o + lo := ⟨_, rfl⟩
     rw [← hu] at hst hsum hsB
     have hbo : bits .or .u64 (o : Int) (lo : Int) = (u : Int) := by
      rw [bits_or_u64_nat _ _ (by unfold B64 at hsB; omega) hloB, hsum]
     have hdx : (x : Int) / 2 ^ t = (hi' : Int) := by rw [← p1, HT.out, Int.natCast_ediv, Int.natCast_pow]; rfl
     have hcg := HBW.out.cell (i := i + q) (x := o) (by rw [← ho, List.getD_eq_getElem?_getD, List.getElem?_eq_getElem (by omega)]; rfl)
     have hfg := HBW.out.frozen (i + q)
     have HB1 : Hid (BlkW (wr.setCell ⟨w.heap.size, i + q, none⟩ (.int .u64 (u : Int))).drew w.heap.size (O.set (i + q) u)) := (HBW.out.set_ (i + q) u).drew
     have hcg2 := HB1.out.cell (i := i + q + 1) (x := 0) (by
      rw [List.getElem?_set_ne (by omega), ← HOZ.out (i + q + 1) (by omega), List.getD_eq_getElem?_getD, List.getElem?_eq_getElem hpl]; rfl)
     have hfg2 := HB1.out.frozen (i + q + 1)
     have HST := h0d hst
     have HSB := h0d hsB
     have HHI : Hid (hi' < 2 ^ r) := p2
     have HLT : Hid (hi' < B64) := by
      show _ < _
      refine Nat.lt_of_lt_of_le p2 ?_
      have : 2 ^ r ≤ 2 ^ 64 := Nat.pow_le_pow_right (by omega) (by omega)
      rw [two64] at this; exact this
     have hiq : (i : Int) + (q : Int) < (k1 : Int) + (q : Int) + 1 := by omega
     have hiq1 : (i : Int) + (q : Int) + 1 < (k1 : Int) + (q : Int) + 1 := by omega
     clear hx hcx hst hlo hhi hX hu ho hsum hsB hpl hxB p1 p2 p3 hloB hor
     go_wp2_with fail
     have hwq : IntKind.i64.wrap (q : Int) = (q : Int) := IntWalk.i64_in _ (by omega)
     have hwiq : IntKind.i64.wrap ((i : Int) + (q : Int)) = (i : Int) + (q : Int) := IntWalk.i64_in _ (by omega)
     have hktm : (k : Int).tmod 64 = (r : Int) := by rw [Int.tmod_eq_emod_of_nonneg (by omega), hkr]
     have hiq0 : (0 : Int) ≤ (i : Int) + (q : Int) := by omega
     have hiqn : ((i : Int) + (q : Int)).toNat = i + q := by omega
     go_still_tail 13, (by kernel_rfl)
     clear hwq hwiq hktm hiqn
     go_wp2_with fail
     go_roundw
     case rel =>
      refine ⟨i + 1, (O.set (i + q) u).set (i + q + 1) hi', by omega, by go_num, by show _ = _; rw [List.length_set, List.length_set]; exact HOL.out, fun z hz => ?_, ?_, fun j hj => ?_, (HB1.out.set_ (i + q + 1) hi').drew, ((HBEL.out.setCell (Nat.le_refl _) _).setCell (Nat.le_refl _) _).drew, HST.out⟩
      ·rcases List.mem_or_eq_of_mem_set hz with h | h
       ·rcases List.mem_or_eq_of_mem_set h with h | h
        ·exact HOX.out z h
        ·rw [h]; exact HSB.out
       ·rw [h]; exact HLT.out
      ·show _ < _
       rw [show i + 1 + q = i + q + 1 by omega, List.getD_eq_getElem?_getD, List.getElem?_set_self (by rw [List.length_set]; have := HOL.out; omega)]
       exact HHI.out
      ·rw [List.getD_eq_getElem?_getD, List.getElem?_set_ne (by omega), List.getElem?_set_ne (by omega), ← List.getD_eq_getElem?_getD]; exact HOZ.out j (by omega)
     case measure => simp [intOf]; omega
    ·obtain rfl : i = k1 := by omega
     have HVV : Hid (val B64 O = m * 2 ^ k) := by
      show _ = _
      rw [HV.out, List.take_of_length_le (by rw [HE1.out]; exact Nat.le_refl _), val_digs B64_2, HPW.out, Nat.mul_assoc]
     have HCUT := h0d (cut_num _ O wr (HBW.out.rd0 (n := i + q + 1) (cap := i + q + 1) (HOL.out.symm) (Nat.le_refl _) (by unfold maxLen; omega)) HOX.out)
     rw [HVV.out] at HCUT
     go_wp2_with (go_at_call 232; refine HCUT.out.mono ?_; rintro e w2 ⟨⟨v', rfl, hr⟩, rfl⟩; have HR := h0d hr; clear hr)
     go_ret
     exact ⟨⟨_, rfl, HR.out⟩, HBEL.out⟩
theorem getD_div {m i : Nat} : (digs B64 m).getD i 0 = m / B64 ^ i % B64 := by
 by_cases h : i < (digs B64 m).length
 ·have e := List.getElem?_eq_getElem h
  rw [getD_of e, (digs_get_div B64_2 e).1]
 ·rw [List.getD_eq_getElem?_getD, List.getElem?_eq_none (by omega), digs_div_none B64_2 (by omega)]; rfl
theorem right_get {m q r t i x y : Nat} (hr : r < 64) (ht : t = 64 - r) (hx : (digs B64 m)[i + q]? = some x) (hy : (digs B64 m).getD (i + q + 1) 0 = y) :
  m / (2 ^ r * B64 ^ q) / B64 ^ i % B64 = x / 2 ^ r + (y * 2 ^ t) % B64 ∧ x / 2 ^ r < 2 ^ t ∧ 2 ^ t ∣ (y * 2 ^ t) % B64 ∧ x / 2 ^ r + (y * 2 ^ t) % B64 < B64 := by
 have hp : 0 < 2 ^ r := Nat.two_pow_pos r
 have hpt : 0 < 2 ^ t := Nat.two_pow_pos t
 have e64 : 2 ^ r * 2 ^ t = B64 := by rw [← Nat.pow_add, show r + t = 64 by omega, two64]; rfl
 obtain ⟨h1, h2⟩ := digs_get_div B64_2 hx
 have hxB := digs_lt B64_2 m x (List.mem_of_getElem? hx)
 have e : m / (2 ^ r * B64 ^ q) / B64 ^ i = m / B64 ^ (i + q) / 2 ^ r := by
  rw [Nat.div_div_eq_div_mul, Nat.div_div_eq_div_mul, Nat.pow_add]
  congr 1
  rw [Nat.mul_comm (2 ^ r), Nat.mul_assoc, Nat.mul_comm (2 ^ r), ← Nat.mul_assoc, Nat.mul_comm (B64 ^ q)]
 rw [getD_div] at hy
 obtain ⟨M, hM⟩ : ∃ M, M = m / B64 ^ (i + q + 1) := ⟨_, rfl⟩
 rw [← hM] at hy h2
 have hxt : x / 2 ^ r < 2 ^ t := by rw [Nat.div_lt_iff_lt_mul hp, Nat.mul_comm, e64]; exact hxB
 have hmod : (y * 2 ^ t) % B64 = (y % 2 ^ r) * 2 ^ t := by rw [← e64, Nat.mul_mod_mul_right]
 have hlt : x / 2 ^ r + (y % 2 ^ r) * 2 ^ t < B64 := by
  have h3 : (y % 2 ^ r + 1) * 2 ^ t ≤ 2 ^ r * 2 ^ t := Nat.mul_le_mul_right _ (Nat.mod_lt _ hp)
  rw [Nat.add_mul, e64, Nat.one_mul] at h3
  omega
 rw [e, h2, hmod]
 refine ⟨?_, hxt, Nat.dvd_mul_left _ _, hlt⟩
 have h4 : (x + B64 * M) / 2 ^ r = x / 2 ^ r + 2 ^ t * M := by
  rw [← e64, Nat.mul_assoc, Nat.add_mul_div_left _ _ hp]
 have h5 := Nat.div_add_mod M B64
 rw [hy] at h5
 have h6 := Nat.div_add_mod y (2 ^ r)
 have h7 : 2 ^ t * M = B64 * (2 ^ t * (M / B64)) + (B64 * (y / 2 ^ r) + y % 2 ^ r * 2 ^ t) := by
  have a1 : 2 ^ t * M = 2 ^ t * (B64 * (M / B64)) + 2 ^ t * y := by rw [← Nat.mul_add, h5]
  have a2 : 2 ^ t * y = 2 ^ t * (2 ^ r * (y / 2 ^ r)) + 2 ^ t * (y % 2 ^ r) := by rw [← Nat.mul_add, h6]
  rw [a1, a2, ← Nat.mul_assoc (2 ^ t) (2 ^ r), Nat.mul_comm (2 ^ t) (2 ^ r), e64, Nat.mul_left_comm, Nat.mul_comm (2 ^ t) (y % 2 ^ r)]
 rw [h4, h7, ← Nat.add_assoc, Nat.add_comm (x / 2 ^ r), Nat.add_assoc, Nat.mul_add_mod, Nat.add_comm (B64 * (y / 2 ^ r)), ← Nat.add_assoc, Nat.add_mul_mod_self_left, Nat.mod_eq_of_lt hlt]
set_option maxRecDepth 100000 in
set_option maxHeartbeats 4000000 in
theorem right_any (va : Value) (m k : Nat) (w : World) (hP : RdN w va m) (hm6 : dl m ≤ 1000000) (hk6 : k ≤ 1000000000) :
  Calls Tryz.prog 269 #[va, .int .i64 (k : Int)] w fun e w' => (∃ v', e = .returned v' ∧ RdN w' v' (m / 2 ^ k)) ∧ Below w.heap.size w w' := by
 have hmk := make_words
 obtain ⟨A1, k1, c1, rfl, e1, hk1, _, hm1, hc1⟩ := RdW.open_ hP
 have hk16 : k1 ≤ 1000000 := by unfold dl at hm6; omega
 have HE1 := h0d e1
 have HC1 := h0d hc1
 obtain ⟨q, hq⟩ : ∃ q, q = k / 64 := ⟨_, rfl⟩
 obtain ⟨r, hr⟩ : ∃ r, r = k % 64 := ⟨_, rfl⟩
 have hkq : (k : Int) / 64 = (q : Int) := by omega
 have hkr : (k : Int) % 64 = (r : Int) := by omega
 have hr64 : r < 64 := by omega
 have HPW : Hid (2 ^ k = 2 ^ r * B64 ^ q) := by show _ = _; rw [hq, hr]; exact two_pow_split k
 have hq6 : q ≤ 1000000000 := by omega
 by_cases hqk : k1 ≤ q
 ·have HZ : Hid (m / 2 ^ k = 0) := by
   show _ = _
   rw [HPW.out]
   refine Nat.div_eq_of_lt (Nat.lt_of_lt_of_le ((len_le_iff B64_2 m q).1 (by rw [e1]; exact hqk)) ?_)
   exact Nat.le_mul_of_pos_left _ (Nat.two_pow_pos r)
  clear hmk e1 hc1 hP hm6 hq hr
  go_enter Tryz.func269, Tryz.ntmps269
  go_wp2_with fail
  go_ret
  exact ⟨⟨_, rfl, by rw [HZ.out]; unfold RdN; rw [digs_zero]; exact Rd.none_ _ _ _⟩, Below.refl _ _⟩
 ·obtain ⟨n, hn⟩ : ∃ n, n = k1 - q := ⟨_, rfl⟩
  have hni : (k1 : Int) - (q : Int) = (n : Int) := by omega
  have HMK := hmk n n (Nat.le_refl _) (by omega)
  obtain ⟨C0, hC0⟩ : ∃ C, C = ((List.replicate n 0).map u64V).toArray := ⟨_, rfl⟩
  rw [← hC0] at HMK
  have HB0 : Hid (BlkW (w.alloc (.cells C0 270)) w.heap.size (List.replicate n 0)) := by rw [hC0]; exact BlkW.new w _
  obtain ⟨t, ht⟩ : ∃ t, t = 64 - r := ⟨_, rfl⟩
  have htr : (64 : Int) - (r : Int) = (t : Int) := by omega
  have hminr : min r 64 = r := by omega
  have hmint : min t 64 = t := by omega
  obtain ⟨D, hD⟩ : ∃ D, D = padded B64 (m / 2 ^ k) n := ⟨_, rfl⟩
  have HDL : Hid (D.length = n) := by show _ = _; rw [hD, padded_length]
  have HDX : Hid (∀ x ∈ D, x < B64) := by rw [hD]; exact padded_lt B64_2 _ _
  have HDV : Hid (val B64 D = m / 2 ^ k) := by
   show _ = _
   rw [hD, val_padded B64_2]
   refine Nat.mod_eq_of_lt ?_
   rw [HPW.out, Nat.div_lt_iff_lt_mul (Nat.mul_pos (Nat.two_pow_pos r) (Nat.pow_pos (by unfold B64; omega)))]
   refine Nat.lt_of_lt_of_le ((len_le_iff B64_2 m k1).1 (by rw [e1]; exact Nat.le_refl _)) ?_
   rw [Nat.mul_comm (2 ^ r), ← Nat.mul_assoc, ← Nat.pow_add, show n + q = k1 by omega]
   exact Nat.le_mul_of_pos_right _ (Nat.two_pow_pos r)
  have HDG : Hid (∀ i x y, i < n → (digs B64 m)[i + q]? = some x → (digs B64 m).getD (i + q + 1) 0 = y → D[i]? = some (x / 2 ^ r + (y * 2 ^ t) % B64) ∧ x / 2 ^ r < 2 ^ t ∧ 2 ^ t ∣ (y * 2 ^ t) % B64 ∧ x / 2 ^ r + (y * 2 ^ t) % B64 < B64) := fun i x y hi hx hy => by
   obtain ⟨h1, h2⟩ := right_get hr64 ht hx hy
   refine ⟨?_, h2⟩
   rw [hD, padded_get hi, HPW.out, h1]
  have hn1 : n + q ≤ k1 := by omega
  have hn2 : k1 ≤ n + q := by omega
  have hqk' : q < k1 := by omega
  have hqb : decide (k1 ≤ q) = false := by simp; omega
  clear hmk e1 hc1 hP hm6 hq hr hC0 ht hD hn hqk
  go_enter Tryz.func269, Tryz.ntmps269
  go_wp2_with fail
  go_loopw [20] (fun iv wr => ∃ (i : Nat) (O : List Nat), i ≤ n ∧ iv = .int .i64 (i : Int) ∧ Hid (O.length = n) ∧ Hid (O.take i = D.take i) ∧ Hid (BlkW wr w.heap.size O) ∧ Hid (Below w.heap.size w wr)) (fun iv _ => n - (intOf iv).toNat)
  case atStart => exact ⟨0, List.replicate n 0, Nat.zero_le _, rfl, by show _ = _; simp, by show _ = _; simp, HB0, (Below.refl _ w).alloc (Nat.le_refl _) _⟩
  case round =>
   obtain ⟨i, O, hi, rfl, HOL, HOT, HBW, HBEL⟩ := hrel
   by_cases hlt : i < n
   ·obtain ⟨b1, f1, x, rfl, hb1, hx, hcx⟩ := HC1.out (i + q) (by omega)
    have hxB := digs_lt B64_2 m x (List.mem_of_getElem? hx)
    have hcx' := (HBEL.out.cell (p := ⟨b1, f1 + (i + q), none⟩) hb1).trans hcx
    obtain ⟨y, hy⟩ : ∃ y, (digs B64 m).getD (i + q + 1) 0 = y := ⟨_, rfl⟩
    obtain ⟨p1, p2, p3, p4⟩ := HDG.out i x y hlt hx hy
    obtain ⟨a, ha⟩ : ∃ a, a = x / 2 ^ r := ⟨_, rfl⟩
    obtain ⟨c, hc⟩ : ∃ c, c = (y * 2 ^ t) % B64 := ⟨_, rfl⟩
    rw [← ha, ← hc] at p1 p4
    rw [← ha] at p2
    rw [← hc] at p3
    have hyB : y < B64 := by rw [← hy]; exact digs_getD_lt _ _
    have hdx : (x : Int) / 2 ^ r = (a : Int) := by rw [ha, Int.natCast_ediv, Int.natCast_pow]; rfl
    have hcB : c < B64 := by rw [hc]; exact Nat.mod_lt _ (by unfold B64; omega)
    have hcg := HBW.out.cell (i := i) (x := O.getD i 0) (by rw [List.getD_eq_getElem?_getD, List.getElem?_eq_getElem (by have := HOL.out; omega)]; rfl)
    have hfg := HBW.out.frozen i
    have HST : Hid ((O.set i (a + c)).take (i + 1) = D.take (i + 1)) := by
     show _ = _
     rw [set_take_succ (by have := HOL.out; omega), HOT.out, take_snoc? p1]
    by_cases hlast : i + q + 1 < k1
    ·obtain ⟨b2, f2, y', hA, hb2, hy', hcy⟩ := HC1.out (i + q + 1) hlast
     obtain ⟨rfl, rfl⟩ : b1 = b2 ∧ f1 = f2 := by simpa using hA
     obtain rfl : y' = y := by rw [← hy, getD_of hy']
     have hcy' := (HBEL.out.cell (p := ⟨b1, f1 + (i + q + 1), none⟩) hb2).trans hcy
     obtain ⟨Y, hY⟩ : ∃ Y, Y = y' * 2 ^ t := ⟨_, rfl⟩
     have hcY : (y' : Int) * 2 ^ t = (Y : Int) := by rw [hY, Int.natCast_mul, Int.natCast_pow]; rfl
     have hwY : IntKind.u64.wrap (Y : Int) = (c : Int) := by rw [Mul64.wrapM, hY, hc]; rfl
     obtain ⟨u, hu⟩ : ∃ u, u = a + c := ⟨_, rfl⟩
     rw [← hu] at p1 p4 HST
     have hbo : bits .or .u64 (a : Int) (c : Int) = (u : Int) := by
      rw [bits_or_u64_nat _ _ (by unfold B64 at p4; omega) hcB, or_parts p2 p3, hu]
     have HB1 : Hid (BlkW (wr.setCell ⟨w.heap.size, i, none⟩ (.int .u64 (a : Int))) w.heap.size (O.set i a)) := HBW.out.set_ i a
     have hcg2 := HB1.out.cell (i := i) (x := a) (by rw [List.getElem?_set_self (by have := HOL.out; omega)])
     have hfg2 := HB1.out.frozen i
     have hcy2 : (wr.setCell ⟨w.heap.size, i, none⟩ (.int .u64 (a : Int))).cell? ⟨b1, f1 + (i + q + 1), none⟩ = some (.int .u64 (y' : Int)) := ((HBEL.out.setCell (p := ⟨w.heap.size, i, none⟩) (Nat.le_refl _) _).cell (p := ⟨b1, f1 + (i + q + 1), none⟩) hb2).trans hcy
     have hl1 : (i : Int) + (q : Int) + 1 < (k1 : Int) := by omega
     have HSO : Hid ((O.set i a).set i u = O.set i u) := by show _ = _; rw [List.set_set]
     clear hx hcx hy hy' hcy ha hc hY hu hxB hyB hcB p1 p2 p3 p4
     go_wp2_with fail
     have HBL1 : Hid (Below w.heap.size w (wr.setCell ⟨w.heap.size, i, none⟩ (.int .u64 (a : Int)))) := HBEL.out.setCell (Nat.le_refl _) _
     obtain ⟨W1, hW1⟩ : ∃ W1, W1 = wr.setCell ⟨w.heap.size, i, none⟩ (.int .u64 (a : Int)) := ⟨_, rfl⟩
     rw [← hW1] at HB1 hcg2 hfg2 hcy2 HBL1 ⊢
     clear hW1 hcg hfg hcx'
     have hwq : IntKind.i64.wrap (q : Int) = (q : Int) := IntWalk.i64_in _ (by omega)
     have hwiq : IntKind.i64.wrap ((i : Int) + (q : Int)) = (i : Int) + (q : Int) := IntWalk.i64_in _ (by omega)
     have hwiq1 : IntKind.i64.wrap ((i : Int) + (q : Int) + 1) = (i : Int) + (q : Int) + 1 := IntWalk.i64_in _ (by omega)
     have hktm : (k : Int).tmod 64 = (r : Int) := by rw [Int.tmod_eq_emod_of_nonneg (by omega), hkr]
     have hwt : IntKind.i64.wrap (t : Int) = (t : Int) := IntWalk.i64_in _ (by omega)
     have hiq0 : (0 : Int) ≤ (i : Int) + (q : Int) + 1 := by omega
     have hiqn : ((i : Int) + (q : Int) + 1).toNat = i + q + 1 := by omega
     go_still_tail 18, (by kernel_rfl)
     clear hwq hwiq hwiq1 hktm hiqn hwt hiq0
     go_wp2_with fail
     go_roundw
     case rel =>
      refine ⟨i + 1, O.set i u, by omega, by go_num, by show _ = _; rw [List.length_set]; exact HOL.out, HST, ?_, (HBL1.out.setCell (Nat.le_refl _) _).drew⟩
      have := (HB1.out.set_ i u).drew
      rw [HSO.out] at this
      exact this
     case measure => simp [intOf]; omega
    ·have hy0 : y = 0 := by
      rw [← hy, List.getD_eq_getElem?_getD, List.getElem?_eq_none (by have := HE1.out; omega)]; rfl
     have hc0 : c = 0 := by rw [hc, hy0, Nat.zero_mul, Nat.zero_mod]
     have hl1 : ¬ ((i : Int) + (q : Int) + 1 < (k1 : Int)) := by omega
     rw [hc0, Nat.add_zero] at HST
     clear hx hcx hy ha hc hxB hyB hcB p1 p2 p3 p4 hy0 hc0
     go_wp2_with fail
     go_roundw
     case rel => exact ⟨i + 1, O.set i a, by omega, by go_num, by show _ = _; rw [List.length_set]; exact HOL.out, HST, HBW.out.set_ i a, HBEL.out.setCell (Nat.le_refl _) _⟩
     case measure => simp [intOf]; omega
   ·obtain rfl : i = n := by omega
    have HOD : Hid (O = D) := by
     show _ = _
     have := HOT.out
     rwa [List.take_of_length_le (by rw [HOL.out]; exact Nat.le_refl _), List.take_of_length_le (by rw [HDL.out]; exact Nat.le_refl _)] at this
    have HCUT := h0d (cut_num _ O wr (HBW.out.rd0 (n := i) (cap := i) (HOL.out.symm) (Nat.le_refl _) (by unfold maxLen; omega)) (by rw [HOD.out]; exact HDX.out))
    rw [HOD.out, HDV.out] at HCUT
    go_wp2_with (go_at_call 232; refine HCUT.out.mono ?_; rintro e w2 ⟨⟨v', rfl, hr⟩, rfl⟩; have HR := h0d hr; clear hr)
    go_ret
    exact ⟨⟨_, rfl, HR.out⟩, HBEL.out⟩
end Go.Proofs.YtodckaioeomccaaGreat
