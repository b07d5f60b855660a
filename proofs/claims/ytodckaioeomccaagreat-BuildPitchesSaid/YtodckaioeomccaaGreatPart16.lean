/- The walk of take: a multiple is taken off in place. -/
import Derived.Test.YtodckaioeomccaaGreatPart09
import Derived.Test.YtodckaioeomccaaGreatPart11
import Derived.RegionTactic
import Derived.ChangeAlike
import Derived.IntWalk
namespace Go.Proofs.YtodckaioeomccaaGreat
open Go.RowKit
set_option linter.unusedVariables false
set_option linter.unusedSimpArgs false
def RowW (w : World) (g off : Nat) (xs : List Nat) : Prop := ∀ (i x : Nat), xs[i]? = some x → w.cell? ⟨g, off + i, none⟩ = some (.int .u64 (x : Int)) ∧ w.frozen? ⟨g, off + i, none⟩ = false
structure Turned (g off n : Nat) (w w' : World) : Prop where
 os : w'.os = w.os
 tape : w'.tape = w.tape
 output : w'.output = w.output
 size : w.heap.size ≤ w'.heap.size
 block : ∀ k, k < w.heap.size → k ≠ g → w'.heap[k]? = w.heap[k]?
 cell : ∀ i, i < off ∨ off + n ≤ i → w'.cell? ⟨g, i, none⟩ = w.cell? ⟨g, i, none⟩
 frozen : ∀ i, w'.frozen? ⟨g, i, none⟩ = w.frozen? ⟨g, i, none⟩
theorem Turned.of_below {g off n : Nat} {w w' : World} (hg : g < w.heap.size) (h : Below w.heap.size w w') : Turned g off n w w' :=
 ⟨h.os, h.tape, h.output, h.size, fun k hk _ => h.block k hk, fun i _ => h.cell (p := ⟨g, i, none⟩) hg, fun i => h.frozen (p := ⟨g, i, none⟩) hg⟩
theorem Turned.trans {g off n : Nat} {a b c : World} (h : Turned g off n a b) (k : Turned g off n b c) : Turned g off n a c :=
 ⟨k.os.trans h.os, k.tape.trans h.tape, k.output.trans h.output, Nat.le_trans h.size k.size, fun i hi hg => (k.block i (Nat.lt_of_lt_of_le hi h.size) hg).trans (h.block i hi hg),
  fun i hi => (k.cell i hi).trans (h.cell i hi), fun i => (k.frozen i).trans (h.frozen i)⟩
theorem Turned.drew {g off n : Nat} {a b : World} (h : Turned g off n a b) : Turned g off n a b.drew := ⟨h.os, h.tape, h.output, h.size, h.block, h.cell, h.frozen⟩
theorem Turned.setCell {g off n : Nat} {a b : World} (h : Turned g off n a b) {i : Nat} (h1 : off ≤ i) (h2 : i < off + n) (u : Value) : Turned g off n a (b.setCell ⟨g, i, none⟩ u) :=
 ⟨h.os, h.tape, h.output, by simpa using h.size, fun k hk hg => by rw [Below.heap_setCell b ⟨g, i, none⟩ u k (by simpa using hg)]; exact h.block k hk hg,
  fun j hj => by rw [World.cell?_setCell_other b ⟨g, i, none⟩ ⟨g, j, none⟩ u (by intro e; simp at e; try omega)]; exact h.cell j hj,
  fun j => by rw [World.frozen?_setCell]; exact h.frozen j⟩
theorem Turned.below {g off n B : Nat} {a b : World} (h : Turned g off n a b) (hB : B ≤ g) (hB2 : B ≤ a.heap.size) : Below B a b := ⟨h.os, h.tape, h.output, h.size, fun k hk => h.block k (by omega) (by omega)⟩
theorem RowW.below {w w' : World} {g off : Nat} {xs : List Nat} (h : RowW w g off xs) (hg : g < w.heap.size) (hb : Below w.heap.size w w') : RowW w' g off xs := fun i x hx =>
 ⟨(hb.cell (p := ⟨g, off + i, none⟩) hg).trans (h i x hx).1, (hb.frozen (p := ⟨g, off + i, none⟩) hg).trans (h i x hx).2⟩
theorem RowW.set_ {w : World} {g off : Nat} {xs : List Nat} (h : RowW w g off xs) {k : Nat} (hk : k < xs.length) (y : Nat) : RowW (w.setCell ⟨g, off + k, none⟩ (.int .u64 (y : Int))) g off (xs.set k y) := fun i x hx => by
 by_cases e : i = k
 ·subst e
  rw [List.getElem?_set_self hk] at hx
  obtain rfl := Option.some.inj hx
  obtain ⟨h1, h2⟩ := h i xs[i] (List.getElem?_eq_getElem hk)
  exact ⟨by rw [World.cell?_setCell_same w _ _ h1], by rw [World.frozen?_setCell]; exact h2⟩
 ·rw [List.getElem?_set_ne (fun h => e h.symm)] at hx
  obtain ⟨h1, h2⟩ := h i x hx
  exact ⟨by rw [World.cell?_setCell_other w ⟨g, off + k, none⟩ ⟨g, off + i, none⟩ _ (by intro e'; simp at e'; try omega)]; exact h1, by rw [World.frozen?_setCell]; exact h2⟩
theorem RowW.drew {w : World} {g off : Nat} {xs : List Nat} (h : RowW w g off xs) : RowW w.drew g off xs := h
theorem RowW.rd {w : World} {g off n cap : Nat} {xs : List Nat} (h : RowW w g off xs) (hn : xs.length = n) (hc : n ≤ cap) (hm : cap ≤ maxLen) : RdW w (.slice (some ⟨g, off, none⟩) n cap) xs :=
 ⟨some ⟨g, off, none⟩, cap, by rw [hn], by omega, hm, fun _ => ⟨g, off, rfl, trivial, fun i hi => (h i xs[i] (List.getElem?_eq_getElem hi)).1⟩⟩
theorem take_step {O vs : List Nat} {k c x q B : Nat} (hk : k < O.length) (hx : vs[k]? = some x) (h : val B (O.take k) + c * B ^ k = val B (vs.take k) * q) :
  val B ((O.set k ((x * q + c) % B)).take (k + 1)) + (x * q + c) / B * B ^ (k + 1) = val B (vs.take (k + 1)) * q := by
 rw [set_take_succ hk, val_append, val_one, val_take B hx, List.length_take, Nat.min_eq_left (by omega), Nat.pow_succ, Nat.add_mul (val B (vs.take k)), ← h]
 have e := Nat.div_add_mod (x * q + c) B
 have e2 : B ^ k * ((x * q + c) % B) + (x * q + c) / B * (B ^ k * B) = (x * q + c) * B ^ k := by
  conv => rhs; rw [← e, Nat.add_mul, Nat.mul_comm ((x * q + c) % B)]
  rw [Nat.add_comm, Nat.mul_comm (B ^ k) B, ← Nat.mul_assoc, Nat.mul_comm ((x * q + c) / B) B]
 rw [Nat.add_mul] at e2
 have e3 : x * B ^ k * q = x * q * B ^ k := by rw [Nat.mul_assoc, Nat.mul_comm (B ^ k), ← Nat.mul_assoc]
 omega
theorem take_carry {x q c : Nat} (hx : x < B64) (hq : q < B64) (hc : c < B64) :
  (x * q % B64 + c + 0) % B64 = (x * q + c) % B64 ∧ x * q / B64 + (x * q % B64 + c + 0) / B64 = (x * q + c) / B64 ∧ (x * q + c) / B64 < B64 := by
 have h1 := times_lt (o := 0) hx hq (by unfold B64; omega) hc
 obtain ⟨p, hp⟩ : ∃ p, p = x * q := ⟨_, rfl⟩
 rw [← hp] at h1 ⊢
 unfold B64 at *
 omega
def TakePost (w : World) (g off n : Nat) (us : List Nat) (qV : Nat) (e : Ending) (w' : World) : Prop :=
 e = .returned (.bool (decide (qV ≤ val B64 us))) ∧ (qV ≤ val B64 us → ∃ us', us'.length = n ∧ (∀ x ∈ us', x < B64) ∧ val B64 us' = val B64 us - qV ∧ RowW w' g off us' ∧ Turned g off n w w') ∧ (¬ qV ≤ val B64 us → Below w.heap.size w w')
set_option maxRecDepth 100000 in
set_option maxHeartbeats 8000000 in
theorem take_any (g off cu : Nat) (us : List Nat) (n : Nat) (vb : Value) (V q : Nat) (w : World) (hU : RowW w g off us) (hul : us.length = n + 1) (hux : ∀ x ∈ us, x < B64) (hg : g < w.heap.size) (hcu : n + 1 ≤ cu) (hcm : cu ≤ maxLen)
  (hQ : RdN w vb V) (hn : dl V = n) (hn6 : n ≤ 1000000) (hq : q < B64) :
  Calls Tryz.prog 299 #[.slice (some ⟨g, off, none⟩) (n + 1) cu, vb, .int .u64 (q : Int)] w fun e w' => TakePost w g off (n + 1) us (q * V) e w' := by
 have hmk := make_words
 obtain ⟨A2, k2, c2, rfl, e2, hk2, _, hm2, hc2⟩ := RdW.open_ hQ
 obtain rfl : k2 = n := by unfold dl at hn; omega
 have HE2 := h0d e2
 have HC2 := h0d hc2
 have HMK := hmk (k2 + 1) (k2 + 1) (Nat.le_refl _) (by omega)
 obtain ⟨C0, hC0⟩ : ∃ C, C = ((List.replicate (k2 + 1) 0).map u64V).toArray := ⟨_, rfl⟩
 rw [← hC0, show ((k2 + 1 : Nat) : Int) = (k2 : Int) + 1 by omega] at HMK
 have HB0 : Hid (BlkW (w.alloc (.cells C0 270)) w.heap.size (List.replicate (k2 + 1) 0)) := by rw [hC0]; exact BlkW.new w _
 have HMU := h0d mul64_any
 have HU := h0d hU
 have HUL := h0d hul
 have HUX := h0d hux
 have HQB := h0d hq
 have hcm' : cu ≤ 9223372036854775807 := by unfold maxLen at hcm; omega
 have HCM := h0d hcm
 clear hmk e2 hc2 hQ hn hC0 hU hul hux hq hcm
 go_enter Tryz.func299, Tryz.ntmps299
 go_wp2_with fail
 go_loopw [8, 22] (fun cv iv wr => ∃ (k c : Nat) (O : List Nat), k ≤ k2 ∧ cv = .int .u64 (c : Int) ∧ iv = .int .i64 (k : Int) ∧ Hid (c < B64) ∧ Hid (O.length = k2 + 1) ∧ Hid (∀ x ∈ O, x < B64) ∧ Hid (BlkW wr w.heap.size O) ∧ Hid (Below w.heap.size w wr) ∧ Hid (val B64 (O.take k) + c * B64 ^ k = val B64 ((digs B64 V).take k) * q)) (fun _ iv _ => k2 - (intOf iv).toNat)
 case atStart =>
  refine ⟨0, 0, List.replicate (k2 + 1) 0, Nat.zero_le _, rfl, rfl, by show _ < _; unfold B64; omega, by show _ = _; simp, fun x hx => ?_, HB0, (Below.refl _ w).alloc (Nat.le_refl _) _, by show _ = _; simp [val]⟩
  rw [List.eq_of_mem_replicate hx]; unfold B64; omega
 case round =>
  obtain ⟨k, c, O, hk, rfl, rfl, HCB, HOL, HOX, HBW, HBEL, HV⟩ := hrel
  by_cases hlk : k < k2
  ·obtain ⟨b2, f2, x, rfl, hb2, hx, hcx⟩ := HC2.out k hlk
   have hxB := digs_lt B64_2 V x (List.mem_of_getElem? hx)
   have hcx' := (HBEL.out.cell (p := ⟨b2, f2 + k, none⟩) hb2).trans hcx
   have hst := take_step (B := B64) (O := O) (q := q) (by have := HOL.out; omega) hx HV.out
   obtain ⟨q1, q2, q3⟩ := take_carry hxB HQB.out HCB.out
   have hMU := mul64_any x q hxB HQB.out
   have hA1 := add64_eq (x * q % B64) c 0 (Nat.zero_le _)
   rw [← B64_eq] at hMU hA1
   rw [q1] at hA1
   obtain ⟨h1, hh1⟩ : ∃ h, h = x * q / B64 := ⟨_, rfl⟩
   obtain ⟨l1, hl1⟩ : ∃ h, h = x * q % B64 := ⟨_, rfl⟩
   rw [← hl1] at hA1 q2
   rw [← hh1] at q2
   rw [← hh1, ← hl1] at hMU
   obtain ⟨t1, ht1⟩ : ∃ h, h = (l1 + c + 0) / B64 := ⟨_, rfl⟩
   rw [← ht1] at hA1 q2
   obtain ⟨s, hs⟩ : ∃ h, h = (x * q + c) % B64 := ⟨_, rfl⟩
   obtain ⟨T, hT⟩ : ∃ h, h = (x * q + c) / B64 := ⟨_, rfl⟩
   rw [← hs] at hA1 hst
   rw [← hT] at q2 q3 hst
   have hA1' : ∀ W, (callFunc 231 #[.int .u64 (l1 : Int), .int .u64 (c : Int), .int .u64 0]).run Tryz.prog W = .ok (.value (.tuple #[.int .u64 (s : Int), .int .u64 (t1 : Int)])) W := hA1
   have hw1 : IntKind.u64.wrap ((h1 : Int) + (t1 : Int)) = (T : Int) := by rw [IntKind.wrap_u64]; unfold B64 at q3; omega
   have hsB : s < B64 := by rw [hs]; exact Nat.mod_lt _ (by unfold B64; omega)
   have hcg := HBW.out.cell (i := k) (x := O.getD k 0) (by rw [List.getD_eq_getElem?_getD, List.getElem?_eq_getElem (by have := HOL.out; omega)]; rfl)
   have hfg := HBW.out.frozen k
   have HMUL := h0d hMU
   have HTL := h0d q3
   have HSB := h0d hsB
   have HST := h0d hst
   have hik : (k : Int) < (k2 : Int) + 1 := by omega
   clear hx hcx hst hs hT hl1 hh1 ht1 hA1 hMU hsB q1 q2 q3 hxB
   go_wp2_with (go_at_call 230; refine (HMUL.out _).mono ?_; rintro e w2 ⟨rfl, rfl⟩)
   go_roundw
   case rel =>
    refine ⟨k + 1, T, O.set k s, by omega, rfl, by go_num, HTL.out, by show _ = _; rw [List.length_set]; exact HOL.out, fun z hz => ?_, HBW.out.set_ k s, HBEL.out.setCell (Nat.le_refl _) _, HST.out⟩
    rcases List.mem_or_eq_of_mem_set hz with h | h
    ·exact HOX.out z h
    ·rw [h]; exact HSB.out
   case measure => simp [intOf]; omega
  ·obtain rfl : k = k2 := by omega
   have hcg := HBW.out.cell (i := k) (x := O.getD k 0) (by rw [List.getD_eq_getElem?_getD, List.getElem?_eq_getElem (by have := HOL.out; omega)]; rfl)
   have hfg := HBW.out.frozen k
   have hik : (k : Int) < (k : Int) + 1 := by omega
   obtain ⟨ps, hps⟩ : ∃ ps, ps = O.set k c := ⟨_, rfl⟩
   have HPL : Hid (ps.length = k + 1) := by show _ = _; rw [hps, List.length_set]; exact HOL.out
   have HPX : Hid (∀ x ∈ ps, x < B64) := fun z hz => by
    rw [hps] at hz
    rcases List.mem_or_eq_of_mem_set hz with h | h
    ·exact HOX.out z h
    ·rw [h]; exact HCB.out
   have HPV : Hid (val B64 ps = q * V) := by
    show _ = _
    have h1 := HV.out
    rw [List.take_of_length_le (l := digs B64 V) (by rw [HE2.out]; exact Nat.le_refl _), val_digs B64_2] at h1
    rw [← List.take_of_length_le (l := ps) (i := k + 1) (by rw [HPL.out]; exact Nat.le_refl _), hps, set_take_succ (by have := HOL.out; omega), val_append, val_one, List.length_take, Nat.min_eq_left (by have := HOL.out; omega), Nat.mul_comm (B64 ^ k), h1, Nat.mul_comm]
   obtain ⟨W1, hW1⟩ : ∃ W1, W1 = wr.setCell ⟨w.heap.size, k, none⟩ (.int .u64 (c : Int)) := ⟨_, rfl⟩
   have HB1 : Hid (BlkW W1 w.heap.size ps) := by rw [hW1, hps]; exact HBW.out.set_ k c
   have HBL1 : Hid (Below w.heap.size w W1) := by rw [hW1]; exact HBEL.out.setCell (Nat.le_refl _) _
   have HU1 : Hid (RowW W1 g off us) := HU.out.below hg HBL1.out
   have HCU := h0d (cut_num _ us W1 (HU1.out.rd HUL.out hcu HCM.out) HUX.out)
   have HCP := h0d (cut_num _ ps W1 (HB1.out.rd0 (n := k + 1) (cap := k + 1) HPL.out.symm (Nat.le_refl _) (by unfold maxLen; omega)) HPX.out)
   have HW1 := h0d hW1
   rw [hW1] at HCU HCP
   obtain ⟨cv, hcv⟩ : ∃ cv, cv = cmpN (val B64 us) (val B64 ps) := ⟨_, rfl⟩
   have HCMP : Hid (∀ v1 v2 W, RdN W v1 (val B64 us) → RdN W v2 (val B64 ps) → _) := fun v1 v2 W h1 h2 => cmp_any v1 v2 _ _ W h1 h2
   rw [← hcv] at HCMP
   clear hps hW1
   by_cases hle : q * V ≤ val B64 us
   ·have hcn : decide (cv < 0) = false := by
     rw [hcv, HPV.out]; unfold cmpN; simp; split <;> (try split) <;> omega
    have hcn2 : ¬ (cv < 0) := by simpa using hcn
    have HLE := h0d hle
    clear hcv hle
    go_wp2_with (first | (go_at_call 232; (first | (with_reducible refine HCU.out.mono ?_; rintro e w2 ⟨⟨v1, rfl, hr1⟩, rfl⟩; have HR1 := h0d hr1; clear hr1) | (with_reducible refine HCP.out.mono ?_; rintro e w2 ⟨⟨v2, rfl, hr2⟩, rfl⟩; have HR2 := h0d hr2; clear hr2))) | (go_at_call 127; refine (HCMP.out _ _ _ HR1.out HR2.out).mono ?_; rintro e w3 ⟨rfl, hb3⟩; have HB3 := h0d hb3; clear hb3))
    have HB3' : Hid (Below W1.heap.size W1 w3) := by have := HB3.out; rwa [← HW1.out] at this
    have HT3 : Hid (Turned g off (k + 1) w w3) := Turned.of_below hg (HBL1.out.trans (HB3'.out.mono HBL1.out.size))
    have HU3 : Hid (RowW w3 g off us) := HU1.out.below (Nat.lt_of_lt_of_le hg HBL1.out.size) HB3'.out
    have HP3 : Hid (BlkW w3 w.heap.size ps) := HB1.out.below HB3'.out
    clear hcg hfg hcn hcn2 hik
    go_loopw [14, 59] (fun bv iv wr => ∃ (i b : Nat) (cur : List Nat), i ≤ k + 1 ∧ b ≤ 1 ∧ bv = .int .u64 (b : Int) ∧ iv = .int .i64 (i : Int) ∧ Hid (cur.length = k + 1) ∧ Hid (∀ x ∈ cur, x < B64) ∧ Hid (cur.drop i = us.drop i) ∧ Hid (RowW wr g off cur) ∧ Hid (BlkW wr w.heap.size ps) ∧ Hid (Turned g off (k + 1) w wr) ∧ Hid (val B64 (cur.take i) + val B64 (ps.take i) = val B64 (us.take i) + b * B64 ^ i)) (fun _ iv _ => k + 1 - (intOf iv).toNat)
    case atStart => exact ⟨0, 0, us, Nat.zero_le _, Nat.zero_le _, rfl, rfl, HUL, HUX, rfl, HU3, HP3, HT3, by show _ = _; simp [val]⟩
    case round =>
     obtain ⟨i, b, cur, hi, hb, rfl, rfl, HCL, HCX, HCD, HCR, HCB2, HCT, HCV⟩ := hrel
     by_cases hlt : i < k + 1
     ·obtain ⟨x, hx⟩ : ∃ x, us[i]? = some x := ⟨us[i]'(by have := HUL.out; omega), List.getElem?_eq_getElem (by have := HUL.out; omega)⟩
      obtain ⟨y, hy⟩ : ∃ y, ps[i]? = some y := ⟨ps[i]'(by have := HPL.out; omega), List.getElem?_eq_getElem (by have := HPL.out; omega)⟩
      have hxc : cur[i]? = some x := by
       have h1 := congrArg (·[0]?) HCD.out
       simp only [List.getElem?_drop, Nat.add_zero] at h1
       rw [h1, hx]
      obtain ⟨hcx, hfx⟩ := HCR.out i x hxc
      have hcy := HCB2.out.cell hy
      have hxB := HUX.out x (List.mem_of_getElem? hx)
      have hyB := HPX.out y (List.mem_of_getElem? hy)
      obtain ⟨s, hs⟩ : ∃ s, s = (x + B64 - y - b) % B64 := ⟨_, rfl⟩
      obtain ⟨t, ht⟩ : ∃ t, t = (if x < y + b then 1 else 0) := ⟨_, rfl⟩
      have hst := minus_step (B := B64) (O := cur) (c := b) (d := s) (e := t) (by have := HCL.out; omega) (getD_of hx) (getD_of hy) (by
       rw [hs, ht]; unfold B64 at *; split <;> omega) HCV.out
      have hAD := sub64_eq x y b hb
      rw [← B64_eq, ← hs, ← ht] at hAD
      have ht1 : t ≤ 1 := by rw [ht]; split <;> omega
      have hsB : s < B64 := by rw [hs]; exact Nat.mod_lt _ (by unfold B64; omega)
      have HST := h0d hst
      have HSB := h0d hsB
      have HDR : Hid ((cur.set i s).drop (i + 1) = us.drop (i + 1)) := by
       show _ = _
       rw [List.drop_set_of_lt (by omega)]
       have h1 := congrArg (List.drop 1) HCD.out
       rwa [List.drop_drop, List.drop_drop] at h1
      have hii : (i : Int) < (k : Int) + 1 := by omega
      clear hx hy hxc hs ht hst hxB hyB hsB hb
      go_wp2_with fail
      go_region
      go_wp2_with fail
      go_roundw
      case rel =>
       refine ⟨i + 1, t, cur.set i s, by omega, ht1, rfl, by go_num, by show _ = _; rw [List.length_set]; exact HCL.out, fun z hz => ?_, HDR.out, (HCR.out.set_ (by have := HCL.out; omega) s).drew, (HCB2.out.far (by simp; omega) _).drew, (HCT.out.setCell (by omega) (by omega) _).drew, HST.out⟩
       rcases List.mem_or_eq_of_mem_set hz with h | h
       ·exact HCX.out z h
       ·rw [h]; exact HSB.out
      case measure => simp [intOf]; omega
     ·obtain rfl : i = k + 1 := by omega
      have HFIN : Hid (val B64 cur = val B64 us - q * V) := by
       show _ = _
       have h1 := HCV.out
       rw [List.take_of_length_le (by rw [HCL.out]; exact Nat.le_refl _), List.take_of_length_le (by rw [HPL.out]; exact Nat.le_refl _), List.take_of_length_le (by rw [HUL.out]; exact Nat.le_refl _), HPV.out] at h1
       have h2 := val_lt (b := B64) (by unfold B64; omega) HCX.out
       rw [HCL.out] at h2
       have h3 := HLE.out
       have hb0 : b = 0 := by
        rcases Nat.eq_zero_or_pos b with h0 | h0
        ·exact h0
        ·have : b = 1 := by omega
         subst this; omega
       subst hb0; omega
      clear hb
      go_wp2_with fail
      go_ret
      exact ⟨by rw [decide_eq_true HLE.out]; rfl, fun _ => ⟨cur, HCL.out, HCX.out, HFIN.out, HCR.out, HCT.out⟩, fun h => absurd HLE.out h⟩
   ·have hcn : decide (cv < 0) = true := by
     rw [hcv, HPV.out]; unfold cmpN; rw [if_pos (by omega)]; decide
    have hcn2 : cv < 0 := by simpa using hcn
    have HLE := h0d hle
    clear hcv hle
    go_wp2_with (first | (go_at_call 232; (first | (with_reducible refine HCU.out.mono ?_; rintro e w2 ⟨⟨v1, rfl, hr1⟩, rfl⟩; have HR1 := h0d hr1; clear hr1) | (with_reducible refine HCP.out.mono ?_; rintro e w2 ⟨⟨v2, rfl, hr2⟩, rfl⟩; have HR2 := h0d hr2; clear hr2))) | (go_at_call 127; refine (HCMP.out _ _ _ HR1.out HR2.out).mono ?_; rintro e w3 ⟨rfl, hb3⟩; have HB3 := h0d hb3; clear hb3))
    have HB3' : Hid (Below W1.heap.size W1 w3) := by have := HB3.out; rwa [← HW1.out] at this
    go_ret
    exact ⟨by rw [decide_eq_false HLE.out]; rfl, fun h => absurd h HLE.out, fun _ => HBL1.out.trans (HB3'.out.mono HBL1.out.size)⟩
end Go.Proofs.YtodckaioeomccaaGreat
