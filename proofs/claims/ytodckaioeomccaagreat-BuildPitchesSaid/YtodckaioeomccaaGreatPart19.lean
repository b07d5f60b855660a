/- The walk of digit: one digit of a quotient. -/
import Derived.Test.YtodckaioeomccaaGreatPart03
import Derived.Test.YtodckaioeomccaaGreatPart16
import Derived.Test.YtodckaioeomccaaGreatPart10
import Derived.Deep.CutBlock
import Derived.Deep.DeepCutAuto
namespace Go.Proofs.YtodckaioeomccaaGreat
open Go.RowKit
set_option linter.unusedVariables false
set_option linter.unusedSimpArgs false
theorem digit_facts {us : List Nat} {V n un u1 u2 v1 v2 : Nat} (hul : us.length = n + 2 + 1) (hux : ∀ x ∈ us, x < B64) (hn : dl V = n + 2) (hun : us.getD (n + 2) 0 = un) (hu1 : us.getD (n + 1) 0 = u1) (hu2 : us.getD n 0 = u2)
  (hv1 : (digs B64 V).getD (n + 1) 0 = v1) (hv2 : (digs B64 V).getD n 0 = v2) (hv0 : 0 < v1) :
  val B64 us / V ≤ (un * B64 + u1) / v1 ∧ ∀ g, (un * B64 + u1) * B64 + u2 < g * (v1 * B64 + v2) → val B64 us / V < g := by
 have hB : 0 < B64 := by unfold B64; omega
 have hV : V = val B64 (digs B64 V) := (val_digs B64_2 V).symm
 have hvl : (digs B64 V).length = n + 2 := hn
 have z1 : val B64 (us.drop (n + 3)) = 0 := by rw [List.drop_of_length_le (by omega)]; rfl
 have z2 : val B64 ((digs B64 V).drop (n + 2)) = 0 := by rw [List.drop_of_length_le (by omega)]; rfl
 have a1 : val B64 (us.drop (n + 1)) = un * B64 + u1 := by rw [val_drop_getD, val_drop_getD, hu1, hun, z1, Nat.mul_zero, Nat.add_zero, Nat.mul_comm B64, Nat.add_comm]
 have a2 : val B64 (us.drop n) = (un * B64 + u1) * B64 + u2 := by rw [val_drop_getD, a1, hu2, Nat.mul_comm B64, Nat.add_comm]
 have b1 : val B64 ((digs B64 V).drop (n + 1)) = v1 := by rw [val_drop_getD, hv1, z2, Nat.mul_zero, Nat.add_zero]
 have b2 : val B64 ((digs B64 V).drop n) = v1 * B64 + v2 := by rw [val_drop_getD, b1, hv2, Nat.mul_comm B64, Nat.add_comm]
 have lo : ∀ (xs : List Nat) (k : Nat), (∀ x ∈ xs, x < B64) → val B64 (xs.take k) < B64 ^ k := fun xs k h =>
  Nat.lt_of_lt_of_le (val_lt (b := B64) (by omega) (xs := xs.take k) fun x hx => h x (List.mem_of_mem_take hx)) (Nat.pow_le_pow_right hB (by rw [List.length_take]; omega))
 have s1 := val_split' B64 us (n + 1)
 have s2 := val_split' B64 us n
 have t1 := val_split' B64 (digs B64 V) (n + 1)
 have t2 := val_split' B64 (digs B64 V) n
 rw [a1, Nat.add_comm, Nat.mul_comm] at s1
 rw [a2, Nat.add_comm, Nat.mul_comm] at s2
 rw [b1, ← hV, Nat.add_comm, Nat.mul_comm] at t1
 rw [b2, ← hV, Nat.add_comm, Nat.mul_comm] at t2
 have hV0 : 0 < V := by
  rcases Nat.eq_zero_or_pos V with h0 | h0
  ·subst h0; unfold dl at hn; rw [digs_zero] at hn; simp at hn
  ·exact h0
 exact ⟨est_hi s1 (lo us (n + 1) hux) t1 hv0, fun g hg => est_less s2 (lo us n hux) t2 hV0 hg⟩
def DigitPost (w : World) (g off n : Nat) (us : List Nat) (V : Nat) (e : Ending) (w' : World) : Prop :=
 e = .returned (.int .u64 ((val B64 us / V : Nat) : Int)) ∧ ∃ us', us'.length = n ∧ (∀ x ∈ us', x < B64) ∧ val B64 us' = val B64 us % V ∧ RowW w' g off us' ∧ Turned g off n w w'
set_option maxRecDepth 100000 in
set_option maxHeartbeats 8000000 in
theorem digit_any (g off cu : Nat) (us : List Nat) (n : Nat) (vb : Value) (V : Nat) (w : World) (hU : RowW w g off us) (hul : us.length = n + 2 + 1) (hux : ∀ x ∈ us, x < B64) (hg : g < w.heap.size) (hcu : n + 2 + 1 ≤ cu) (hcm : cu ≤ maxLen)
  (hQ : RdN w vb V) (hn : dl V = n + 2) (hn6 : n + 2 ≤ 1000000) (hlt : val B64 us < V * B64) (htop : 9223372036854775808 ≤ (digs B64 V).getD (n + 1) 0) :
  Calls Tryz.prog 268 #[.slice (some ⟨g, off, none⟩) (n + 2 + 1) cu, vb] w fun e w' => DigitPost w g off (n + 2 + 1) us V e w' := by
 have HTK : Hid (∀ (q : Nat) (w' : World), Below w.heap.size w w' → q < B64 → Calls Tryz.prog 299 #[.slice (some ⟨g, off, none⟩) (n + 2 + 1) cu, vb, .int .u64 (q : Int)] w' fun e w'' => TakePost w' g off (n + 2 + 1) us (q * V) e w'') := fun q w' hb hq =>
  take_any g off cu us (n + 2) vb V q w' (hU.below hg hb) hul hux (Nat.lt_of_lt_of_le hg hb.size) hcu hcm (hQ.below hb) hn hn6 hq
 obtain ⟨A2, k2, c2, rfl, e2, hk2, _, hm2, hc2⟩ := RdW.open_ hQ
 obtain rfl : k2 = n + 2 := by unfold dl at hn; omega
 obtain ⟨un, hun⟩ : ∃ x, us[n + 2]? = some x := ⟨us[n + 2]'(by omega), List.getElem?_eq_getElem (by omega)⟩
 obtain ⟨u1, hu1⟩ : ∃ x, us[n + 1]? = some x := ⟨us[n + 1]'(by omega), List.getElem?_eq_getElem (by omega)⟩
 obtain ⟨u2, hu2⟩ : ∃ x, us[n]? = some x := ⟨us[n]'(by omega), List.getElem?_eq_getElem (by omega)⟩
 obtain ⟨b2, f2, v1, rfl, hb2, hv1, hcv1⟩ := hc2 (n + 1) (by omega)
 obtain ⟨b2', f2', v2, hA, hb2', hv2, hcv2⟩ := hc2 n (by omega)
 obtain ⟨rfl, rfl⟩ : b2 = b2' ∧ f2 = f2' := by simpa using hA
 have hcun := (hU (n + 2) un hun).1
 have hcu1 := (hU (n + 1) u1 hu1).1
 have hcu2 := (hU n u2 hu2).1
 rw [getD_of hv1] at htop
 have hunB := hux un (List.mem_of_getElem? hun)
 have hu1B := hux u1 (List.mem_of_getElem? hu1)
 have hu2B := hux u2 (List.mem_of_getElem? hu2)
 have hv1B := digs_lt B64_2 V v1 (List.mem_of_getElem? hv1)
 have hv2B := digs_lt B64_2 V v2 (List.mem_of_getElem? hv2)
 have HDF := h0d (digit_facts hul hux hn (getD_of hun) (getD_of hu1) (getD_of hu2) (getD_of hv1) (getD_of hv2) (by omega))
 have hV0 : 0 < V := by
  rcases Nat.eq_zero_or_pos V with h0 | h0
  ·subst h0; unfold dl at hn; rw [digs_zero] at hn; simp at hn
  ·exact h0
 have HQB : Hid (val B64 us / V < B64) := by show _ < _; rw [Nat.div_lt_iff_lt_mul hV0, Nat.mul_comm]; exact hlt
 obtain ⟨qt, hqt⟩ : ∃ q, q = val B64 us / V := ⟨_, rfl⟩
 rw [← hqt] at HDF HQB
 have HQT := h0d hqt
 have HV0 := h0d hV0
 have HCE : Hid (∀ w', Below w.heap.size w w' → w'.cell? ⟨g, off + (n + 2), none⟩ = some (.int .u64 (un : Int)) ∧ w'.cell? ⟨g, off + (n + 1), none⟩ = some (.int .u64 (u1 : Int)) ∧ w'.cell? ⟨g, off + n, none⟩ = some (.int .u64 (u2 : Int)) ∧
   w'.cell? ⟨b2, f2 + (n + 1), none⟩ = some (.int .u64 (v1 : Int)) ∧ w'.cell? ⟨b2, f2 + n, none⟩ = some (.int .u64 (v2 : Int))) := fun w' h =>
  ⟨(h.cell (p := ⟨g, _, none⟩) hg).trans hcun, (h.cell (p := ⟨g, _, none⟩) hg).trans hcu1, (h.cell (p := ⟨g, _, none⟩) hg).trans hcu2, (h.cell (p := ⟨b2, _, none⟩) hb2).trans hcv1, (h.cell (p := ⟨b2, _, none⟩) hb2).trans hcv2⟩
 have HDV := h0d div64_any
 have HMU := h0d mul64_any
 have hcm' : cu ≤ 9223372036854775807 := by unfold maxLen at hcm; omega
 have HULn := h0d hul
 have HUX := h0d hux
 have HUB := h0d hunB
 have HU1B := h0d hu1B
 have HU2B := h0d hu2B
 have HV1B := h0d hv1B
 have HV2B := h0d hv2B
 have HTOP := h0d htop
 have HU := h0d hU
 have hi2 : (n : Int) + 2 - 1 = (n : Int) + 1 := by omega
 have hi3 : (n : Int) + 2 - 2 = (n : Int) := by omega
 have hwi2 : IntKind.i64.wrap ((n : Int) + 2 - 1) = (n : Int) + 1 := by rw [hi2]; exact IntWalk.i64_in _ (by omega)
 have hwi2' : IntKind.i64.wrap ((n : Int) + 1) = (n : Int) + 1 := IntWalk.i64_in _ (by omega)
 have hwi3 : IntKind.i64.wrap ((n : Int) + 2 - 2) = (n : Int) := by rw [hi3]; exact IntWalk.i64_in _ (by omega)
 have hn1n : ((n : Int) + 1).toNat = n + 1 := by omega
 have hn2n : ((n : Int) + 2).toNat = n + 2 := by omega
 have hn10 : (0 : Int) ≤ (n : Int) + 1 := by omega
 have hn20 : (0 : Int) ≤ (n : Int) + 2 := by omega
 have hn23 : (n : Int) + 2 < (n : Int) + 2 + 1 := by omega
 have hn13 : (n : Int) + 1 < (n : Int) + 2 + 1 := by omega
 have hn12 : (n : Int) + 1 < (n : Int) + 2 := by omega
 obtain ⟨N2, hN2⟩ : ∃ N : Nat, N = n + 2 := ⟨_, rfl⟩
 clear hU hul hux hn hlt htop hun hu1 hu2 hv1 hv2 hcun hcu1 hcu2 hcv1 hcv2 hunB hu1B hu2B hv1B hv2B hV0 hQ hc2 e2 hA hcm hqt
 go_enter Tryz.func268, Tryz.ntmps268
 go_wp2_with fail
 have hBD : Below w.heap.size w w.drew := (Below.refl _ w).drew
 obtain ⟨d1, d2, d3, d4, d5⟩ := HCE.out _ hBD
 refine seq_start (S := fun w' => w'.cell? ⟨g, off + (n + 2), none⟩ = some (.int .u64 (un : Int)) ∧ w'.cell? ⟨b2, f2 + (n + 1), none⟩ = some (.int .u64 (v1 : Int))) (by kernel_rfl) (by kernel_rfl) (by exact ⟨d1, d4⟩) ?_
 clear d1 d2 d3 d4 d5
 repeat (first | refine tk0 (h := ?_) | refine tkG (h := ?_) | refine skG (h := ?_))
 refine seq_done (by kernel_rfl) ?_
 go_upto_if 22 with fail
 have HBD := h0d hBD
 clear hBD
 go_cut [6] (fun v wx => ∃ gq : Nat, v = .int .u64 (gq : Int) ∧ Hid (qt ≤ gq) ∧ Hid (gq < B64) ∧ Hid (Below w.heap.size w wx))
 case first =>
  by_cases hlt : un < v1
  ·have hltb : decide (un < v1) = true := decide_eq_true hlt
   have hDV := fun W => HDV.out un u1 v1 hlt HV1B.out HU1B.out W
   rw [← B64_eq] at hDV
   have hH := HDF.out.1
   obtain ⟨g0, hg0⟩ : ∃ x, x = (un * B64 + u1) / v1 := ⟨_, rfl⟩
   obtain ⟨r0, hr0⟩ : ∃ x, x = (un * B64 + u1) % v1 := ⟨_, rfl⟩
   have hv1p : 0 < v1 := by omega
   have hT0 : g0 * v1 + r0 = un * B64 + u1 := by rw [hg0, hr0, Nat.mul_comm]; exact Nat.div_add_mod _ _
   have hr0B : r0 < v1 := by rw [hr0]; exact Nat.mod_lt _ hv1p
   have hg0B : g0 < B64 := by
    rw [hg0, Nat.div_lt_iff_lt_mul hv1p]
    have h1 : (un + 1) * B64 ≤ v1 * B64 := Nat.mul_le_mul_right _ hlt
    have h2 := HU1B.out
    rw [Nat.add_mul, Nat.one_mul] at h1
    rw [Nat.mul_comm B64]; omega
   rw [← hg0] at hH
   rw [← hg0, ← hr0] at hDV
   have HDVV := h0d hDV
   have HH := h0d hH
   have HT0 := h0d hT0
   have HG0B := h0d hg0B
   have HR0B : Hid (r0 < B64) := Nat.lt_trans hr0B HV1B.out
   clear hDV hH hg0 hr0 hT0 hr0B hg0B hv1p hlt
   rw [hltb]
   go_wp2_with fail
   have HBDD : Hid (Below w.heap.size w w.drew.drew) := HBD.out.drew
   obtain ⟨d1, d2, d3, d4, d5⟩ := HCE.out _ HBDD.out
   refine seq_start (S := fun w' => w'.cell? ⟨g, off + (n + 2), none⟩ = some (.int .u64 (un : Int)) ∧ w'.cell? ⟨g, off + (n + 1), none⟩ = some (.int .u64 (u1 : Int)) ∧ w'.cell? ⟨b2, f2 + (n + 1), none⟩ = some (.int .u64 (v1 : Int))) (by kernel_rfl) (by kernel_rfl) (by exact ⟨d1, d2, d4⟩) ?_
   clear d1 d2 d3 d4 d5
   repeat (first | refine tk0 (h := ?_) | refine tkG (h := ?_) | refine skG (h := ?_))
   refine seq_op (by kernel_rfl) (by rfl) (fun K hK => ?_)
   go_simp
   refine (HDVV.out _).mono ?_
   rintro e w2 ⟨rfl, hb2x⟩
   have HB2 : Hid (Below w.heap.size w w2) := HBDD.out.trans (hb2x.mono HBDD.out.size)
   obtain ⟨d1, d2, d3, d4, d5⟩ := HCE.out _ HB2.out
   refine hK.out _ _ ⟨d1, d2, d4⟩ ?_
   clear hK K d1 d2 d3 d4 d5 hb2x
   repeat (first | refine tk0 (h := ?_) | refine tkG (h := ?_) | refine skG (h := ?_))
   refine seq_done (by kernel_rfl) ?_
   go_wp2_with fail
   go_loopw [6, 7] (fun gv rv wr => ∃ gq r : Nat, gv = .int .u64 (gq : Int) ∧ rv = .int .u64 (r : Int) ∧ Hid (gq * v1 + r = un * B64 + u1) ∧ Hid (qt ≤ gq) ∧ Hid (gq < B64) ∧ Hid (r < B64) ∧ Hid (Below w.heap.size w wr)) (fun gv _ _ => (intOf gv).toNat)
   case atStart => exact ⟨_, _, rfl, rfl, HT0.out, HH.out, HG0B.out, HR0B.out, HB2.out⟩
   case round =>
    obtain ⟨gq, r, rfl, rfl, HT, HQ, HGB, HRB, HBEL⟩ := hrel
    obtain ⟨d1, d2, d3, d4, d5⟩ := HCE.out _ HBEL.out
    have hMU := mul64_any gq v2 HGB.out HV2B.out
    rw [← B64_eq] at hMU
    have hdm := Nat.div_add_mod (gq * v2) B64
    obtain ⟨hi, hhi⟩ : ∃ h, h = gq * v2 / B64 := ⟨_, rfl⟩
    obtain ⟨lo, hlo⟩ : ∃ h, h = gq * v2 % B64 := ⟨_, rfl⟩
    have hloB : lo < B64 := by rw [hlo]; exact Nat.mod_lt _ (by unfold B64; omega)
    rw [← hhi, ← hlo] at hdm hMU
    have HMUL := h0d hMU
    have hrB := HRB.out
    have hgB := HGB.out
    have hqg := HQ.out
    have hv1B := HV1B.out
    have hu2B := HU2B.out
    have HLOB := h0d hloB
    clear hMU hhi hlo d1 d2
    by_cases ha : hi < r
    focus
     have hab : decide (hi < r) = true := decide_eq_true ha
     clear ha hdm hrB hgB hqg hv1B hu2B hloB
     go_wp2_with (go_at_call 230; refine (HMUL.out _).mono ?_; rintro e w2 ⟨rfl, rfl⟩)
     go_meet
     case rel => exact ⟨gq, rfl, HQ.out, HGB.out, HBEL.out⟩
    rotate_left
    focus
     have hab : decide (hi < r) = false := decide_eq_false ha
     by_cases hc : hi = r
     focus
      have hcb : ((hi : Int) == (r : Int)) = true := by simp [hc]
      by_cases hl : lo ≤ u2
      focus
       have hlb : decide (lo ≤ u2) = true := decide_eq_true hl
       clear ha hc hl hdm hrB hgB hqg hv1B hu2B hloB
       go_wp2_with (go_at_call 230; refine (HMUL.out _).mono ?_; rintro e w2 ⟨rfl, rfl⟩)
       go_meet
       case rel => exact ⟨gq, rfl, HQ.out, HGB.out, HBEL.out⟩
      rotate_left
      focus
       have hlb : decide (lo ≤ u2) = false := decide_eq_false hl
       have hbig : r * B64 + u2 < gq * v2 := by rw [← hdm, hc, Nat.mul_comm B64]; omega
       have HCBb := h0d hcb
       have HC := h0d hc
       clear hdm hl hc
       have hgp : qt < gq := HDF.out.2 gq (by rw [← HT.out, Nat.add_mul, Nat.mul_add gq]; rw [Nat.mul_assoc] ; omega)
       obtain ⟨gp, hgpe⟩ : ∃ p, p = gq - 1 := ⟨_, rfl⟩
       have hwg : IntKind.u64.wrap ((gq : Int) - 1) = (gp : Int) := by rw [IntKind.wrap_u64]; unfold B64 at *; omega
       have hgp2 : qt ≤ gp := by omega
       have HGL : Hid (gp < gq) := by show _ < _; omega
       have hgpB : gp < B64 := by omega
       obtain ⟨r', hr'⟩ : ∃ r', r' = (r + v1) % B64 := ⟨_, rfl⟩
       obtain ⟨ov, hov⟩ : ∃ o, o = (r + v1 + 0) / B64 := ⟨_, rfl⟩
       have hAD := add64_eq r v1 0 (Nat.zero_le _)
       rw [← B64_eq, ← hov, Nat.add_zero, ← hr'] at hAD
       have hAD' : ∀ W, (callFunc 231 #[.int .u64 (r : Int), .int .u64 (v1 : Int), .int .u64 0]).run Tryz.prog W = .ok (.value (.tuple #[.int .u64 (r' : Int), .int .u64 (ov : Int)])) W := hAD
       have HGP2 := h0d hgp2
       have HGPB := h0d hgpB
       by_cases hover : 0 < ov
       focus
        have hovi : (0 : Int) < (ov : Int) := by omega
        clear hbig hrB hgB hqg hv1B hu2B hloB ha hgp hgpe hr' hov hAD hgp2 hgpB hover
        go_wp2_with (go_at_call 230; refine (HMUL.out _).mono ?_; rintro e w2 ⟨rfl, rfl⟩)
        go_meet
        case rel => exact ⟨gp, rfl, HGP2.out, HGPB.out, HBEL.out⟩
       rotate_left
       focus
        have hov0 : ov = 0 := by omega
        have HTT : Hid (gp * v1 + r' = un * B64 + u1) := by
         show _ = _
         have h1 := HT.out
         have h2 : r + v1 < B64 := by
          rw [hov] at hov0
          unfold B64 at *; omega
         rw [hr', Nat.mod_eq_of_lt h2]
         obtain ⟨p', rfl⟩ : ∃ p', gq = p' + 1 := ⟨gq - 1, by omega⟩
         rw [hgpe, Nat.add_sub_cancel]; rw [Nat.add_mul] at h1; omega
        have HRB : Hid (r' < B64) := by show _ < _; rw [hr']; exact Nat.mod_lt _ (by unfold B64; omega)
        have hovn : ¬ ((0 : Int) < (ov : Int)) := by omega
        clear hbig hrB hgB hqg hv1B hu2B hloB ha hgp hgpe hr' hov hAD hgp2 hgpB hover hov0
        go_wp2_with (go_at_call 230; refine (HMUL.out _).mono ?_; rintro e w2 ⟨rfl, rfl⟩)
        go_roundw
        case rel => exact ⟨gp, r', rfl, rfl, HTT.out, HGP2.out, HGPB.out, HRB.out, HBEL.out⟩
        case measure => have := HGL.out; simp [intOf]; omega
     rotate_left
     focus
      have hcb : ((hi : Int) == (r : Int)) = false := by simp; omega
      have hbig : r * B64 + u2 < gq * v2 := by
       rw [← hdm]
       have h1 : (r + 1) * B64 ≤ hi * B64 := Nat.mul_le_mul_right _ (by omega)
       rw [Nat.add_mul, Nat.one_mul] at h1
       rw [Nat.mul_comm B64]; omega
      clear hdm hc
      have hgp : qt < gq := HDF.out.2 gq (by rw [← HT.out, Nat.add_mul, Nat.mul_add gq]; rw [Nat.mul_assoc] ; omega)
      obtain ⟨gp, hgpe⟩ : ∃ p, p = gq - 1 := ⟨_, rfl⟩
      have hwg : IntKind.u64.wrap ((gq : Int) - 1) = (gp : Int) := by rw [IntKind.wrap_u64]; unfold B64 at *; omega
      have hgp2 : qt ≤ gp := by omega
      have HGL : Hid (gp < gq) := by show _ < _; omega
      have hgpB : gp < B64 := by omega
      obtain ⟨r', hr'⟩ : ∃ r', r' = (r + v1) % B64 := ⟨_, rfl⟩
      obtain ⟨ov, hov⟩ : ∃ o, o = (r + v1 + 0) / B64 := ⟨_, rfl⟩
      have hAD := add64_eq r v1 0 (Nat.zero_le _)
      rw [← B64_eq, ← hov, Nat.add_zero, ← hr'] at hAD
      have hAD' : ∀ W, (callFunc 231 #[.int .u64 (r : Int), .int .u64 (v1 : Int), .int .u64 0]).run Tryz.prog W = .ok (.value (.tuple #[.int .u64 (r' : Int), .int .u64 (ov : Int)])) W := hAD
      have HGP2 := h0d hgp2
      have HGPB := h0d hgpB
      by_cases hover : 0 < ov
      focus
       have hovi : (0 : Int) < (ov : Int) := by omega
       clear hbig hrB hgB hqg hv1B hu2B hloB ha hgp hgpe hr' hov hAD hgp2 hgpB hover
       go_wp2_with (go_at_call 230; refine (HMUL.out _).mono ?_; rintro e w2 ⟨rfl, rfl⟩)
       go_meet
       case rel => exact ⟨gp, rfl, HGP2.out, HGPB.out, HBEL.out⟩
      rotate_left
      focus
       have hov0 : ov = 0 := by omega
       have HTT : Hid (gp * v1 + r' = un * B64 + u1) := by
        show _ = _
        have h1 := HT.out
        have h2 : r + v1 < B64 := by
         rw [hov] at hov0
         unfold B64 at *; omega
        rw [hr', Nat.mod_eq_of_lt h2]
        obtain ⟨p', rfl⟩ : ∃ p', gq = p' + 1 := ⟨gq - 1, by omega⟩
        rw [hgpe, Nat.add_sub_cancel]; rw [Nat.add_mul] at h1; omega
       have HRB : Hid (r' < B64) := by show _ < _; rw [hr']; exact Nat.mod_lt _ (by unfold B64; omega)
       have hovn : ¬ ((0 : Int) < (ov : Int)) := by omega
       clear hbig hrB hgB hqg hv1B hu2B hloB ha hgp hgpe hr' hov hAD hgp2 hgpB hover hov0
       go_wp2_with (go_at_call 230; refine (HMUL.out _).mono ?_; rintro e w2 ⟨rfl, rfl⟩)
       go_roundw
       case rel => exact ⟨gp, r', rfl, rfl, HTT.out, HGP2.out, HGPB.out, HRB.out, HBEL.out⟩
       case measure => have := HGL.out; simp [intOf]; omega
  ·have hltb : decide (un < v1) = false := decide_eq_false hlt
   have HLT := h0d hlt
   clear hlt
   rw [hltb]
   go_wp2_with fail
   go_meet
   case rel => exact ⟨18446744073709551615, rfl, by have := HQB.out; show _ ≤ _; unfold B64 at this; omega, by show _ < _; unfold B64; omega, HBD.out⟩
 case rest =>
  obtain ⟨gq, rfl, HQ, HGB, HBEL⟩ := hcut
  go_wp2_with fail
  go_loopw [6] (fun gv wr => ∃ gq : Nat, gv = .int .u64 (gq : Int) ∧ Hid (qt ≤ gq) ∧ Hid (gq < B64) ∧ Hid (Below w.heap.size w wr)) (fun gv _ => (intOf gv).toNat)
  case atStart => exact ⟨gq, rfl, HQ.out, HGB.out, HBEL.out⟩
  case round =>
   clear HQ HGB HBEL
   obtain ⟨gq, rfl, HQ, HGB, HBEL⟩ := hrel
   have hTK := HTK.out gq wr HBEL.out HGB.out
   by_cases hle : gq * V ≤ val B64 us
   ·have hge : gq ≤ qt := by rw [HQT.out, Nat.le_div_iff_mul_le HV0.out]; exact hle
    have HE : Hid (gq = qt) := by have := HQ.out; show _ = _; omega
    have HC : Hid (Calls Tryz.prog 299 #[.slice (some ⟨g, off, none⟩) (n + 2 + 1) cu, .slice (some ⟨b2, f2, none⟩) (n + 2) c2, .int .u64 (gq : Int)] wr fun e w'' => e = .returned (.bool true) ∧ Hid (∃ us', us'.length = n + 2 + 1 ∧ (∀ x ∈ us', x < B64) ∧ val B64 us' = val B64 us % V ∧ RowW w'' g off us' ∧ Turned g off (n + 2 + 1) wr w'')) := hTK.mono fun e w'' ⟨h1, hy, _⟩ => by
     obtain ⟨us', h2, h3, h4, h5, h6⟩ := hy hle
     refine ⟨by rw [h1, decide_eq_true hle], us', h2, h3, ?_, h5, h6⟩
     rw [h4, HE.out, HQT.out]; have := Nat.div_add_mod (val B64 us) V; rw [Nat.mul_comm] at this; omega
    clear hTK hle hge
    go_wp2_with (go_at_call 299; refine HC.out.mono ?_; rintro e w2 ⟨rfl, HR⟩)
    go_ret
    obtain ⟨us', h2, h3, h4, h5, h6⟩ := HR.out
    exact ⟨by rw [← HQT.out, ← HE.out]; rfl, us', h2, h3, h4, h5, (Turned.of_below hg HBEL.out).trans h6⟩
   ·have hlt : qt < gq := by rw [HQT.out, Nat.div_lt_iff_lt_mul HV0.out]; omega
    have HC : Hid (Calls Tryz.prog 299 #[.slice (some ⟨g, off, none⟩) (n + 2 + 1) cu, .slice (some ⟨b2, f2, none⟩) (n + 2) c2, .int .u64 (gq : Int)] wr fun e w'' => e = .returned (.bool false) ∧ Below wr.heap.size wr w'') := hTK.mono fun e w'' ⟨h1, _, hy⟩ =>
     ⟨by rw [h1, decide_eq_false hle], hy hle⟩
    obtain ⟨gp, hgpe⟩ : ∃ p, p = gq - 1 := ⟨_, rfl⟩
    have hgB := HGB.out
    have hwg : IntKind.u64.wrap ((gq : Int) - 1) = (gp : Int) := by rw [IntKind.wrap_u64]; unfold B64 at *; omega
    have HGP : Hid (qt ≤ gp) := by show _ ≤ _; omega
    have HGPB : Hid (gp < B64) := by show _ < _; omega
    have HGL : Hid (gp < gq) := by show _ < _; omega
    clear hTK hle hlt hgpe hgB
    go_wp2_with (go_at_call 299; refine HC.out.mono ?_; rintro e w2 ⟨rfl, hb2x⟩; have HB2 := h0d hb2x; clear hb2x)
    go_roundw
    case rel => exact ⟨gp, rfl, HGP.out, HGPB.out, HBEL.out.trans (HB2.out.mono HBEL.out.size)⟩
    case measure => have := HGL.out; simp [intOf]; omega
end Go.Proofs.YtodckaioeomccaaGreat
