/- Walks of the decimal texts of the package exact: decimal. Walks of the decimal texts of the package exact: text. Walk of the text of a fraction. -/
import Derived.Test.YtodckaioeomccaaGreatPart02
import Derived.Test.YtodckaioeomccaaGreatPart22
import Derived.Test.YtodckaioeomccaaGreatPart04
namespace Go.Proofs.YtodckaioeomccaaGreat
open Go.RowKit
set_option linter.unusedVariables false
set_option linter.unusedSimpArgs false
def u8V (k : Nat) : Value := .int .u8 (k : Int)
def BlkB (w : World) (g : Nat) (xs : List Nat) : Prop := w.heap[g]? = some (.cells (xs.map u8V).toArray 345 (0, 0))
theorem BlkB.cell {w : World} {g : Nat} {xs : List Nat} {i x : Nat} (h : BlkB w g xs) (hx : xs[i]? = some x) : w.cell? ⟨g, i, none⟩ = some (.int .u8 (x : Int)) := by
 rw [cell_of_row w g i _ 345 (0, 0) h, List.getElem?_toArray, List.getElem?_map, hx]; rfl
theorem BlkB.frozen {w : World} {g : Nat} {xs : List Nat} (h : BlkB w g xs) (i : Nat) : w.frozen? ⟨g, i, none⟩ = false := frozen_of_row w g i _ 345 h
theorem BlkB.set_ {w : World} {g : Nat} {xs : List Nat} (h : BlkB w g xs) (i y : Nat) : BlkB (w.setCell ⟨g, i, none⟩ (.int .u8 (y : Int))) g (xs.set i y) := by
 have := heap_setCell_same w g i _ 345 (.int .u8 (y : Int)) h
 unfold BlkB
 rw [this]
 congr 1
 rw [List.map_set, List.setIfInBounds_toArray]; rfl
set_option maxRecDepth 100000 in
set_option maxHeartbeats 4000000 in
theorem decimal_any (N : Nat) (w : World) (hN : N < 18446744073709551616) : Calls Tryz.prog 234 #[.int .u64 (N : Int)] w fun e w' => e = .returned (.string ⟨(dec N).toArray⟩) ∧ Below w.heap.size w w' := by
 have HN := h0d hN
 have HB0 : Hid (BlkB (w.alloc (.cells ((List.replicate 20 0).map u8V).toArray 345)) w.heap.size (List.replicate 20 0)) := heap_alloc_new w _
 have HL20 : Hid ((dec N).length ≤ 20) := dec_le N 20 (Nat.lt_of_lt_of_le hN (by decide))
 clear hN
 go_enter Tryz.func234, Tryz.ntmps234
 go_wp2_with fail
 go_loopw [0, 4] (fun nv av wr => ∃ (n a : Nat) (L : List Nat), nv = .int .u64 (n : Int) ∧ av = .int .i64 (a : Int) ∧ a ≤ 20 ∧ n < 18446744073709551616 ∧ Hid (L.length = 20) ∧ Hid (∀ x ∈ L, x < 256) ∧ Hid (BlkB wr w.heap.size L) ∧ Hid (Below w.heap.size w wr) ∧ Hid (dec N = dec n ++ (L.drop a).map UInt8.ofNat)) (fun nv _ _ => (intOf nv).toNat)
 case atStart =>
  refine ⟨N, 20, List.replicate 20 0, rfl, rfl, Nat.le_refl _, HN.out, by show _ = _; simp, fun x hx => ?_, HB0, (Below.refl _ w).alloc (Nat.le_refl _) _, by show _ = _; simp⟩
  rw [List.eq_of_mem_replicate hx]; omega
 case round =>
  obtain ⟨n, a, L, rfl, rfl, ha, hn, HLL, HLX, HBW, HBEL, HD⟩ := hrel
  by_cases h0 : n = 0
  ·have hD : dec N = (L.drop a).map UInt8.ofNat := by have := HD.out; rw [h0, dec_zero, List.nil_append] at this; exact this
   have hcells : ∀ j (hj : j < (dec N).length), wr.cell? ((⟨w.heap.size, a, none⟩ : Addr).add j) = some (.int .u8 ((dec N)[j].toNat : Int)) := fun j hj => by
    have hj2 : j < (L.drop a).length := by have := congrArg List.length hD; rw [List.length_map] at this; omega
    have hx : L[a + j]? = some ((L.drop a)[j]) := by rw [← List.getElem?_drop, List.getElem?_eq_getElem hj2]
    rw [addr_add, HBW.out.cell hx]
    have hlt := HLX.out ((L.drop a)[j]) (List.mem_of_mem_drop (List.getElem_mem hj2))
    congr 3
    have : (dec N)[j]? = some (UInt8.ofNat ((L.drop a)[j])) := by rw [hD, List.getElem?_map, List.getElem?_eq_getElem hj2]; rfl
    rw [List.getElem?_eq_getElem hj] at this
    rw [Option.some.inj this]
    have h9 : (UInt8.ofNat ((L.drop a)[j])).toNat = (L.drop a)[j] := by
     rw [UInt8.toNat_ofNat']; exact Nat.mod_eq_of_lt hlt
    rw [h9]
   have hlen : (dec N).length = 20 - a := by rw [hD, List.length_map, List.length_drop, HLL.out]
   have HCV := h0d (run_convert_bytes_back (P := Tryz.prog) wr 307 9 5 ⟨w.heap.size, a, none⟩ (20 - a) (dec N) Tryz.underlying307 Tryz.underlying5 Tryz.underlying9 hcells)
   rw [hlen] at HCV
   have hcv := HCV.out
   have HLN := h0d hlen
   clear HD hD hcells hlen
   subst h0
   have ha20 : (a : Int) ≤ 20 := by omega
   by_cases hA : a = 20
   ·have hdn : dec N = [] := List.length_eq_zero_iff.1 (by have := HLN.out; omega)
    have HDN := h0d hdn
    subst hA
    clear hcv HCV
    have hcv0 := run_convert_bytes_back (P := Tryz.prog) wr 307 9 5 ⟨w.heap.size, 0, none⟩ 0 [] Tryz.underlying307 Tryz.underlying5 Tryz.underlying9 (fun j hj => by simp at hj)
    rw [List.length_nil] at hcv0
    clear hdn
    go_wp2_with fail
    go_ret
    exact ⟨by rw [HDN.out]; rfl, HBEL.out⟩
   ·have hA' : ¬ 20 = a := fun h => hA h.symm
    go_wp2_with fail
    go_ret
    exact ⟨rfl, HBEL.out⟩
  ·have hap : 0 < a := by
    rcases Nat.eq_zero_or_pos a with h | h
    ·have h1 := congrArg List.length HD.out
     have h2 := HL20.out
     rw [List.length_append, List.length_map, List.length_drop, HLL.out, h] at h1
     have h3 : 0 < (dec n).length := List.length_pos_iff.2 (dec_ne h0)
     omega
    ·exact h
   obtain ⟨b, rfl⟩ : ∃ b, a = b + 1 := ⟨a - 1, by omega⟩
   obtain ⟨d, hd⟩ : ∃ d, d = n % 10 := ⟨_, rfl⟩
   obtain ⟨q, hq⟩ : ∃ q, q = n / 10 := ⟨_, rfl⟩
   have hx : L[b]? = some (L[b]'(by have := HLL.out; omega)) := List.getElem?_eq_getElem _
   have hcg := HBW.out.cell hx
   have hfg := HBW.out.frozen b
   have HD2 : Hid (dec N = dec q ++ ((L.set b (48 + d)).drop b).map UInt8.ofNat) := by
    show _ = _
    have hs : (L.set b (48 + d)).drop b = (48 + d) :: L.drop (b + 1) := by
     have h1 : (L.set b (48 + d))[b]? = some (48 + d) := List.getElem?_set_self (by have := HLL.out; omega)
     obtain ⟨hlt, hv⟩ := List.getElem?_eq_some_iff.1 h1
     rw [List.drop_eq_getElem_cons hlt, hv]
     congr 1
     rw [List.drop_set]; simp
    rw [hs, List.map_cons, HD.out, dec_pos h0, ← hd, ← hq, List.append_assoc]
    rfl
   have hdI : (n : Int) % 10 = (d : Int) := by omega
   have hqI : (n : Int) / 10 = (q : Int) := by omega
   have hd10 : d < 10 := by omega
   have hbi : ((b : Int) + 1 - 1) = (b : Int) := by omega
   have hw1 : IntKind.u64.wrap (48 + (d : Int)) = 48 + (d : Int) := by rw [show (48 : Int) + (d : Int) = ((48 + d : Nat) : Int) by omega]; exact wrap_nat _ (by omega)
   have hw8 : IntKind.u8.wrap (48 + (d : Int)) = 48 + (d : Int) := by rw [IntKind.wrap_u8]; omega
   have HQN : Hid (q < n) := by show _ < _; omega
   have hn0 : (0 : Int) < (n : Int) := by omega
   have hn0' : 0 < n := by omega
   have hb20 : (b : Int) < 20 := by omega
   clear hd hq hx hap HD
   go_wp2_with fail
   go_roundw
   case rel =>
    refine ⟨q, b, L.set b (48 + d), by first | rfl | exact val_int hqI, by go_num, by omega, by have := HQN.out; omega, by show _ = _; rw [List.length_set]; exact HLL.out, fun z hz => ?_, ?_, HBEL.out.setCell (Nat.le_refl _) _, HD2.out⟩
    ·rcases List.mem_or_eq_of_mem_set hz with h | h
     ·exact HLX.out z h
     ·rw [h]; omega
    ·exact HBW.out.set_ b (48 + d)
   case measure => have := HQN.out; simp [intOf]; omega
end Go.Proofs.YtodckaioeomccaaGreat
namespace Go.Proofs.YtodckaioeomccaaGreat
open Go.RowKit
set_option linter.unusedVariables false
set_option linter.unusedSimpArgs false
def strV (l : List UInt8) : Value := .string ⟨l.toArray⟩
theorem ba_append (a b : List UInt8) : (⟨a.toArray⟩ : ByteArray) ++ ⟨b.toArray⟩ = ⟨(a ++ b).toArray⟩ := by
 apply ByteArray.ext
 rw [ByteArray.data_append]
 simp
theorem repeat_zero (k : Nat) : Lib.repeatL [48] k = List.replicate k 48 := by
 induction k with
 | zero => rfl
 | succ k ih => rw [Lib.repeatL, ih, List.replicate_succ]; rfl
def part (q r : Nat) : List UInt8 := if q = 0 then dec r else pad 19 r
theorem dec_part {n q r : Nat} (hq : q = n / 10000000000000000000) (hr : r = n % 10000000000000000000) : dec n = dec q ++ part q r := by
 have hn : n = q * 10 ^ 19 + r := by
  rw [hq, hr]
  have := Nat.div_add_mod n 10000000000000000000
  omega
 unfold part
 by_cases h : q = 0
 ·rw [if_pos h, h, dec_zero, List.nil_append, hn, h]; simp
 ·rw [if_neg h, hn, dec_split 19 q r h (by omega)]
theorem dec_len_dl (n : Nat) : (dec n).length ≤ 20 * dl n := by
 refine dec_le n _ ?_
 have h1 := lt_len B64_2 n
 have h2 : B64 ^ (digs B64 n).length ≤ (10 ^ 20) ^ (digs B64 n).length := Nat.pow_le_pow_left (by unfold B64; decide) _
 rw [← Nat.pow_mul] at h2
 unfold dl
 omega
theorem flatten_rev_cons (x : List UInt8) (P : List (List UInt8)) : (P ++ [x]).reverse.flatten = x ++ P.reverse.flatten := by simp
theorem write_string (B b : Nat) (l s : List UInt8) (w : World) (h : Lib.IsBuilder 309 5 B b (Lib.byteCells l) w) (hlen : l.length + s.length ≤ 140737488355328) (hBw : B ≤ w.heap.size) :
  Calls Tryz.prog 236 #[.pointer (some ⟨b, 0, none⟩), strV s] w fun e w' => (∃ u, e = .returned u) ∧ Lib.IsBuilder 309 5 B b (Lib.byteCells (l ++ s)) w' ∧ Below B w w' := by
 have h1 := Any.Builder_WriteString (P := Tryz.prog) (ρ := Tryz.lays105_ren) { Tryz.lays105 with } Tryz.Builder_Extra_105 B b (Lib.byteCells l) ⟨s.toArray⟩ w h (by rw [Lib.byteCells_length]; simpa [ByteArray.size] using hlen) hBw
 refine h1.mono fun e w' ⟨h2, h3, h4⟩ => ⟨⟨_, h2⟩, .inr ?_, h4⟩
 have e1 : Lib.byteCells (l ++ s) = Lib.byteCells l ++ Lib.strCells ⟨s.toArray⟩ := by unfold Lib.byteCells; rw [List.map_append]; rfl
 rw [e1]
 exact h3
set_option maxRecDepth 100000 in
set_option maxHeartbeats 8000000 in
theorem text_any (va : Value) (N : Nat) (w : World) (hP : RdN w va N) (h6 : dl N ≤ 900000) : Calls Tryz.prog 177 #[va] w fun e w' => e = .returned (strV (decS N)) ∧ Below w.heap.size w w' := by
 have HP := h0d hP
 have HN6 := h0d h6
 have HDN : Hid ((dec N).length ≤ 18000000) := by
  show _ ≤ _
  have := dec_len_dl N
  omega
 clear hP h6
 go_enter Tryz.func177, Tryz.ntmps177
 go_upto_block 0 with fail
 go_cut [0, 3, 4, 5, 6] (fun av pv qv rv sv wx => ∃ (P : List (List UInt8)) (pv' : Value), pv' = pv ∧ Hid (wx.ownsRow w.heap.size 9 1 pv' P.length (P.map strV)) ∧ Hid (Below w.heap.size w wx) ∧ Hid (dec N = P.reverse.flatten) ∧ Hid (P.length ≤ 18000000) ∧ Hid (P.length ≤ P.reverse.flatten.length))
 case first =>
  go_wp2_with fail
  go_loopg [0, 3] N (fun n av pv wr => ∃ (P : List (List UInt8)) (pv' : Value), pv' = pv ∧ Hid (RdN wr av n) ∧ Hid (wr.ownsRow w.heap.size 9 1 pv' P.length (P.map strV)) ∧ Hid (Below w.heap.size w wr) ∧ Hid (dec N = dec n ++ P.reverse.flatten) ∧ Hid (dl n ≤ 900000) ∧ Hid (P.length ≤ P.reverse.flatten.length))
  case atStart => exact ⟨[], _, rfl, HP.out, ⟨rfl, .inl ⟨rfl, rfl⟩⟩, Below.refl _ _, by show _ = _; simp, HN6.out, Nat.zero_le _⟩
  case round =>
   obtain ⟨P, pv, rfl, HA, HOW, HBEL, HD, HL6, HPL⟩ := hrel
   obtain ⟨A1, k1, c1, rfl, e1, hk1, -, hm1, -⟩ := RdW.open_ HA.out
   have HPL18 : Hid (P.length ≤ 18000000) := by
    show _ ≤ _
    have h1 := congrArg List.length HD.out
    rw [List.length_append] at h1
    have := HDN.out; have := HPL.out
    omega
   by_cases h0 : gk = 0
   ·have HDF : Hid (dec N = P.reverse.flatten) := by show _ = _; have := HD.out; rw [h0, dec_zero, List.nil_append] at this; exact this
    rw [h0, digs_zero] at e1
    obtain rfl : k1 = 0 := by simpa using e1.symm
    clear e1 h0
    go_wp2_with fail
    go_meet
    case rel => exact ⟨P, _, rfl, HOW.out, HBEL.out, HDF.out, HPL18.out, HPL.out⟩
   ·have hk1p : 0 < k1 := by have := dl_pos h0; unfold dl at this; omega
    have hkp : (0 : Int) < (k1 : Int) := by omega
    obtain ⟨q, hq⟩ : ∃ q, q = gk / 10000000000000000000 := ⟨_, rfl⟩
    obtain ⟨r, hr⟩ : ∃ r, r = gk % 10000000000000000000 := ⟨_, rfl⟩
    have HBY := h0d (byWord_own _ gk 10000000000000000000 wr HA.out (by omega) (by unfold B64; omega) (by have := HL6.out; omega))
    rw [← hq, ← hr] at HBY
    have hr19 : r < 10000000000000000000 := by rw [hr]; exact Nat.mod_lt _ (by omega)
    have HDC := h0d (fun w' => decimal_any r w' (by omega))
    have HPT := h0d (dec_part hq hr)
    have HQN : Hid (q < gk) := by show _ < _; omega
    have hdr : (dec r).length ≤ 19 := dec_le r 19 (by omega)
    have hdri : ((dec r).length : Int) ≤ 19 := by omega
    obtain ⟨t, ht⟩ : ∃ t, t = 19 - (dec r).length := ⟨_, rfl⟩
    have hti : (19 : Int) - ((dec r).length : Int) = (t : Int) := by omega
    have HRP : Hid (∀ w', Calls Tryz.prog 235 #[.string ⟨#[48]⟩, .int .i64 (t : Int)] w' fun e w'' => e = .returned (.string ⟨(List.replicate t (48 : UInt8)).toArray⟩) ∧ Below w'.heap.size w' w'') := fun w' => by
     have := Tryz.strings_Repeat ⟨#[48]⟩ t w' (by omega) (by show 1 * t ≤ _; omega)
     rwa [show (⟨#[48]⟩ : ByteArray).data.toList = [48] from rfl, repeat_zero] at this
    have HLQ : Hid (dl q ≤ 900000) := by show _ ≤ _; have := dl_mono (show q ≤ gk by omega); have := HL6.out; omega
    have HPD : Hid (pad 19 r = List.replicate t 48 ++ dec r) := by show _ = _; rw [(pad_dec 19 r (by omega)).2, ht]
    have HD2 : Hid (dec N = dec q ++ (P ++ [part q r]).reverse.flatten) := by
     show _ = _
     rw [flatten_rev_cons, ← List.append_assoc, ← HPT.out]; exact HD.out
    have HPL2 : Hid ((P ++ [part q r]).length ≤ (P ++ [part q r]).reverse.flatten.length) := by
     have h1 : 0 < (part q r).length := by
      unfold part
      by_cases hq0 : q = 0
      ·rw [if_pos hq0]
       exact List.length_pos_iff.2 (dec_ne (by omega))
      ·rw [if_neg hq0, pad_length]; omega
     show _ ≤ _
     rw [flatten_rev_cons, List.length_append, List.length_append, List.length_singleton]
     have := HPL.out
     omega
    have hPm : P.length ≤ 18000000 := HPL18.out
    obtain ⟨D, hD⟩ : ∃ D, D = (dec r).length := ⟨_, rfl⟩
    have HDD := h0d hD
    have HKEEP : Hid (∀ w', Below wr.heap.size wr w' → w'.ownsRow w.heap.size 9 1 pv P.length (P.map strV)) := fun w' hb => HOW.out.kept ⟨hb.os, hb.tape, hb.output, hb.size, fun b hb' _ => hb.block b hb'⟩ (Classical.em _)
    obtain ⟨S, hS⟩ : ∃ S : ByteArray, S = ⟨(dec r).toArray⟩ := ⟨_, rfl⟩
    obtain ⟨A, hA⟩ : ∃ S : ByteArray, S = ⟨(List.replicate t (48 : UInt8)).toArray⟩ := ⟨_, rfl⟩
    obtain ⟨T, hT⟩ : ∃ S : ByteArray, S = ⟨(pad 19 r).toArray⟩ := ⟨_, rfl⟩
    have hcat : A ++ S = T := by rw [hA, hS, hT, ba_append, ← HPD.out]
    have hSs : S.size = (dec r).length := by rw [hS]; simp [ByteArray.size]
    have hAs : A.size = t := by rw [hA]; simp [ByteArray.size]
    have hsum : ∀ w', (Op.stringOp .add A S).run Tryz.prog w' = .ok (.string T) w' := fun w' => by rw [run_string_add_sum w' A S (by omega), hcat]
    have hwt : wrap64 (19 - (S.size : Int)) = (t : Int) := by rw [hSs, hti]; simp only [wrap64]; omega
    rw [← hS] at HDC
    rw [← hA] at HRP
    have HS : Hid (q = 0 → S = ⟨(part q r).toArray⟩) := fun h => by rw [hS]; unfold part; rw [if_pos h]
    have HT : Hid (q ≠ 0 → T = ⟨(part q r).toArray⟩) := fun h => by rw [hT]; unfold part; rw [if_neg h]
    have HCAT := h0d hcat
    have HSUM := h0d hsum
    have HWT := h0d hwt
    clear e1 h0 hq hr hr19 hdr hdri ht hti hcat hD hS hA hT hSs hAs hsum hwt HPD HDD
    go_upto_if 21 with (first | (go_at_call 233; refine HBY.out.mono ?_; rintro e w3 ⟨⟨v3, rfl, hr3⟩, hb3⟩; have HR3 := h0d hr3; have HB3 := h0d hb3; clear hr3 hb3) | (go_at_call 234; refine (HDC.out _).mono ?_; rintro e w4 ⟨rfl, hb4⟩; have HB4 := h0d hb4; clear hb4; have HR34 := h0d (HR3.out.below HB4.out); obtain ⟨A3, n3, c3, rfl, e3, -, -, -, -⟩ := RdW.open_ HR34.out.all; have HE3 := h0d e3; clear e3))
    have HB34 : Hid (Below wr.heap.size wr w4) := HB3.out.trans (HB4.out.mono HB3.out.size)
    go_cut [6] (fun sv wx => sv = strV (part q r) ∧ Hid (Below w4.heap.size w4 wx))
    case first =>
     by_cases hq0 : q = 0
     ·have hn3 : n3 = 0 := by have := HE3.out; rw [hq0, digs_zero] at this; simpa using this.symm
      have HPP : Hid (S = ⟨(part q r).toArray⟩) := HS.out hq0
      subst hn3
      clear hq0
      go_wp2_with fail
      go_meet
      case rel => exact ⟨by rw [HPP.out]; rfl, Below.refl _ _⟩
     ·have hn3 : 0 < n3 := by have h1 := HE3.out; have h2 := dl_pos hq0; unfold dl at h2; omega
      have HPP : Hid (T = ⟨(part q r).toArray⟩) := HT.out hq0
      have hnb : decide ((0 : Int) < (n3 : Int)) = true := by simp [hn3]
      have hnb2 : decide (0 < n3) = true := by simp [hn3]
      have hwt := HWT.out
      have hsum := HSUM.out
      clear hq0
      go_wp2_with (go_at_call 235; refine (HRP.out _).mono ?_; rintro e w5 ⟨rfl, hb5⟩; have HB5 := h0d hb5; clear hb5)
      go_meet
      case rel => exact ⟨by rw [HPP.out]; rfl, HB5⟩
    case rest =>
     obtain ⟨rfl, HB5⟩ := hcut
     have HB35 : Hid (Below wr.heap.size wr wc) := HB34.out.trans (HB5.out.mono HB34.out.size)
     have HBEL5 : Hid (Below w.heap.size w wc) := HBEL.out.trans (HB35.out.mono HBEL.out.size)
     have HR5 := h0d (HR34.out.below HB5.out)
     have HOW1 := h0d ((HKEEP.out _ HB35.out).alloc (.cells #[strV (part q r)] 9))
     have HBE1 : Hid (Below w.heap.size w (wc.alloc (.cells #[strV (part q r)] 9))) := HBEL5.out.alloc HBEL5.out.size _
     clear HKEEP
     obtain ⟨s, hs⟩ : ∃ s, s = part q r := ⟨_, rfl⟩
     rw [← hs] at HOW1 HBE1 HD2 HPL2 ⊢
     clear hs HPT
     unfold strV at HOW1 HBE1 ⊢
     obtain ⟨i0, hi0, hz0, hz1, hz2⟩ := info_parts info9
     go_wp2_with (at_builtin; refine wpList_append_own _ rfl _ _ 99 rfl w.heap.size 9 i0 (.string ⟨#[]⟩) 1 16 Tryz.underlying99 hi0 hz0 hz1 hz2 rfl (by decide) _ P.length _ rfl HOW1.out ⟨wc.heap.size, 0, none⟩ 1 1 [.string ⟨s.toArray⟩] rfl rfl (cells_new wc #[.string ⟨s.toArray⟩] 9 (0, 0)) (fun u hu => by rw [List.mem_singleton.1 hu]; rfl) (by unfold maxLen; omega) (by omega) (by have := HBEL5.out.size; simp; omega) ?_; intro v' w1 hown1 hgrow1 _; have HW1 := h0d hown1; have HG1 := h0d hgrow1; clear hown1 hgrow1)
     go_roundg q
     case measure => exact HQN.out
     case rel =>
      have hbf := HBE1.out.grown HG1.out (by have := HBEL5.out.size; simp; omega) (fun g hg => (HOW1.out.lt g hg).1)
      have hK : Keep (fun b => wr.heap.size ≤ b ∧ b < wc.heap.size) wc w1 := ((Keep.refl _ wc).alloc (fun _ hk => hk.2) _).trans ⟨HG1.out.os, HG1.out.tape, HG1.out.output, HG1.out.size, fun b hb => HG1.out.block b (by have := hb.2; simp; omega) (fun e => by have e2 : pv.ownBlock = some b := e.symm; have := (HOW.out.lt b e2).2; omega)⟩
      have hR1 : RdN w1 (.slice A3 n3 c3) q := Rd.mono (Rd.keep (Rd.lt (f := u64V) HR5.out) hK) fun _ _ => trivial
      exact ⟨P ++ [s], _, rfl, hR1, by have h := HW1.out; rw [List.length_append, List.map_append]; exact h, hbf, HD2.out, HLQ.out, HPL2.out⟩
 case rest =>
  obtain ⟨P, pv, rfl, HOW, HBEL, HD, HPL, HPF⟩ := hcut
  obtain ⟨A5, c5, rfl⟩ : ∃ A c, pv = .slice A P.length c := ownsRow_slice HOW.out
  by_cases hP0 : P = []
  ·have HZ : Hid (decS N = [48]) := by
    show _ = _
    unfold decS
    rw [if_pos]
    have h1 := HD.out
    rw [hP0] at h1
    refine Classical.byContradiction fun h => dec_ne h (by simpa using h1)
   have hpl : P.length = 0 := by rw [hP0]; rfl
   rw [hpl]
   clear hP0 hpl
   go_wp2_with fail
   go_ret
   exact ⟨by rw [HZ.out]; rfl, HBEL.out⟩
  ·obtain ⟨m, hm⟩ : ∃ m, m = P.length := ⟨_, rfl⟩
   have hmp : 0 < m := by rw [hm]; exact List.length_pos_iff.2 hP0
   have HZ : Hid (decS N = P.reverse.flatten) := by
    show _ = _
    rw [← HD.out]
    unfold decS
    rw [if_neg]
    intro h
    have h1 := congrArg List.length HD.out
    rw [h, dec_zero, List.length_nil] at h1
    have h2 := HPF.out
    exact hP0 (List.length_eq_zero_iff.1 (by omega))
   have hm18 : m ≤ 18000000 := by have := HPL.out; omega
   have HM := h0d hm
   rw [← hm] at HOW ⊢
   have hmb : ((m : Int) == 0) = false := by simp; omega
   clear hm hP0
   have HLT : Hid (wc.heap.size < (wc.alloc (.cells #[.pointer none, .slice none 0 0] 309)).heap.size) := by show _ < _; simp
   have HBA : Hid (Below wc.heap.size wc (wc.alloc (.cells #[.pointer none, .slice none 0 0] 309))) := (Below.refl _ wc).alloc (Nat.le_refl _) _
   have HIB : Hid (Lib.IsBuilder 309 5 wc.heap.size wc.heap.size (Lib.byteCells []) (wc.alloc (.cells #[.pointer none, .slice none 0 0] 309))) := Lib.fresh_isBuilder 309 5 wc
   have HCE : Hid (∀ w', Below wc.heap.size wc w' → ∀ i x, P[i]? = some x → ∃ b off, A5 = some ⟨b, off, none⟩ ∧ w'.cell? ⟨b, off + i, none⟩ = some (strV x)) := fun w' hb i x hx => by
    have h1 : Rd strV wc (fun _ => True) (.slice A5 m c5) P := by
     have := HOW.out
     exact (Rd.of_own (f := strV) (xs := P) this).mono fun _ _ => trivial
    obtain ⟨A', cap', he, _, _, h3⟩ := (Rd.lt h1)
    simp only [Value.slice.injEq] at he
    obtain ⟨rfl, _, rfl⟩ := he
    obtain ⟨b, off, rfl, hb1, hc⟩ := h3 (fun e => by rw [e] at hx; simp at hx)
    obtain ⟨hi, hv⟩ := List.getElem?_eq_some_iff.1 hx
    refine ⟨b, off, rfl, ?_⟩
    rw [hb.cell (p := ⟨b, off + i, none⟩) hb1.2, hc i hi, hv]
   go_wp2_with fail
   go_loopw [8] (fun iv wr => ∃ k : Nat, k ≤ m ∧ iv = .int .i64 ((k : Int) - 1) ∧ Hid (Below wc.heap.size wc wr) ∧ Hid (Lib.IsBuilder 309 5 wc.heap.size wc.heap.size (Lib.byteCells (P.drop k).reverse.flatten) wr)) (fun iv _ => (intOf iv + 1).toNat)
   case atStart =>
    refine ⟨m, Nat.le_refl _, rfl, HBA, ?_⟩
    rw [List.drop_of_length_le (by have := HM.out; omega)]
    exact HIB.out
   case round =>
    obtain ⟨k, hk, rfl, HBR, HBI⟩ := hrel
    by_cases hk0 : k = 0
    ·subst hk0
     have HST := h0d (Tryz.Builder_String_any wc.heap.size wc.heap.size _ wr HBI.out (HBR.out.size))
     rw [List.drop_zero, ← HZ.out] at HST
     go_wp2_with (go_at_call 237; refine HST.out.mono ?_; rintro e w2 ⟨rfl, hb2⟩; have HB2 := h0d hb2; clear hb2)
     go_ret
     exact ⟨rfl, HBEL.out.trans ((HBR.out.trans HB2.out).mono HBEL.out.size)⟩
    ·obtain ⟨j, rfl⟩ : ∃ j, k = j + 1 := ⟨k - 1, by omega⟩
     have hj : (((j + 1 : Nat) : Int) - 1) = (j : Int) := by omega
     rw [hj]
     have hjl : j < P.length := by have := HM.out; omega
     obtain ⟨x, hx⟩ : ∃ x, P[j]? = some x := ⟨_, List.getElem?_eq_getElem hjl⟩
     obtain ⟨b, off, rfl, hcx⟩ := HCE.out wr HBR.out j x hx
     unfold strV at hcx
     have hdj : (P.drop j).reverse.flatten = (P.drop (j + 1)).reverse.flatten ++ x := by
      obtain ⟨h1, h2⟩ := List.getElem?_eq_some_iff.1 hx
      rw [List.drop_eq_getElem_cons h1, h2]; simp
     have HWS := h0d (write_string wc.heap.size wc.heap.size (P.drop (j + 1)).reverse.flatten x wr HBI.out (by
      have h1 := congrArg List.length hdj
      rw [List.length_append] at h1
      have h2 : (P.drop j).reverse.flatten.length ≤ P.reverse.flatten.length := by
       conv => rhs; rw [← List.take_append_drop j P, List.reverse_append, List.flatten_append, List.length_append]
       omega
      rw [← HD.out] at h2
      have h3 := HDN.out
      omega) HBR.out.size)
     rw [← hdj] at HWS
     unfold strV at HWS
     have hjm : (j : Int) < (m : Int) := by omega
     clear hj hjl hx hdj hk0
     go_wp2_with (go_at_call 236; refine HWS.out.mono ?_; rintro e w2 ⟨⟨u, rfl⟩, h2, h3⟩; have HI2 := h0d h2; have HB2 := h0d h3; clear h2 h3)
     go_roundw
     case rel => exact ⟨j, by omega, rfl, HBR.out.trans HB2.out, HI2.out⟩
     case measure => simp [intOf]
end Go.Proofs.YtodckaioeomccaaGreat
namespace Go.Proofs.YtodckaioeomccaaGreat
open Go.RowKit
set_option linter.unusedVariables false
set_option linter.unusedSimpArgs false
theorem RdQ.parts {w : World} {v : Value} {x : Rat} (h : RdQ w v x) : ∃ Aa ka ca Ab kb cb, v = .agg #[.bool (decide (x.num < 0)), .slice Aa ka ca, .slice Ab kb cb] ∧ RdN w (.slice Aa ka ca) x.num.natAbs ∧ RdN w (.slice Ab kb cb) (den1 x.den) := by
 obtain ⟨a, b, rfl, h1, h2⟩ := h
 obtain ⟨A, k, c, rfl⟩ := h1.slice
 obtain ⟨A', k', c', rfl⟩ := h2.slice
 exact ⟨_, _, _, _, _, _, rfl, h1, h2⟩
theorem RdN.len {w : World} {A : Option Addr} {k c n : Nat} (h : RdN w (.slice A k c) n) : dl n = k := by
 obtain ⟨A', k', c', e, h1, _⟩ := RdW.open_ h
 simp only [Value.slice.injEq] at e
 obtain ⟨_, rfl, _⟩ := e
 exact h1
theorem decS_len (n : Nat) (h : dl n ≤ 900000) : (decS n).length ≤ 18000000 := by
 unfold decS
 split
 ·simp
 ·have := dec_len_dl n; omega
theorem ba_size (l : List UInt8) : (⟨l.toArray⟩ : ByteArray).size = l.length := by simp [ByteArray.size]
theorem add_str (a b : List UInt8) (ha : a.length ≤ 60000000) (hb : b.length ≤ 60000000) (S : ByteArray) (hS : S = ⟨(a ++ b).toArray⟩) (w : World) :
  (Op.stringOp .add ⟨a.toArray⟩ ⟨b.toArray⟩).run Tryz.prog w = .ok (.string S) w := by
 rw [run_string_add_sum w _ _ (by rw [ba_size, ba_size]; omega), hS, ba_append]
set_option maxRecDepth 100000 in
set_option maxHeartbeats 4000000 in
theorem rtext_any (v : Value) (x : Rat) (w : World) (h : RdQ w v x) (h6 : QS 900000 x) : Calls Tryz.prog 90 #[v] w fun e w' => e = .returned (strV (ratS x)) ∧ Below w.heap.size w w' := by
 obtain ⟨Aa, ka, ca, Ab, kb, cb, rfl, ha, hb⟩ := h.parts
 have HKB : Hid (dl (den1 x.den) = kb) := hb.len
 obtain ⟨hl1, hl2⟩ := h6
 have hl3 : dl (den1 x.den) ≤ 900000 := by unfold den1; split; rw [dl_zero]; omega; exact hl2
 have L1 := decS_len _ hl1
 have L2 := decS_len _ hl2
 have HT1 := h0d (fun w' (hb' : Below w.heap.size w w') => text_any _ x.num.natAbs w' (ha.below hb') hl1)
 have HT2 := h0d (fun w' (hb' : Below w.heap.size w w') => text_any _ (den1 x.den) w' (hb.below hb') hl3)
 obtain ⟨ng, hng⟩ : ∃ b, b = decide (x.num < 0) := ⟨_, rfl⟩
 rw [← hng]
 obtain ⟨S1, hS1⟩ : ∃ S : ByteArray, S = ⟨(decS x.num.natAbs).toArray⟩ := ⟨_, rfl⟩
 obtain ⟨W2, hW2⟩ : ∃ W2, W2 = w.alloc (.cells #[.bool ng, .slice Aa ka ca, .slice Ab kb cb] 32) := ⟨_, rfl⟩
 have HW2 : Hid (Below w.heap.size w W2) := by rw [hW2]; exact (Below.refl _ w).alloc (Nat.le_refl _) _
 have HRS : Hid (∀ w', Below W2.heap.size W2 w' → _) := fun w' h => res3 (c0 := .bool ng) (c1 := .slice Aa ka ca) (c2 := .slice Ab kb cb) (b := w.heap.size) (t := 32) (by rw [hW2]; exact heap_alloc_new w _) h
 have HE := h0d hW2
 unfold strV at HT1 HT2 ⊢
 rw [← hS1] at HT1
 obtain ⟨S2, hS2⟩ : ∃ S : ByteArray, S = ⟨((if x.num < 0 then [45] else []) ++ decS x.num.natAbs).toArray⟩ := ⟨_, rfl⟩
 obtain ⟨S3, hS3⟩ : ∃ S : ByteArray, S = ⟨(decS (den1 x.den)).toArray⟩ := ⟨_, rfl⟩
 rw [← hS3] at HT2
 obtain ⟨S4, hS4⟩ : ∃ S : ByteArray, S = ⟨(47 :: decS (den1 x.den)).toArray⟩ := ⟨_, rfl⟩
 obtain ⟨S5, hS5⟩ : ∃ S : ByteArray, S = ⟨((if x.num < 0 then [45] else []) ++ decS x.num.natAbs ++ (47 :: decS (den1 x.den))).toArray⟩ := ⟨_, rfl⟩
 have HA1 : Hid (ng = true → ∀ w', (Op.stringOp .add ⟨#[45]⟩ S1).run Tryz.prog w' = .ok (.string S2) w') := fun hn w' => by
  rw [hS1]; exact add_str [45] _ (by simp) (by omega) S2 (by rw [hS2, if_pos (by rw [hn] at hng; simpa using hng.symm)]) w'
 have HA0 : Hid (ng = false → S2 = S1) := fun hn => by rw [hS1, hS2, if_neg (by rw [hn] at hng; simpa using hng.symm)]; simp
 have hdl : (decS (den1 x.den)).length ≤ 18000000 := decS_len _ hl3
 have HA2 : Hid (∀ w', (Op.stringOp .add ⟨#[47]⟩ S3).run Tryz.prog w' = .ok (.string S4) w') := fun w' => by
  rw [hS3]; exact add_str [47] _ (by simp) (by omega) S4 (by rw [hS4]; rfl) w'
 have HA3 : Hid (∀ w', (Op.stringOp .add S2 S4).run Tryz.prog w' = .ok (.string S5) w') := fun w' => by
  rw [hS2, hS4]; exact add_str _ _ (by rw [List.length_append]; split <;> simp <;> omega) (by simp; omega) S5 (by rw [hS5]) w'
 have HF1 : Hid (x.den = 1 → S2 = ⟨(ratS x).toArray⟩) := fun hd => by rw [hS2]; unfold ratS; rw [if_pos hd, List.append_nil]
 have HF2 : Hid (x.den ≠ 1 → S5 = ⟨(ratS x).toArray⟩) := fun hd => by rw [hS5]; unfold ratS den1; rw [if_neg hd, if_neg hd]
 have HZ : Hid (x.den = 1 ↔ kb = 0) := by
  have h1 := HKB.out
  unfold den1 at h1
  constructor
  ·intro h; rw [if_pos h, dl_zero] at h1; exact h1.symm
  ·intro h
   refine Classical.byContradiction fun hne => ?_
   rw [if_neg hne] at h1
   have := dl_pos x.den_nz
   omega
 clear hng hS1 hS2 hS3 hS4 hS5 ha hb h hl1 hl2 hl3 L1 L2 hW2 hdl
 cases ng
 ·by_cases hk : kb = 0
  ·have HS2 : Hid (S2 = S1) := HA0.out rfl
   have HF : Hid (S2 = ⟨(ratS x).toArray⟩) := HF1.out (HZ.out.2 hk)
   subst hk
   clear HZ HF1 HF2 HA0 HA1 HA2 HA3 HKB
   go_enter Tryz.func90, Tryz.ntmps90
   go_wp2_with fail
   rw [← HE.out]
   refine (HT1.out _ HW2.out).mono ?_
   rintro e w3 ⟨rfl, hb3⟩
   obtain ⟨q0, q1, q2, -, -, -⟩ := HRS.out _ hb3
   have HBW3 : Hid (Below w.heap.size w w3) := HW2.out.trans (hb3.mono HW2.out.size)
   clear hb3
   go_wp2_with fail
   go_ret
   exact ⟨by rw [← HF.out]; rw [HS2.out]; rfl, HBW3.out⟩
  ·have HS2 : Hid (S2 = S1) := HA0.out rfl
   have HF : Hid (S5 = ⟨(ratS x).toArray⟩) := HF2.out (fun h => hk (HZ.out.1 h))
   have hkp : 0 < kb := by omega
   have hadd2 := HA2.out
   have hadd3 := HA3.out
   rw [HS2.out] at hadd3
   clear HZ HF1 HF2 HA0 HA1 HA2 HA3 HKB hk
   go_enter Tryz.func90, Tryz.ntmps90
   go_wp2_with fail
   rw [← HE.out]
   refine (HT1.out _ HW2.out).mono ?_
   rintro e w3 ⟨rfl, hb3⟩
   obtain ⟨q0, q1, q2, -, -, -⟩ := HRS.out _ hb3
   have HBW3 : Hid (Below w.heap.size w w3) := HW2.out.trans (hb3.mono HW2.out.size)
   clear hb3
   go_wp2_with fail
   refine (HT2.out _ HBW3.out).mono ?_
   rintro e w4 ⟨rfl, hb4⟩
   have HB4 := h0d hb4
   clear hb4 q0 q1 q2
   go_wp2_with fail
   go_ret
   exact ⟨by rw [← HF.out]; rfl, HBW3.out.trans (HB4.out.mono HBW3.out.size)⟩
 ·by_cases hk : kb = 0
  ·have hadd1 := HA1.out rfl
   have HF : Hid (S2 = ⟨(ratS x).toArray⟩) := HF1.out (HZ.out.2 hk)
   subst hk
   clear HZ HF1 HF2 HA0 HA1 HA2 HA3 HKB
   go_enter Tryz.func90, Tryz.ntmps90
   go_wp2_with fail
   rw [← HE.out]
   refine (HT1.out _ HW2.out).mono ?_
   rintro e w3 ⟨rfl, hb3⟩
   obtain ⟨q0, q1, q2, -, -, -⟩ := HRS.out _ hb3
   have HBW3 : Hid (Below w.heap.size w w3) := HW2.out.trans (hb3.mono HW2.out.size)
   clear hb3
   go_wp2_with fail
   go_ret
   exact ⟨by rw [← HF.out]; rfl, HBW3.out⟩
  ·have hadd1 := HA1.out rfl
   have HF : Hid (S5 = ⟨(ratS x).toArray⟩) := HF2.out (fun h => hk (HZ.out.1 h))
   have hkp : 0 < kb := by omega
   have hadd2 := HA2.out
   have hadd3 := HA3.out
   clear HZ HF1 HF2 HA0 HA1 HA2 HA3 HKB hk
   go_enter Tryz.func90, Tryz.ntmps90
   go_wp2_with fail
   rw [← HE.out]
   refine (HT1.out _ HW2.out).mono ?_
   rintro e w3 ⟨rfl, hb3⟩
   obtain ⟨q0, q1, q2, -, -, -⟩ := HRS.out _ hb3
   have HBW3 : Hid (Below w.heap.size w w3) := HW2.out.trans (hb3.mono HW2.out.size)
   clear hb3
   go_wp2_with fail
   refine (HT2.out _ HBW3.out).mono ?_
   rintro e w4 ⟨rfl, hb4⟩
   have HB4 := h0d hb4
   clear hb4 q0 q1 q2
   go_wp2_with fail
   go_ret
   exact ⟨by rw [← HF.out]; rfl, HBW3.out.trans (HB4.out.mono HBW3.out.size)⟩
end Go.Proofs.YtodckaioeomccaaGreat
