/- The walks of slices.Clone and of plant.copied. Walks of the natural numbers of the package exact: cut, word, isOne, cmp. -/
import Derived.Test.YtodckaioeomccaaGreatPart02
import Derived.Deep.RegionWith
import Derived.Test.YtodckaioeomccaaGreatPart03
namespace Go.Proofs.YtodckaioeomccaaGreat
open Go.RowKit
theorem ownsRow_slice {w : World} {base : Nat} {e : TypeId} {size : Nat} {v : Value} {n : Nat} {xs : List Value} (h : w.ownsRow base e size v n xs) : ∃ A c, v = .slice A n c := by
 rcases h.2 with ⟨rfl, rfl⟩ | ⟨g, cap, cur, rfl, _⟩
 ·exact ⟨_, _, rfl⟩
 ·exact ⟨_, _, rfl⟩
theorem ownsRow_mono {w : World} {base base' : Nat} {e : TypeId} {size : Nat} {v : Value} {n : Nat} {xs : List Value} (h : w.ownsRow base e size v n xs) (hb : base' ≤ base) : w.ownsRow base' e size v n xs := by
 refine ⟨h.1, h.2.imp id ?_⟩
 rintro ⟨g, cap, cur, e1, e2, e3⟩
 exact ⟨g, cap, cur, e1, by omega, e3⟩
end Go.Proofs.YtodckaioeomccaaGreat
namespace Go.Proofs.YtodckaioeomccaaGreat
open Go.RowKit
set_option linter.unusedVariables false
set_option linter.unusedSimpArgs false
def B64 : Nat := 18446744073709551616
theorem B64_2 : 2 ≤ B64 := by unfold B64; omega
theorem B64_eq : B64 = 18446744073709551616 := rfl
def u64V (k : Nat) : Value := .int .u64 (k : Int)
def RdW (w : World) (v : Value) (xs : List Nat) : Prop := Rd u64V w (fun _ => True) v xs
def RdN (w : World) (v : Value) (n : Nat) : Prop := RdW w v (digs B64 n)
theorem RdN.below {w w' : World} {v : Value} {n : Nat} (h : RdN w v n) (hb : Below w.heap.size w w') : RdN w' v n := Rd.below h hb
theorem RdW.open_ {w : World} {v : Value} {xs : List Nat} (h : RdW w v xs) :
  ∃ A n cap, v = .slice A n cap ∧ xs.length = n ∧ n ≤ cap ∧ n ≤ 9223372036854775807 ∧ cap ≤ maxLen ∧
   (∀ k, k < n → ∃ b off x, A = some ⟨b, off, none⟩ ∧ b < w.heap.size ∧ xs[k]? = some x ∧ w.cell? ⟨b, off + k, none⟩ = some (.int .u64 (x : Int))) := by
 have h0 := Rd.lt h
 obtain ⟨A, cap, rfl, h1, h2, h3⟩ := h0
 refine ⟨A, xs.length, cap, rfl, rfl, h1, by unfold maxLen at h2; omega, h2, fun k hk => ?_⟩
 obtain ⟨b, off, rfl, hb, hc⟩ := h3 (fun e => by subst e; simp at hk)
 exact ⟨b, off, xs[k], rfl, hb.2, List.getElem?_eq_getElem hk, hc k hk⟩
def RdNS (w : World) (S : Nat → Prop) (v : Value) (n : Nat) : Prop := Rd u64V w S v (digs B64 n)
theorem RdNS.all {w : World} {S : Nat → Prop} {v : Value} {n : Nat} (h : RdNS w S v n) : RdN w v n := Rd.mono h fun _ _ => trivial
theorem RdNS.below {w w' : World} {S : Nat → Prop} {v : Value} {n : Nat} (h : RdNS w S v n) (hb : Below w.heap.size w w') : RdNS w' S v n := Rd.below h hb
theorem Rd.take64 {w : World} {S : Nat → Prop} {A : Option Addr} {n cap : Nat} {xs : List Nat} (h : Rd u64V w S (.slice A n cap) xs) {k : Nat} (hk : k ≤ n) : Rd u64V w S (.slice A k cap) (xs.take k) := by
 obtain ⟨A', cap', he, h1, h2, h3⟩ := h
 simp only [Value.slice.injEq] at he
 obtain ⟨rfl, rfl, rfl⟩ := he
 have hl : (xs.take k).length = k := by simp; omega
 refine ⟨A, cap, by rw [hl], by omega, h2, fun hn => ?_⟩
 obtain ⟨b, off, rfl, hb, hc⟩ := h3 (fun e => hn (by rw [e]; simp))
 refine ⟨b, off, rfl, hb, fun i hi => ?_⟩
 rw [hc i (by omega), List.getElem_take]
theorem getD_of {xs : List Nat} {k x : Nat} (h : xs[k]? = some x) : xs.getD k 0 = x := by rw [List.getD_eq_getElem?_getD, h]; rfl
theorem cutN_step (xs : List Nat) {k x : Nat} (h : xs[k]? = some x) : cutN xs (k + 1) = if x = 0 then cutN xs k else k + 1 := by
 simp only [cutN]; rw [getD_of h]
set_option maxHeartbeats 1000000 in
theorem cut_anyS (S : Nat → Prop) (v : Value) (xs : List Nat) (w : World) (h : Rd u64V w S v xs) :
  Calls Tryz.prog 232 #[v] w fun e w' => (∃ v', e = .returned v' ∧ Rd u64V w S v' (xs.take (cutN xs xs.length)) ∧ ∃ A c, v' = .slice A (cutN xs xs.length) c) ∧ w = w' := by
 have HV := h0d h
 obtain ⟨A, n, cap, rfl, hn, hcap, hmax, hcm, hc⟩ := RdW.open_ (h.mono (S' := fun _ => True) fun _ _ => trivial)
 rw [hn]
 have HC := h0d hc
 have HN := h0d hn
 clear hn hc h
 go_enter Tryz.func232, Tryz.ntmps232
 go_wp2_with fail
 go_loop [0] (fun v0 => ∃ k : Nat, k ≤ n ∧ v0 = .slice A k cap ∧ Hid (cutN xs n = cutN xs k)) (fun v0 => match v0 with | .slice _ k _ => k | _ => 0)
 case atStart => exact ⟨n, Nat.le_refl _, rfl, rfl⟩
 case round =>
  obtain ⟨k, hk, rfl, HK⟩ := hrel
  by_cases h0 : k = 0
  ·have HZ : Hid (cutN xs n = 0) := by show _ = _; rw [HK.out, h0]; rfl
   subst h0
   clear HK
   go_wp2_with fail
   go_ret
   rw [HZ.out]
   exact ⟨⟨_, rfl, HV.out.take64 (Nat.zero_le _), _, _, rfl⟩, rfl⟩
  ·obtain ⟨j, rfl⟩ : ∃ j, k = j + 1 := ⟨k - 1, by omega⟩
   obtain ⟨b, off, x, rfl, hb, hx, hcell⟩ := HC.out j (by omega)
   have HS := h0d (cutN_step xs hx)
   have hpos : (0 : Int) < ((j + 1 : Nat) : Int) := by omega
   have hj : (((j + 1 : Nat) : Int) - 1) = (j : Int) := by omega
   have hjn : (j : Int) < ((j + 1 : Nat) : Int) := by omega
   clear hx h0
   by_cases hx0 : x = 0
   ·have HQ : Hid (cutN xs n = cutN xs j) := by show _ = _; rw [HK.out, HS.out, if_pos hx0]
    have hxb : ((x : Int) == 0) = true := by simp [hx0]
    clear hx0 HK HS
    go_wp2_with fail
    go_round
    case rel => exact ⟨j, by omega, rfl, HQ.out⟩
    case measure => simp
   ·have HQ : Hid (cutN xs n = j + 1) := by show _ = _; rw [HK.out, HS.out, if_neg hx0]
    have hxb : ((x : Int) == 0) = false := by simp; omega
    clear hx0 HK HS
    go_wp2_with fail
    go_ret
    rw [HQ.out]
    exact ⟨⟨_, rfl, HV.out.take64 hk, _, _, rfl⟩, rfl⟩
theorem cut_any (v : Value) (xs : List Nat) (w : World) (h : RdW w v xs) :
  Calls Tryz.prog 232 #[v] w fun e w' => (∃ v', e = .returned v' ∧ RdW w v' (xs.take (cutN xs xs.length)) ∧ ∃ A c, v' = .slice A (cutN xs xs.length) c) ∧ w = w' := cut_anyS _ v xs w h
theorem digs_one : digs B64 1 = [1] := digs_small B64_2 (by decide) (by unfold B64; omega)
theorem isOne_any (v : Value) (n : Nat) (w : World) (h : RdN w v n) :
  Calls Tryz.prog 226 #[v] w fun e w' => e = .returned (.bool (decide (n = 1))) ∧ w = w' := by
 obtain ⟨A, k, cap, rfl, hn, hcap, hmax, hcm, hc⟩ := RdW.open_ h
 obtain ⟨b, hb⟩ : ∃ b, b = decide (n = 1) := ⟨_, rfl⟩
 rw [← hb]
 have HB := h0d hb
 have HN := h0d hn
 by_cases hk : k = 1
 ·subst hk
  obtain ⟨bb, off, x, rfl, _, hx, hcell⟩ := hc 0 (by omega)
  have hd : digs B64 n = [x] := by
   match hq : digs B64 n, hn, hx with
   | [y], _, hx => simp at hx; rw [hx]
  rw [Nat.add_zero] at hcell
  have hnx : n = x := by rw [← val_digs B64_2 n, hd, val_one]
  clear hc h hn hx hd hb
  by_cases hx1 : x = 1
  ·have HQ : Hid (b = true) := by show _ = _; rw [HB.out, hnx]; simp [hx1]
   have hxb : ((x : Int) == 1) = true := by simp [hx1]
   clear hx1 hnx HB
   go_enter Tryz.func226, Tryz.ntmps226
   go_wp2_with fail
   go_ret
   exact ⟨by rw [HQ.out]; rfl, rfl⟩
  ·have HQ : Hid (b = false) := by show _ = _; rw [HB.out, hnx]; simp [hx1]
   have hxb : ((x : Int) == 1) = false := by simp; omega
   clear hx1 hnx HB
   go_enter Tryz.func226, Tryz.ntmps226
   go_wp2_with fail
   go_ret
   exact ⟨by rw [HQ.out]; rfl, rfl⟩
 ·have HQ : Hid (b = false) := by
   show _ = _; rw [HB.out]
   refine decide_eq_false fun e => ?_
   subst e; rw [digs_one] at hn; simp at hn; omega
  have hkb : ((k : Int) == 1) = false := by simp; omega
  clear hc h hn hk HB hb
  go_enter Tryz.func226, Tryz.ntmps226
  go_wp2_with fail
  go_ret
  exact ⟨by rw [HQ.out]; rfl, rfl⟩
theorem cutN_all {xs : List Nat} (h : ∀ x ∈ xs, x < B64) : xs.take (cutN xs xs.length) = digs B64 (val B64 xs) := by
 have := cutN_digs B64_2 h xs.length (Nat.le_refl _)
 rwa [List.take_length] at this
theorem cut_numS (S : Nat → Prop) (v : Value) (xs : List Nat) (w : World) (h : Rd u64V w S v xs) (hx : ∀ x ∈ xs, x < B64) :
  Calls Tryz.prog 232 #[v] w fun e w' => (∃ v', e = .returned v' ∧ RdNS w S v' (val B64 xs)) ∧ w = w' :=
 (cut_anyS S v xs w h).mono fun e w' ⟨⟨v', h1, h2, _⟩, h3⟩ => ⟨⟨v', h1, by unfold RdNS; rw [← cutN_all hx]; exact h2⟩, h3⟩
theorem cut_num (v : Value) (xs : List Nat) (w : World) (h : RdW w v xs) (hx : ∀ x ∈ xs, x < B64) :
  Calls Tryz.prog 232 #[v] w fun e w' => (∃ v', e = .returned v' ∧ RdN w v' (val B64 xs)) ∧ w = w' :=
 (cut_any v xs w h).mono fun e w' ⟨⟨v', h1, h2, _⟩, h3⟩ => ⟨⟨v', h1, by unfold RdN; rw [← cutN_all hx]; exact h2⟩, h3⟩
theorem word_any (n : Nat) (w : World) (hn : n < B64) :
  Calls Tryz.prog 209 #[.int .u64 (n : Int)] w fun e w' => (∃ v', e = .returned v' ∧ RdN w' v' n) ∧ Below w.heap.size w w' := by
 have hcm : (1 : Nat) ≤ maxLen := by unfold maxLen; omega
 have HR : Hid (RdW (w.alloc (.cells #[.int .u64 (n : Int)] 270)) (.slice (some ⟨w.heap.size, 0, none⟩) 1 1) [n]) :=
  ⟨_, 1, rfl, Nat.le_refl _, hcm, fun _ => ⟨_, _, rfl, trivial, fun i hi => by
   have : i = 0 := by simp at hi; omega
   subst this
   exact cell_of_row _ _ 0 _ _ _ (heap_alloc_new w _)⟩⟩
 have HC := h0d (cut_num _ [n] _ HR.out (fun x hx => by rw [List.mem_singleton.1 hx]; exact hn))
 rw [val_one] at HC
 clear hn hcm
 go_enter Tryz.func209, Tryz.ntmps209
 go_wp2_with fail
 refine HC.out.mono ?_
 rintro e w2 ⟨⟨v', rfl, hr⟩, rfl⟩
 have HR2 := h0d hr
 clear hr
 go_wp2_with fail
 go_ret
 exact ⟨⟨_, rfl, HR2.out⟩, (Below.refl _ w).alloc (Nat.le_refl _) _⟩
def cmpN (m n : Nat) : Int := if m < n then -1 else if n < m then 1 else 0
theorem cmpN_lt {m n : Nat} (h : m < n) : cmpN m n = -1 := if_pos h
theorem cmpN_gt {m n : Nat} (h : n < m) : cmpN m n = 1 := by unfold cmpN; rw [if_neg (by omega), if_pos h]
theorem cmpN_eq {m n : Nat} (h : m = n) : cmpN m n = 0 := by unfold cmpN; rw [if_neg (by omega), if_neg (by omega)]
set_option maxHeartbeats 2000000 in
theorem cmp_any (va vb : Value) (m n : Nat) (w : World) (ha : RdN w va m) (hb : RdN w vb n) :
  Calls Tryz.prog 127 #[va, vb] w fun e w' => e = .returned (.int .i64 (cmpN m n)) ∧ Below w.heap.size w w' := by
 obtain ⟨A1, k1, c1, rfl, e1, _, _, _, hc1⟩ := RdW.open_ ha
 obtain ⟨A2, k2, c2, rfl, e2, _, _, _, hc2⟩ := RdW.open_ hb
 obtain ⟨r, hr⟩ : ∃ r, r = cmpN m n := ⟨_, rfl⟩
 rw [← hr]
 have HR := h0d hr
 have HC1 := h0d hc1
 have HC2 := h0d hc2
 have hlt1 := digs_lt B64_2 m
 have hlt2 := digs_lt B64_2 n
 have E1 := h0d e1
 have E2 := h0d e2
 have HLT1 := h0d hlt1
 have HLT2 := h0d hlt2
 clear ha hb hc1 hc2 hr hlt1 hlt2 e1 e2
 by_cases hk : k1 = k2
 ·subst hk
  go_enter Tryz.func127, Tryz.ntmps127
  go_wp2_with fail
  go_loopw [5] (fun iv wr => ∃ k : Nat, k ≤ k1 ∧ iv = .int .i64 ((k : Int) - 1) ∧ Hid ((digs B64 m).drop k = (digs B64 n).drop k) ∧ Below w.heap.size w wr) (fun iv _ => (intOf iv + 1).toNat)
  case atStart => exact ⟨k1, Nat.le_refl _, rfl, by show _ = _; rw [List.drop_of_length_le (by rw [E1.out]; exact Nat.le_refl _), List.drop_of_length_le (by rw [E2.out]; exact Nat.le_refl _)], Below.refl _ _⟩
  case round =>
   obtain ⟨k, hk, rfl, HD, hbel⟩ := hrel
   have HBEL := h0d hbel
   clear hbel
   by_cases hk0 : k = 0
   ·have hneg : ¬ ((k : Int) - 1 ≥ 0) := by omega
    have HQ : Hid (r = 0) := by
     show _ = _; rw [HR.out]
     refine cmpN_eq (digs_inj B64_2 ?_)
     have := HD.out
     rw [hk0, List.drop_zero, List.drop_zero] at this
     exact this
    clear hk0
    go_wp2_with fail
    go_ret
    exact ⟨by rw [HQ.out]; rfl, HBEL.out⟩
   ·obtain ⟨j, rfl⟩ : ∃ j, k = j + 1 := ⟨k - 1, by omega⟩
    have hj : (((j + 1 : Nat) : Int) - 1) = (j : Int) := by omega
    rw [hj]
    obtain ⟨b1, f1, x, rfl, hl1, hx, hcx⟩ := HC1.out j (by omega)
    obtain ⟨b2, f2, y, rfl, hl2, hy, hcy⟩ := HC2.out j (by omega)
    have hxB := HLT1.out x (List.mem_of_getElem? hx)
    have hyB := HLT2.out y (List.mem_of_getElem? hy)
    have hji : (j : Int) < (k1 : Int) := by omega
    have hj0 : (0 : Int) ≤ (j : Int) := by omega
    have HCL : Hid (∀ w', Below w.heap.size w w' → w'.cell? ⟨b1, f1 + j, none⟩ = some (.int .u64 (x : Int)) ∧ w'.cell? ⟨b2, f2 + j, none⟩ = some (.int .u64 (y : Int))) := fun w' h =>
     ⟨(h.cell (p := ⟨b1, _, none⟩) hl1).trans hcx, (h.cell (p := ⟨b2, _, none⟩) hl2).trans hcy⟩
    have HBD : Hid (Below w.heap.size w wr.drew) := HBEL.out.drew
    have HBD2 : Hid (Below w.heap.size w wr.drew.drew) := HBEL.out.drew.drew
    have HLS : Hid (x < y → r = -1) := fun h => by
     rw [HR.out]
     refine cmpN_lt ?_
     rw [← val_digs B64_2 m, ← val_digs B64_2 n]
     exact val_le_of B64_2 (by rw [E1.out, E2.out]) hx hy HLT1.out HD.out h
    have HGT : Hid (y < x → r = 1) := fun h => by
     rw [HR.out]
     refine cmpN_gt ?_
     rw [← val_digs B64_2 m, ← val_digs B64_2 n]
     exact val_le_of B64_2 (by rw [E1.out, E2.out]) hy hx HLT2.out HD.out.symm h
    have HEQ : Hid (x = y → (digs B64 m).drop j = (digs B64 n).drop j) := fun h => by
     subst h
     obtain ⟨h1, h2⟩ := List.getElem?_eq_some_iff.1 hx
     obtain ⟨h3, h4⟩ := List.getElem?_eq_some_iff.1 hy
     rw [List.drop_eq_getElem_cons h1, List.drop_eq_getElem_cons h3, HD.out, h2, h4]
    clear hx hy hcx hcy hj hk0 hxB hyB
    rcases Nat.lt_trichotomy x y with h | h | h
    ·have hb1 : decide (x < y) = true := decide_eq_true h
     have HQ := h0d (HLS.out h)
     clear h
     go_wp2_with fail
     refine seq_start (S := fun w' => w'.cell? ⟨b1, f1 + j, none⟩ = some (.int .u64 (x : Int)) ∧ w'.cell? ⟨b2, f2 + j, none⟩ = some (.int .u64 (y : Int))) (by kernel_rfl) (by kernel_rfl) (by exact HCL.out _ HBD.out) ?_
     repeat (first | refine tk0 (h := ?_) | refine tkG (h := ?_) | refine skG (h := ?_))
     refine seq_done (by kernel_rfl) ?_
     go_wp2_with fail
     go_ret
     exact ⟨by rw [HQ.out]; rfl, HBD.out⟩
    ·have hb1 : decide (x < y) = false := decide_eq_false (by omega)
     have hb2 : decide (y < x) = false := decide_eq_false (by omega)
     have HQ := h0d (HEQ.out h)
     clear h
     go_wp2_with fail
     refine seq_start (S := fun w' => w'.cell? ⟨b1, f1 + j, none⟩ = some (.int .u64 (x : Int)) ∧ w'.cell? ⟨b2, f2 + j, none⟩ = some (.int .u64 (y : Int))) (by kernel_rfl) (by kernel_rfl) (by exact HCL.out _ HBD.out) ?_
     repeat (first | refine tk0 (h := ?_) | refine tkG (h := ?_) | refine skG (h := ?_))
     refine seq_done (by kernel_rfl) ?_
     go_wp2_with fail
     refine seq_start (S := fun w' => w'.cell? ⟨b1, f1 + j, none⟩ = some (.int .u64 (x : Int)) ∧ w'.cell? ⟨b2, f2 + j, none⟩ = some (.int .u64 (y : Int))) (by kernel_rfl) (by kernel_rfl) (by exact HCL.out _ HBD2.out) ?_
     repeat (first | refine tk0 (h := ?_) | refine tkG (h := ?_) | refine skG (h := ?_))
     refine seq_done (by kernel_rfl) ?_
     go_wp2_with fail
     go_roundw
     case rel => exact ⟨j, by omega, rfl, HQ.out, HBD2.out⟩
     case measure => simp [intOf]
    ·have hb1 : decide (x < y) = false := decide_eq_false (by omega)
     have hb2 : decide (y < x) = true := decide_eq_true h
     have HQ := h0d (HGT.out h)
     clear h
     go_wp2_with fail
     refine seq_start (S := fun w' => w'.cell? ⟨b1, f1 + j, none⟩ = some (.int .u64 (x : Int)) ∧ w'.cell? ⟨b2, f2 + j, none⟩ = some (.int .u64 (y : Int))) (by kernel_rfl) (by kernel_rfl) (by exact HCL.out _ HBD.out) ?_
     repeat (first | refine tk0 (h := ?_) | refine tkG (h := ?_) | refine skG (h := ?_))
     refine seq_done (by kernel_rfl) ?_
     go_wp2_with fail
     refine seq_start (S := fun w' => w'.cell? ⟨b1, f1 + j, none⟩ = some (.int .u64 (x : Int)) ∧ w'.cell? ⟨b2, f2 + j, none⟩ = some (.int .u64 (y : Int))) (by kernel_rfl) (by kernel_rfl) (by exact HCL.out _ HBD2.out) ?_
     repeat (first | refine tk0 (h := ?_) | refine tkG (h := ?_) | refine skG (h := ?_))
     refine seq_done (by kernel_rfl) ?_
     go_wp2_with fail
     go_ret
     exact ⟨by rw [HQ.out]; rfl, HBD2.out⟩
 ·have hkb : ((k1 : Int) != (k2 : Int)) = true := by simp; omega
  by_cases hlt : k1 < k2
  ·have hki : (k1 : Int) < (k2 : Int) := by omega
   have HQ : Hid (r = -1) := by show _ = _; rw [HR.out]; exact cmpN_lt (len_lt_val B64_2 (by rw [E1.out, E2.out]; exact hlt))
   clear hk
   go_enter Tryz.func127, Tryz.ntmps127
   go_wp2_with fail
   go_ret
   exact ⟨by rw [HQ.out]; rfl, Below.refl _ _⟩
  ·have hki : ¬ ((k1 : Int) < (k2 : Int)) := by omega
   have HQ : Hid (r = 1) := by show _ = _; rw [HR.out]; exact cmpN_gt (len_lt_val B64_2 (by rw [E1.out, E2.out]; omega))
   clear hk
   go_enter Tryz.func127, Tryz.ntmps127
   go_wp2_with fail
   go_ret
   exact ⟨by rw [HQ.out]; rfl, Below.refl _ _⟩
end Go.Proofs.YtodckaioeomccaaGreat
