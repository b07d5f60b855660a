/- Walks of the reference's natural numbers: cut, Nat, Order. Walks of the reference's natural numbers: Order, Sum, Difference. Walks of the reference's natural numbers: Difference, byWord. Walks of the reference's natural numbers: Product, byWord. Walks of the reference's natural numbers: Bits, Raised, Lowered. -/
import Derived.Test.YtodckaioeomccaaGreatPart22
import Derived.Test.YtodckaioeomccaaGreatPart03
namespace Go.Proofs.YtodckaioeomccaaGreat
open Go.RowKit
set_option linter.unusedVariables false
set_option linter.unusedSimpArgs false
def B32 : Nat := 4294967296
theorem B32_2 : 2 ≤ B32 := by unfold B32; omega
def u32V (k : Nat) : Value := .int .u32 (k : Int)
def RdV (w : World) (v : Value) (xs : List Nat) : Prop := Rd u32V w (fun _ => True) v xs
def RdM (w : World) (v : Value) (n : Nat) : Prop := RdV w v (digs B32 n)
theorem RdM.below {w w' : World} {v : Value} {n : Nat} (h : RdM w v n) (hb : Below w.heap.size w w') : RdM w' v n := Rd.below h hb
theorem RdM.slice {w : World} {v : Value} {n : Nat} (h : RdM w v n) : ∃ A k c, v = .slice A k c := let ⟨A, c, h1, _⟩ := h; ⟨A, _, c, h1⟩
theorem RdM.nil_ (w : World) : RdM w (.slice none 0 0) 0 := by unfold RdM; rw [digs_zero]; exact Rd.none_ _ _ _
theorem RdV.open_ {w : World} {v : Value} {xs : List Nat} (h : RdV w v xs) :
  ∃ A n cap, v = .slice A n cap ∧ xs.length = n ∧ n ≤ cap ∧ n ≤ 9223372036854775807 ∧ cap ≤ maxLen ∧
   (∀ k, k < n → ∃ b off x, A = some ⟨b, off, none⟩ ∧ b < w.heap.size ∧ xs[k]? = some x ∧ w.cell? ⟨b, off + k, none⟩ = some (.int .u32 (x : Int))) := by
 have h0 := Rd.lt h
 obtain ⟨A, cap, rfl, h1, h2, h3⟩ := h0
 refine ⟨A, xs.length, cap, rfl, rfl, h1, by unfold maxLen at h2; omega, h2, fun k hk => ?_⟩
 obtain ⟨b, off, rfl, hb, hc⟩ := h3 (fun e => by subst e; simp at hk)
 exact ⟨b, off, xs[k], rfl, hb.2, List.getElem?_eq_getElem hk, hc k hk⟩
def RdMS (w : World) (S : Nat → Prop) (v : Value) (n : Nat) : Prop := Rd u32V w S v (digs B32 n)
theorem RdMS.all {w : World} {S : Nat → Prop} {v : Value} {n : Nat} (h : RdMS w S v n) : RdM w v n := Rd.mono h fun _ _ => trivial
theorem RdMS.below {w w' : World} {S : Nat → Prop} {v : Value} {n : Nat} (h : RdMS w S v n) (hb : Below w.heap.size w w') : RdMS w' S v n := Rd.below h hb
theorem Rd.take32 {w : World} {S : Nat → Prop} {A : Option Addr} {n cap : Nat} {xs : List Nat} (h : Rd u32V w S (.slice A n cap) xs) {k : Nat} (hk : k ≤ n) : Rd u32V w S (.slice A k cap) (xs.take k) := by
 obtain ⟨A', cap', he, h1, h2, h3⟩ := h
 simp only [Value.slice.injEq] at he
 obtain ⟨rfl, rfl, rfl⟩ := he
 have hl : (xs.take k).length = k := by simp; omega
 refine ⟨A, cap, by rw [hl], by omega, h2, fun hn => ?_⟩
 obtain ⟨b, off, rfl, hb, hc⟩ := h3 (fun e => hn (by rw [e]; simp))
 refine ⟨b, off, rfl, hb, fun i hi => ?_⟩
 rw [hc i (by omega), List.getElem_take]
def dm (n : Nat) : Nat := (digs B32 n).length
theorem dm_add (m n : Nat) : dm (m + n) ≤ max (dm m) (dm n) + 1 := len_add B32_2
theorem dm_mul (m n : Nat) : dm (m * n) ≤ dm m + dm n := len_mul B32_2
theorem dm_mono {m n : Nat} (h : m ≤ n) : dm m ≤ dm n := len_mono B32_2 h
theorem dm_zero : dm 0 = 0 := by unfold dm; rw [digs_zero]; rfl
theorem dm_pos {n : Nat} (h : n ≠ 0) : 0 < dm n := by
 rcases Nat.eq_zero_or_pos (dm n) with h0 | h0
 ·exact absurd ((digs_nil B32_2).1 (List.length_eq_zero_iff.1 h0)) h
 ·exact h0
theorem dm_le_iff (n k : Nat) : dm n ≤ k ↔ n < B32 ^ k := len_le_iff B32_2 n k
theorem dm_dl (n : Nat) : dm n ≤ 2 * dl n := by
 have h := (dl_le_iff n (dl n)).1 (Nat.le_refl _)
 rw [dm_le_iff, Nat.pow_mul]
 have : B32 ^ 2 = B64 := by unfold B32 B64; decide
 rw [this]; exact h
set_option maxRecDepth 100000 in
set_option maxHeartbeats 1000000 in
theorem rcut_anyS (S : Nat → Prop) (v : Value) (xs : List Nat) (w : World) (h : Rd u32V w S v xs) :
  Calls Tryz.prog 245 #[v] w fun e w' => (∃ v', e = .returned v' ∧ Rd u32V w' S v' (xs.take (cutN xs xs.length))) ∧ w = w' := by
 have HV := h0d h
 obtain ⟨A, n, cap, rfl, hn, hcap, hmax, hcm, hc⟩ := RdV.open_ (h.mono (S' := fun _ => True) fun _ _ => trivial)
 rw [hn]
 have HC := h0d hc
 have HN := h0d hn
 clear hn hc h
 go_enter Tryz.func245, Tryz.ntmps245
 go_wp2_with fail
 go_loop [3] (fun v0 => ∃ k : Nat, k ≤ n ∧ v0 = .int .i64 (k : Int) ∧ Hid (cutN xs n = cutN xs k)) (fun v0 => (intOf v0).toNat)
 case atStart => exact ⟨n, Nat.le_refl _, rfl, rfl⟩
 case round =>
  obtain ⟨k, hk, rfl, HK⟩ := hrel
  by_cases h0 : k = 0
  ·have HZ : Hid (cutN xs n = 0) := by show _ = _; rw [HK.out, h0]; rfl
   subst h0
   clear HK
   go_wp2_with fail
   go_ret
   rw [HZ.out]
   exact ⟨⟨_, rfl, HV.out.take32 (Nat.zero_le _)⟩, rfl⟩
  ·obtain ⟨j, rfl⟩ : ∃ j, k = j + 1 := ⟨k - 1, by omega⟩
   obtain ⟨b, off, x, rfl, hb, hx, hcell⟩ := HC.out j (by omega)
   have HS := h0d (cutN_step xs hx)
   have hpos : (0 : Int) < ((j + 1 : Nat) : Int) := by omega
   have hj : (((j + 1 : Nat) : Int) - 1) = (j : Int) := by omega
   have hj2 : ((j : Int) + 1 - 1) = (j : Int) := by omega
   have hjn : (j : Int) < (n : Int) := by omega
   clear hx h0
   by_cases hx0 : x = 0
   ·have HQ : Hid (cutN xs n = cutN xs j) := by show _ = _; rw [HK.out, HS.out, if_pos hx0]
    have hxb : ((x : Int) == 0) = true := by simp [hx0]
    clear hx0 HK HS
    go_wp2_with fail
    go_round
    case rel => exact ⟨j, by omega, by go_num, HQ.out⟩
    case measure => simp [intOf]
   ·have HQ : Hid (cutN xs n = j + 1) := by show _ = _; rw [HK.out, HS.out, if_neg hx0]
    have hxb : ((x : Int) == 0) = false := by simp; omega
    clear hx0 HK HS
    go_wp2_with fail
    go_ret
    rw [HQ.out]
    exact ⟨⟨_, rfl, HV.out.take32 hk⟩, rfl⟩
theorem cutN_all32 {xs : List Nat} (h : ∀ x ∈ xs, x < B32) : xs.take (cutN xs xs.length) = digs B32 (val B32 xs) := by
 have := cutN_digs B32_2 h xs.length (Nat.le_refl _)
 rwa [List.take_length] at this
theorem rcut_any (v : Value) (xs : List Nat) (w : World) (h : RdV w v xs) :
  Calls Tryz.prog 245 #[v] w fun e w' => (∃ v', e = .returned v' ∧ RdV w' v' (xs.take (cutN xs xs.length))) ∧ w = w' := rcut_anyS _ v xs w h
theorem rcut_numS (S : Nat → Prop) (v : Value) (xs : List Nat) (w : World) (h : Rd u32V w S v xs) (hx : ∀ x ∈ xs, x < B32) :
  Calls Tryz.prog 245 #[v] w fun e w' => (∃ v', e = .returned v' ∧ RdMS w' S v' (val B32 xs)) ∧ w = w' :=
 (rcut_anyS S v xs w h).mono fun e w' ⟨⟨v', h1, h2⟩, h3⟩ => ⟨⟨v', h1, by unfold RdMS; rw [← cutN_all32 hx]; exact h2⟩, h3⟩
theorem rcut_num (v : Value) (xs : List Nat) (w : World) (h : RdV w v xs) (hx : ∀ x ∈ xs, x < B32) :
  Calls Tryz.prog 245 #[v] w fun e w' => (∃ v', e = .returned v' ∧ RdM w' v' (val B32 xs)) ∧ w = w' :=
 (rcut_any v xs w h).mono fun e w' ⟨⟨v', h1, h2⟩, h3⟩ => ⟨⟨v', h1, by unfold RdM; rw [← cutN_all32 hx]; exact h2⟩, h3⟩
set_option maxRecDepth 100000 in
set_option maxHeartbeats 1000000 in
theorem rnat_any (n : Nat) (w : World) (hn : n < B64) :
  Calls Tryz.prog 188 #[.int .u64 (n : Int)] w fun e w' => (∃ v', e = .returned v' ∧ RdM w' v' n) ∧ Below w.heap.size w w' := by
 obtain ⟨lo, hlo⟩ : ∃ x, x = n % B32 := ⟨_, rfl⟩
 obtain ⟨hi, hhi⟩ : ∃ x, x = n / B32 := ⟨_, rfl⟩
 have hcm : (2 : Nat) ≤ maxLen := by unfold maxLen; omega
 have hloB : lo < B32 := by rw [hlo]; exact Nat.mod_lt _ (by unfold B32; omega)
 have hhiB : hi < B32 := by rw [hhi]; unfold B32 B64 at *; omega
 have HR : Hid (RdV (w.alloc (.cells #[.int .u32 (lo : Int), .int .u32 (hi : Int)] 271)) (.slice (some ⟨w.heap.size, 0, none⟩) 2 2) [lo, hi]) :=
  ⟨_, 2, rfl, Nat.le_refl _, hcm, fun _ => ⟨_, _, rfl, trivial, fun i hi' => by
   rcases (show i = 0 ∨ i = 1 by simp at hi'; omega) with rfl | rfl
   ·exact cell_of_row _ _ 0 _ _ _ (heap_alloc_new w _)
   ·exact cell_of_row _ _ 1 _ _ _ (heap_alloc_new w _)⟩⟩
 have HC := h0d (rcut_num _ [lo, hi] _ HR.out (fun x hx => by
  rcases (show x = lo ∨ x = hi by simpa using hx) with rfl | rfl
  ·exact hloB
  ·exact hhiB))
 have hval : val B32 [lo, hi] = n := by
  simp only [val]
  rw [hlo, hhi]; unfold B32; omega
 rw [hval] at HC
 have hc1 : IntKind.u32.wrap (n : Int) = (lo : Int) := by rw [IntKind.wrap_u32, hlo]; unfold B32; omega
 have hs1 : (n : Int) / 4294967296 = (hi : Int) := by rw [hhi]; unfold B32; omega
 have hc2 : IntKind.u32.wrap (hi : Int) = (hi : Int) := by rw [IntKind.wrap_u32]; unfold B32 at hhiB; omega
 clear hn hcm hval hlo hhi hloB hhiB
 go_enter Tryz.func188, Tryz.ntmps188
 go_wp2_with fail
 refine HC.out.mono ?_
 rintro e w2 ⟨⟨v', rfl, hr⟩, rfl⟩
 have HR2 := h0d hr
 clear hr
 go_wp2_with fail
 go_ret
 exact ⟨⟨_, rfl, HR2.out⟩, (Below.refl _ w).alloc (Nat.le_refl _) _⟩
end Go.Proofs.YtodckaioeomccaaGreat
namespace Go.Proofs.YtodckaioeomccaaGreat
open Go.RowKit
set_option linter.unusedVariables false
set_option linter.unusedSimpArgs false
set_option maxRecDepth 100000 in
set_option maxHeartbeats 2000000 in
theorem rorder_any (va vb : Value) (m n : Nat) (w : World) (ha : RdM w va m) (hb : RdM w vb n) :
  Calls Tryz.prog 190 #[va, vb] w fun e w' => e = .returned (.int .i64 (cmpN m n)) ∧ Below w.heap.size w w' := by
 obtain ⟨A1, k1, c1, rfl, e1, _, _, _, hc1⟩ := RdV.open_ ha
 obtain ⟨A2, k2, c2, rfl, e2, _, _, _, hc2⟩ := RdV.open_ hb
 obtain ⟨r, hr⟩ : ∃ r, r = cmpN m n := ⟨_, rfl⟩
 rw [← hr]
 have HR := h0d hr
 have HC1 := h0d hc1
 have HC2 := h0d hc2
 have hlt1 := digs_lt B32_2 m
 have hlt2 := digs_lt B32_2 n
 have E1 := h0d e1
 have E2 := h0d e2
 have HLT1 := h0d hlt1
 have HLT2 := h0d hlt2
 clear ha hb hc1 hc2 hr hlt1 hlt2 e1 e2
 by_cases hk : k1 = k2
 ·subst hk
  go_enter Tryz.func190, Tryz.ntmps190
  go_wp2_with fail
  go_loopw [5] (fun iv wr => ∃ k : Nat, k ≤ k1 ∧ iv = .int .i64 ((k : Int) - 1) ∧ Hid ((digs B32 m).drop k = (digs B32 n).drop k) ∧ Below w.heap.size w wr) (fun iv _ => (intOf iv + 1).toNat)
  case atStart => exact ⟨k1, Nat.le_refl _, rfl, by show _ = _; rw [List.drop_of_length_le (by rw [E1.out]; exact Nat.le_refl _), List.drop_of_length_le (by rw [E2.out]; exact Nat.le_refl _)], Below.refl _ _⟩
  case round =>
   obtain ⟨k, hk, rfl, HD, hbel⟩ := hrel
   have HBEL := h0d hbel
   clear hbel
   by_cases hk0 : k = 0
   ·have hneg : ¬ ((k : Int) - 1 ≥ 0) := by omega
    have HQ : Hid (r = 0) := by
     show _ = _; rw [HR.out]
     refine cmpN_eq (digs_inj B32_2 ?_)
     have := HD.out
     rw [hk0, List.drop_zero, List.drop_zero] at this
     exact this
    clear hk0
    go_wp2_with fail
    go_ret
    exact ⟨by rw [HQ.out]; rfl, HBEL.out⟩
   ·obtain ⟨j, rfl⟩ : ∃ j, k = j + 1 := ⟨k - 1, by omega⟩
    have hj : (((j + 1 : Nat) : Int) - 1) = (j : Int) := by omega
    rw [hj]
    obtain ⟨b1, f1, x, rfl, hl1, hx, hcx⟩ := HC1.out j (by omega)
    obtain ⟨b2, f2, y, rfl, hl2, hy, hcy⟩ := HC2.out j (by omega)
    have hxB := HLT1.out x (List.mem_of_getElem? hx)
    have hyB := HLT2.out y (List.mem_of_getElem? hy)
    have hji : (j : Int) < (k1 : Int) := by omega
    have hj0 : (0 : Int) ≤ (j : Int) := by omega
    have HCL : Hid (∀ w', Below w.heap.size w w' → w'.cell? ⟨b1, f1 + j, none⟩ = some (.int .u32 (x : Int)) ∧ w'.cell? ⟨b2, f2 + j, none⟩ = some (.int .u32 (y : Int))) := fun w' h =>
     ⟨(h.cell (p := ⟨b1, _, none⟩) hl1).trans hcx, (h.cell (p := ⟨b2, _, none⟩) hl2).trans hcy⟩
    have HBD : Hid (Below w.heap.size w wr.drew) := HBEL.out.drew
    have HBD2 : Hid (Below w.heap.size w wr.drew.drew) := HBEL.out.drew.drew
    have HLS : Hid (x < y → r = -1) := fun h => by
     rw [HR.out]
     refine cmpN_lt ?_
     rw [← val_digs B32_2 m, ← val_digs B32_2 n]
     exact val_le_of B32_2 (by rw [E1.out, E2.out]) hx hy HLT1.out HD.out h
    have HGT : Hid (y < x → r = 1) := fun h => by
     rw [HR.out]
     refine cmpN_gt ?_
     rw [← val_digs B32_2 m, ← val_digs B32_2 n]
     exact val_le_of B32_2 (by rw [E1.out, E2.out]) hy hx HLT2.out HD.out.symm h
    have HEQ : Hid (x = y → (digs B32 m).drop j = (digs B32 n).drop j) := fun h => by
     subst h
     obtain ⟨h1, h2⟩ := List.getElem?_eq_some_iff.1 hx
     obtain ⟨h3, h4⟩ := List.getElem?_eq_some_iff.1 hy
     rw [List.drop_eq_getElem_cons h1, List.drop_eq_getElem_cons h3, HD.out, h2, h4]
    clear hx hy hcx hcy hj hk0 hxB hyB
    rcases Nat.lt_trichotomy x y with h | h | h
    ·have hb1 : decide (x < y) = true := decide_eq_true h
     have HQ := h0d (HLS.out h)
     clear h
     go_wp2_with fail
     refine seq_start (S := fun w' => w'.cell? ⟨b1, f1 + j, none⟩ = some (.int .u32 (x : Int)) ∧ w'.cell? ⟨b2, f2 + j, none⟩ = some (.int .u32 (y : Int))) (by kernel_rfl) (by kernel_rfl) (by exact HCL.out _ HBD.out) ?_
     repeat (first | refine tk0 (h := ?_) | refine tkG (h := ?_) | refine skG (h := ?_))
     refine seq_done (by kernel_rfl) ?_
     go_wp2_with fail
     go_ret
     exact ⟨by rw [HQ.out]; rfl, HBD.out⟩
    ·have hb1 : decide (x < y) = false := decide_eq_false (by omega)
     have hb2 : decide (y < x) = false := decide_eq_false (by omega)
     have HQ := h0d (HEQ.out h)
     clear h
     go_wp2_with fail
     refine seq_start (S := fun w' => w'.cell? ⟨b1, f1 + j, none⟩ = some (.int .u32 (x : Int)) ∧ w'.cell? ⟨b2, f2 + j, none⟩ = some (.int .u32 (y : Int))) (by kernel_rfl) (by kernel_rfl) (by exact HCL.out _ HBD.out) ?_
     repeat (first | refine tk0 (h := ?_) | refine tkG (h := ?_) | refine skG (h := ?_))
     refine seq_done (by kernel_rfl) ?_
     go_wp2_with fail
     refine seq_start (S := fun w' => w'.cell? ⟨b1, f1 + j, none⟩ = some (.int .u32 (x : Int)) ∧ w'.cell? ⟨b2, f2 + j, none⟩ = some (.int .u32 (y : Int))) (by kernel_rfl) (by kernel_rfl) (by exact HCL.out _ HBD2.out) ?_
     repeat (first | refine tk0 (h := ?_) | refine tkG (h := ?_) | refine skG (h := ?_))
     refine seq_done (by kernel_rfl) ?_
     go_wp2_with fail
     go_roundw
     case rel => exact ⟨j, by omega, rfl, HQ.out, HBD2.out⟩
     case measure => simp [intOf]
    ·have hb1 : decide (x < y) = false := decide_eq_false (by omega)
     have hb2 : decide (y < x) = true := decide_eq_true h
     have HQ := h0d (HGT.out h)
     clear h
     go_wp2_with fail
     refine seq_start (S := fun w' => w'.cell? ⟨b1, f1 + j, none⟩ = some (.int .u32 (x : Int)) ∧ w'.cell? ⟨b2, f2 + j, none⟩ = some (.int .u32 (y : Int))) (by kernel_rfl) (by kernel_rfl) (by exact HCL.out _ HBD.out) ?_
     repeat (first | refine tk0 (h := ?_) | refine tkG (h := ?_) | refine skG (h := ?_))
     refine seq_done (by kernel_rfl) ?_
     go_wp2_with fail
     refine seq_start (S := fun w' => w'.cell? ⟨b1, f1 + j, none⟩ = some (.int .u32 (x : Int)) ∧ w'.cell? ⟨b2, f2 + j, none⟩ = some (.int .u32 (y : Int))) (by kernel_rfl) (by kernel_rfl) (by exact HCL.out _ HBD2.out) ?_
     repeat (first | refine tk0 (h := ?_) | refine tkG (h := ?_) | refine skG (h := ?_))
     refine seq_done (by kernel_rfl) ?_
     go_wp2_with fail
     go_ret
     exact ⟨by rw [HQ.out]; rfl, HBD2.out⟩
 ·by_cases hlt : k1 < k2
  ·have hki : (k1 : Int) < (k2 : Int) := by omega
   have HQ : Hid (r = -1) := by show _ = _; rw [HR.out]; exact cmpN_lt (len_lt_val B32_2 (by rw [E1.out, E2.out]; exact hlt))
   clear hk
   go_enter Tryz.func190, Tryz.ntmps190
   go_wp2_with fail
   go_ret
   exact ⟨by rw [HQ.out]; rfl, Below.refl _ _⟩
  ·have hki : ¬ ((k1 : Int) < (k2 : Int)) := by omega
   have HQ : Hid (r = 1) := by show _ = _; rw [HR.out]; exact cmpN_gt (len_lt_val B32_2 (by rw [E1.out, E2.out]; omega))
   have hgt : k2 < k1 := by omega
   clear hk
   go_enter Tryz.func190, Tryz.ntmps190
   go_wp2_with fail
   go_ret
   exact ⟨by rw [HQ.out]; rfl, Below.refl _ _⟩
theorem info119 : (Tryz.prog.info? 271).map (fun i => (i.zero, i.size, i.bytes)) = some (some (.int .u32 0), 1, 4) := by kernel_rfl
def OwnV (w : World) (B : Nat) (v : Value) (xs : List Nat) : Prop := w.ownsRow B 271 1 v xs.length (xs.map u32V)
theorem OwnV.rd {w : World} {B : Nat} {v : Value} {xs : List Nat} (h : OwnV w B v xs) : RdV w v xs := (Rd.of_own (f := u32V) (xs := xs) h).mono fun _ _ => trivial
theorem OwnV.rdS {w : World} {B : Nat} {v : Value} {xs : List Nat} (h : OwnV w B v xs) : Rd u32V w (B ≤ ·) v xs := Rd.of_own (f := u32V) (xs := xs) h
theorem OwnV.made (w : World) : OwnV (w.alloc (.cells #[] 271)) w.heap.size (.slice (some ⟨w.heap.size, 0, none⟩) 0 0) [] := World.ownsRow_made w #[] 0 (Nat.le_refl _) (by decide) rfl
theorem OwnV.slice {w : World} {B : Nat} {v : Value} {xs : List Nat} (h : OwnV w B v xs) : ∃ A c, v = .slice A xs.length c := ownsRow_slice h
theorem getD_lt32 (n k : Nat) : (digs B32 n).getD k 0 < B32 := by
 by_cases h : k < (digs B32 n).length
 ·have e := List.getElem?_eq_getElem h
  rw [getD_of e]; exact digs_lt B32_2 n _ (List.getElem_mem h)
 ·rw [List.getD_eq_getElem?_getD, List.getElem?_eq_none (by omega)]; unfold B32; simp
theorem rsum_step {O am bn : List Nat} {k c B : Nat} (hk : O.length = k) (hB : 0 < B)
  (h : val B O + c * B ^ k = val B (am.take k) + val B (bn.take k)) :
  val B (O ++ [(c + am.getD k 0 + bn.getD k 0) % B]) + ((c + am.getD k 0 + bn.getD k 0) / B) * B ^ (k + 1) = val B (am.take (k + 1)) + val B (bn.take (k + 1)) := by
 obtain ⟨s, hs⟩ : ∃ s, s = c + am.getD k 0 + bn.getD k 0 := ⟨_, rfl⟩
 rw [← hs, val_append, val_one, val_take_getD B am, val_take_getD B bn, hk, Nat.pow_succ]
 have e := Nat.div_add_mod s B
 have e2 : B ^ k * (s % B) + s / B * (B ^ k * B) = s * B ^ k := by
  conv => rhs; rw [← e, Nat.add_mul, Nat.mul_comm (s % B)]
  rw [Nat.add_comm, Nat.mul_comm (B ^ k) B, ← Nat.mul_assoc, Nat.mul_comm (s / B) B]
 have e3 : s * B ^ k = c * B ^ k + am.getD k 0 * B ^ k + bn.getD k 0 * B ^ k := by rw [hs, Nat.add_mul, Nat.add_mul]
 omega
set_option maxRecDepth 100000 in
set_option maxHeartbeats 8000000 in
theorem rsum_any (va vb : Value) (m n : Nat) (w : World) (ha : RdM w va m) (hb : RdM w vb n) (hm : dm m ≤ 2000000) (hn : dm n ≤ 2000000) :
  Calls Tryz.prog 203 #[va, vb] w fun e w' => (∃ v', e = .returned v' ∧ RdM w' v' (m + n)) ∧ Below w.heap.size w w' := by
 obtain ⟨i0, hi0, hz0, hz1, hz2⟩ := info_parts info119
 obtain ⟨A1, k1, c1, rfl, e1, hk1, _, hm1, hc1⟩ := RdV.open_ ha
 obtain ⟨A2, k2, c2, rfl, e2, hk2, _, hm2, hc2⟩ := RdV.open_ hb
 have hk16 : k1 ≤ 2000000 := by unfold dm at hm; omega
 have hk26 : k2 ≤ 2000000 := by unfold dm at hn; omega
 have HE1 := h0d e1
 have HE2 := h0d e2
 have HC1 := h0d hc1
 have HC2 := h0d hc2
 clear ha hb hm hn e1 e2 hc1 hc2
 go_enter Tryz.func203, Tryz.ntmps203
 go_wp2_with fail
 go_loopw [5, 6, 7] (fun ov cv iv wr => ∃ (k c : Nat) (O : List Nat), (k ≤ k1 ∨ k ≤ k2) ∧ c ≤ 1 ∧ cv = .int .u64 (c : Int) ∧ iv = .int .i64 (k : Int) ∧ Hid (O.length = k) ∧ Hid (∀ x ∈ O, x < B32) ∧ Hid (OwnV wr w.heap.size ov O) ∧ Hid (Below w.heap.size w wr) ∧ Hid (val B32 O + c * B32 ^ k = val B32 ((digs B32 m).take k) + val B32 ((digs B32 n).take k))) (fun _ _ iv _ => max k1 k2 - (intOf iv).toNat)
 case atStart => exact ⟨0, 0, [], .inl (Nat.zero_le _), Nat.zero_le _, rfl, rfl, rfl, (by show ∀ x ∈ ([] : List Nat), x < B32; intro x hx; cases hx), OwnV.made w, (Below.refl _ w).alloc (Nat.le_refl _) _, rfl⟩
 case round =>
  obtain ⟨k, c, O, hk, hc, rfl, rfl, HOL, HOX, HOW, HBEL, HV⟩ := hrel
  obtain ⟨A5, c5, rfl⟩ := HOW.out.slice
  rw [HOL.out]
  by_cases hlk : k < k1 ∨ k < k2
  ·have hst := rsum_step (B := B32) (am := digs B32 m) (bn := digs B32 n) HOL.out (by unfold B32; omega) HV.out
   obtain ⟨x, hx⟩ : ∃ x, x = (digs B32 m).getD k 0 := ⟨_, rfl⟩
   obtain ⟨y, hy⟩ : ∃ y, y = (digs B32 n).getD k 0 := ⟨_, rfl⟩
   have hxB : x < B32 := by rw [hx]; exact getD_lt32 m k
   have hyB : y < B32 := by rw [hy]; exact getD_lt32 n k
   rw [← hx, ← hy] at hst
   obtain ⟨s, hs⟩ : ∃ s, s = (c + x + y) % B32 := ⟨_, rfl⟩
   obtain ⟨t, ht⟩ : ∃ t, t = (c + x + y) / B32 := ⟨_, rfl⟩
   rw [← hs, ← ht] at hst
   have hsB : s < B32 := by rw [hs]; exact Nat.mod_lt _ (by unfold B32; omega)
   have ht1 : t ≤ 1 := by rw [ht]; unfold B32 at *; omega
   have hw0 : IntKind.u64.wrap (x : Int) = (x : Int) := wrap_nat x (by unfold B32 at hxB; omega)
   have hw0y : IntKind.u64.wrap (y : Int) = (y : Int) := wrap_nat y (by unfold B32 at hyB; omega)
   obtain ⟨p, hp⟩ : ∃ p, p = c + x := ⟨_, rfl⟩
   have hw1 : IntKind.u64.wrap ((c : Int) + (x : Int)) = (p : Int) := by rw [hp, ← Int.natCast_add]; exact wrap_nat _ (by unfold B32 at hxB; omega)
   obtain ⟨q, hq⟩ : ∃ q, q = p + y := ⟨_, rfl⟩
   have hw2 : IntKind.u64.wrap ((p : Int) + (y : Int)) = (q : Int) := by rw [hq, ← Int.natCast_add]; exact wrap_nat _ (by unfold B32 at hxB hyB; omega)
   have hq' : q = c + x + y := by rw [hq, hp]
   have hc32 : IntKind.u32.wrap (q : Int) = (s : Int) := by rw [IntKind.wrap_u32, hs, hq']; unfold B32; omega
   have hsh : (q : Int) / 4294967296 = (t : Int) := by rw [ht, hq']; unfold B32; omega
   have HST := h0d hst
   have HSB := h0d hsB
   have hkm : k ≤ 2000000 := by omega
   by_cases hA : k < k1
   ·by_cases hBk : k < k2
    ·obtain ⟨b1, f1, x', rfl, hb1, hx', hcx⟩ := HC1.out k hA
     obtain rfl : x' = x := by rw [hx, getD_of hx']
     have hcx' := (HBEL.out.cell (p := ⟨b1, f1 + k, none⟩) hb1).trans hcx
     obtain ⟨b2, f2, y', rfl, hb2, hy', hcy⟩ := HC2.out k hBk
     obtain rfl : y' = y := by rw [hy, getD_of hy']
     have hcy' := (HBEL.out.cell (p := ⟨b2, f2 + k, none⟩) hb2).trans hcy
     clear hx' hcx hy' hcy  hst hs ht hxB hyB hsB hc hp hq hq' hx hy hk
     have HOW1 := h0d (World.ownsRow.alloc HOW.out (.cells #[.int .u32 (s : Int)] 271))
     rw [HOL.out] at HOW1
     have HBE1 : Hid (Below w.heap.size w (wr.alloc (.cells #[.int .u32 (s : Int)] 271))) := HBEL.out.alloc HBEL.out.size _
     go_wp2_with (at_builtin; refine wpList_append_own _ rfl _ _ 38 rfl w.heap.size 271 i0 (.int .u32 0) 1 4 Tryz.underlying38 hi0 hz0 hz1 hz2 rfl (by decide) _ k _ rfl HOW1.out ⟨wr.heap.size, 0, none⟩ 1 1 [.int .u32 (s : Int)] rfl rfl (cells_new wr #[.int .u32 (s : Int)] 271 (0, 0)) (fun u hu => by rw [List.mem_singleton.1 hu]; rfl) (by unfold maxLen; omega) (by omega) (by have := HBEL.out.size; simp; omega) ?_; intro v' w1 hown1 hgrow1 _; have HW1 := h0d hown1; have HG1 := h0d hgrow1; clear hown1 hgrow1)
     go_roundw
     case rel =>
      refine ⟨k + 1, t, O ++ [s], by omega, ht1, rfl, by go_num, by show _ = _; rw [List.length_append, HOL.out]; rfl, fun z hz => ?_, ?_, HBE1.out.grown HG1.out (by have := HBEL.out.size; simp; omega) (fun g hg => (HOW1.out.lt g hg).1), HST.out⟩
      ·rcases List.mem_append.1 hz with h | h
       ·exact HOX.out z h
       ·rw [List.mem_singleton.1 h]; exact HSB.out
      ·have h := HW1.out
       unfold OwnV
       rw [List.length_append, HOL.out, List.map_append]; exact h
     case measure => simp [intOf]; omega
    ·obtain ⟨b1, f1, x', rfl, hb1, hx', hcx⟩ := HC1.out k hA
     obtain rfl : x' = x := by rw [hx, getD_of hx']
     have hcx' := (HBEL.out.cell (p := ⟨b1, f1 + k, none⟩) hb1).trans hcx
     obtain rfl : y = 0 := by rw [hy, List.getD_eq_getElem?_getD, List.getElem?_eq_none (by have := HE2.out; omega)]; rfl
     obtain rfl : q = p := by rw [hq, Nat.add_zero]
     clear hx' hcx hw2  hst hs ht hxB hyB hsB hc hp hq hq' hx hy hk
     have HOW1 := h0d (World.ownsRow.alloc HOW.out (.cells #[.int .u32 (s : Int)] 271))
     rw [HOL.out] at HOW1
     have HBE1 : Hid (Below w.heap.size w (wr.alloc (.cells #[.int .u32 (s : Int)] 271))) := HBEL.out.alloc HBEL.out.size _
     go_wp2_with (at_builtin; refine wpList_append_own _ rfl _ _ 38 rfl w.heap.size 271 i0 (.int .u32 0) 1 4 Tryz.underlying38 hi0 hz0 hz1 hz2 rfl (by decide) _ k _ rfl HOW1.out ⟨wr.heap.size, 0, none⟩ 1 1 [.int .u32 (s : Int)] rfl rfl (cells_new wr #[.int .u32 (s : Int)] 271 (0, 0)) (fun u hu => by rw [List.mem_singleton.1 hu]; rfl) (by unfold maxLen; omega) (by omega) (by have := HBEL.out.size; simp; omega) ?_; intro v' w1 hown1 hgrow1 _; have HW1 := h0d hown1; have HG1 := h0d hgrow1; clear hown1 hgrow1)
     go_roundw
     case rel =>
      refine ⟨k + 1, t, O ++ [s], by omega, ht1, rfl, by go_num, by show _ = _; rw [List.length_append, HOL.out]; rfl, fun z hz => ?_, ?_, HBE1.out.grown HG1.out (by have := HBEL.out.size; simp; omega) (fun g hg => (HOW1.out.lt g hg).1), HST.out⟩
      ·rcases List.mem_append.1 hz with h | h
       ·exact HOX.out z h
       ·rw [List.mem_singleton.1 h]; exact HSB.out
      ·have h := HW1.out
       unfold OwnV
       rw [List.length_append, HOL.out, List.map_append]; exact h
     case measure => simp [intOf]; omega
   ·have hBk : k < k2 := by omega
    obtain rfl : x = 0 := by rw [hx, List.getD_eq_getElem?_getD, List.getElem?_eq_none (by have := HE1.out; omega)]; rfl
    obtain rfl : p = c := by rw [hp, Nat.add_zero]
    obtain ⟨b2, f2, y', rfl, hb2, hy', hcy⟩ := HC2.out k hBk
    obtain rfl : y' = y := by rw [hy, getD_of hy']
    have hcy' := (HBEL.out.cell (p := ⟨b2, f2 + k, none⟩) hb2).trans hcy
    clear hw1 hy' hcy  hst hs ht hxB hyB hsB hc hp hq hq' hx hy hk
    have HOW1 := h0d (World.ownsRow.alloc HOW.out (.cells #[.int .u32 (s : Int)] 271))
    rw [HOL.out] at HOW1
    have HBE1 : Hid (Below w.heap.size w (wr.alloc (.cells #[.int .u32 (s : Int)] 271))) := HBEL.out.alloc HBEL.out.size _
    go_wp2_with (at_builtin; refine wpList_append_own _ rfl _ _ 38 rfl w.heap.size 271 i0 (.int .u32 0) 1 4 Tryz.underlying38 hi0 hz0 hz1 hz2 rfl (by decide) _ k _ rfl HOW1.out ⟨wr.heap.size, 0, none⟩ 1 1 [.int .u32 (s : Int)] rfl rfl (cells_new wr #[.int .u32 (s : Int)] 271 (0, 0)) (fun u hu => by rw [List.mem_singleton.1 hu]; rfl) (by unfold maxLen; omega) (by omega) (by have := HBEL.out.size; simp; omega) ?_; intro v' w1 hown1 hgrow1 _; have HW1 := h0d hown1; have HG1 := h0d hgrow1; clear hown1 hgrow1)
    go_roundw
    case rel =>
     refine ⟨k + 1, t, O ++ [s], by omega, ht1, rfl, by go_num, by show _ = _; rw [List.length_append, HOL.out]; rfl, fun z hz => ?_, ?_, HBE1.out.grown HG1.out (by have := HBEL.out.size; simp; omega) (fun g hg => (HOW1.out.lt g hg).1), HST.out⟩
     ·rcases List.mem_append.1 hz with h | h
      ·exact HOX.out z h
      ·rw [List.mem_singleton.1 h]; exact HSB.out
     ·have h := HW1.out
      unfold OwnV
      rw [List.length_append, HOL.out, List.map_append]; exact h
    case measure => simp [intOf]; omega
  ·have hkk : ¬ k < k1 ∧ ¬ k < k2 := by omega
   obtain ⟨hn1, hn2⟩ := hkk
   have hkm : k ≤ 2000000 := by omega
   obtain ⟨xs, hxs⟩ : ∃ xs, xs = O ++ [c] := ⟨_, rfl⟩
   have HXX : Hid (∀ x ∈ xs, x < B32) := fun z hz => by
    rw [hxs] at hz
    rcases List.mem_append.1 hz with h | h
    ·exact HOX.out z h
    ·rw [List.mem_singleton.1 h]; unfold B32; omega
   have HXV : Hid (val B32 xs = m + n) := by
    show _ = _
    have h1 := HV.out
    rw [List.take_of_length_le (by rw [HE1.out]; omega), List.take_of_length_le (by rw [HE2.out]; omega), val_digs B32_2, val_digs B32_2] at h1
    rw [hxs, val_append, val_one, HOL.out, Nat.mul_comm (B32 ^ k)]; exact h1
   have hc32 : IntKind.u32.wrap (c : Int) = (c : Int) := by rw [IntKind.wrap_u32]; omega
   have HXS := h0d hxs
   have HOW1 := h0d (World.ownsRow.alloc HOW.out (.cells #[.int .u32 (c : Int)] 271))
   rw [HOL.out] at HOW1
   have HBE1 : Hid (Below w.heap.size w (wr.alloc (.cells #[.int .u32 (c : Int)] 271))) := HBEL.out.alloc HBEL.out.size _
   clear hxs hc hk hlk
   go_wp2_with (at_builtin; refine wpList_append_own _ rfl _ _ 38 rfl w.heap.size 271 i0 (.int .u32 0) 1 4 Tryz.underlying38 hi0 hz0 hz1 hz2 rfl (by decide) _ k _ rfl HOW1.out ⟨wr.heap.size, 0, none⟩ 1 1 [.int .u32 (c : Int)] rfl rfl (cells_new wr #[.int .u32 (c : Int)] 271 (0, 0)) (fun u hu => by rw [List.mem_singleton.1 hu]; rfl) (by unfold maxLen; omega) (by omega) (by have := HBEL.out.size; simp; omega) ?_; intro v' w1 hown1 hgrow1 _; have HW1 := h0d hown1; have HG1 := h0d hgrow1; clear hown1 hgrow1)
   have hOV : OwnV w1 w.heap.size v' xs := by
    have h := HW1.out
    unfold OwnV
    rw [HXS.out, List.length_append, HOL.out, List.map_append]; exact h
   refine (rcut_num v' xs w1 hOV.rd HXX.out).mono ?_
   rintro e w2 ⟨⟨v2, rfl, hr⟩, rfl⟩
   rw [HXV.out] at hr
   have HR := h0d hr
   clear hr hOV
   go_wp2_with fail
   go_ret
   exact ⟨⟨_, rfl, HR.out⟩, HBE1.out.grown HG1.out (by have := HBEL.out.size; simp; omega) (fun g hg => (HOW1.out.lt g hg).1)⟩
end Go.Proofs.YtodckaioeomccaaGreat
namespace Go.Proofs.YtodckaioeomccaaGreat
open Go.RowKit
set_option linter.unusedVariables false
set_option linter.unusedSimpArgs false
theorem rdiff_step {O am bn : List Nat} {k c x y B d e : Nat} (hk : O.length = k) (hx : am.getD k 0 = x) (hy : bn.getD k 0 = y) (hd : d + y + c = x + e * B)
  (h : val B O + val B (bn.take k) = val B (am.take k) + c * B ^ k) :
  val B (O ++ [d]) + val B (bn.take (k + 1)) = val B (am.take (k + 1)) + e * B ^ (k + 1) := by
 rw [val_append, val_one, val_take_getD B am, val_take_getD B bn, hx, hy, hk, Nat.pow_succ]
 have e1 : (d + y + c) * B ^ k = (x + e * B) * B ^ k := by rw [hd]
 rw [Nat.add_mul, Nat.add_mul, Nat.add_mul, Nat.mul_assoc e, Nat.mul_comm B] at e1
 rw [Nat.mul_comm (B ^ k) d]
 omega
set_option maxRecDepth 100000 in
set_option maxHeartbeats 8000000 in
theorem rdiff_own (va vb : Value) (m n : Nat) (w : World) (ha : RdM w va m) (hb : RdM w vb n) (hm : dm m ≤ 2000000) (hle : n ≤ m) :
  Calls Tryz.prog 204 #[va, vb] w fun e w' => (∃ v', e = .returned v' ∧ RdMS w' (w.heap.size ≤ ·) v' (m - n)) ∧ Below w.heap.size w w' := by
 obtain ⟨i0, hi0, hz0, hz1, hz2⟩ := info_parts info119
 have hdl := dm_mono hle
 obtain ⟨A1, k1, c1, rfl, e1, hk1, _, hm1, hc1⟩ := RdV.open_ ha
 obtain ⟨A2, k2, c2, rfl, e2, hk2, _, hm2, hc2⟩ := RdV.open_ hb
 have hk16 : k1 ≤ 2000000 := by unfold dm at hm; omega
 have hk21 : k2 ≤ k1 := by unfold dm at hdl; omega
 have HE1 := h0d e1
 have HE2 := h0d e2
 have HC1 := h0d hc1
 have HC2 := h0d hc2
 have HLE := h0d hle
 clear ha hb hm e1 e2 hc1 hc2 hle hdl
 go_enter Tryz.func204, Tryz.ntmps204
 go_wp2_with fail
 go_loopw [5, 6, 7] (fun ov cv iv wr => ∃ (k c : Nat) (O : List Nat), k ≤ k1 ∧ c ≤ 1 ∧ cv = .int .i64 (c : Int) ∧ iv = .int .i64 (k : Int) ∧ Hid (O.length = k) ∧ Hid (∀ x ∈ O, x < B32) ∧ Hid (OwnV wr w.heap.size ov O) ∧ Hid (Below w.heap.size w wr) ∧ Hid (val B32 O + val B32 ((digs B32 n).take k) = val B32 ((digs B32 m).take k) + c * B32 ^ k)) (fun _ _ iv _ => k1 - (intOf iv).toNat)
 case atStart => exact ⟨0, 0, [], Nat.zero_le _, Nat.zero_le _, rfl, rfl, rfl, (by show ∀ x ∈ ([] : List Nat), x < B32; intro x hx; cases hx), OwnV.made w, (Below.refl _ w).alloc (Nat.le_refl _) _, by show _ = _; simp [val]⟩
 case round =>
  obtain ⟨k, c, O, hk, hc, rfl, rfl, HOL, HOX, HOW, HBEL, HV⟩ := hrel
  obtain ⟨A5, c5, rfl⟩ := HOW.out.slice
  rw [HOL.out]
  by_cases hlk : k < k1
  ·obtain ⟨b1, f1, x, rfl, hb1, hx, hcx⟩ := HC1.out k hlk
   have hxB : x < 4294967296 := digs_lt B32_2 m x (List.mem_of_getElem? hx)
   have hcx' := (HBEL.out.cell (p := ⟨b1, f1 + k, none⟩) hb1).trans hcx
   obtain ⟨y, hy⟩ : ∃ y, y = (digs B32 n).getD k 0 := ⟨_, rfl⟩
   have hyB : y < 4294967296 := by rw [hy]; exact getD_lt32 n k
   obtain ⟨D1, hD1⟩ : ∃ D : Int, D = (x : Int) - (c : Int) := ⟨_, rfl⟩
   have hd1a : -1 ≤ D1 := by omega
   have hd1b : D1 ≤ 4294967296 := by omega
   have hD1' := hD1.symm
   have hST := fun d e hd => rdiff_step (d := d) (e := e) HOL.out (getD_of hx) hy.symm hd HV.out
   have HSTP := h0d hST
   clear hST
   by_cases hBk : k < k2
   ·obtain ⟨b2, f2, y', rfl, hb2, hy', hcy⟩ := HC2.out k hBk
    obtain rfl : y' = y := by rw [hy, getD_of hy']
    have hcy' := (HBEL.out.cell (p := ⟨b2, f2 + k, none⟩) hb2).trans hcy
    by_cases hneg : D1 - (y' : Int) < 0
    ·obtain ⟨s, hs⟩ : ∃ s : Nat, (s : Int) = D1 - y' + 4294967296 := ⟨(D1 - y' + 4294967296).toNat, by omega⟩
     have HST := h0d (HSTP.out s 1 (by unfold B32; omega))
     have HSB : Hid (s < B32) := by show _ < _; unfold B32; omega
     have hc32 : IntKind.u32.wrap (s : Int) = (s : Int) := by rw [IntKind.wrap_u32]; omega
     obtain ⟨D2, hD2⟩ : ∃ D : Int, D = D1 - (y' : Int) := ⟨_, rfl⟩
     have hd2a : -4294967297 ≤ D2 := by omega
     have hd2b : D2 < 0 := by omega
     have hD2' := hD2.symm
     have hs' : D2 + 4294967296 = (s : Int) := by omega
     clear hD2 hs
     clear hD1 hx hcx hy hy' hcy hneg HSTP
     have HOW1 := h0d (World.ownsRow.alloc HOW.out (.cells #[.int .u32 (s : Int)] 271))
     rw [HOL.out] at HOW1
     have HBE1 : Hid (Below w.heap.size w (wr.alloc (.cells #[.int .u32 (s : Int)] 271))) := HBEL.out.alloc HBEL.out.size _
     go_wp2_with (at_builtin; refine wpList_append_own _ rfl _ _ 38 rfl w.heap.size 271 i0 (.int .u32 0) 1 4 Tryz.underlying38 hi0 hz0 hz1 hz2 rfl (by decide) _ k _ rfl HOW1.out ⟨wr.heap.size, 0, none⟩ 1 1 [.int .u32 (s : Int)] rfl rfl (cells_new wr #[.int .u32 (s : Int)] 271 (0, 0)) (fun u hu => by rw [List.mem_singleton.1 hu]; rfl) (by unfold maxLen; omega) (by omega) (by have := HBEL.out.size; simp; omega) ?_; intro v' w1 hown1 hgrow1 _; have HW1 := h0d hown1; have HG1 := h0d hgrow1; clear hown1 hgrow1)
     go_roundw
     case rel =>
      refine ⟨k + 1, 1, O ++ [s], by omega, by omega, rfl, by go_num, by show _ = _; rw [List.length_append, HOL.out]; rfl, fun z hz => ?_, ?_, HBE1.out.grown HG1.out (by have := HBEL.out.size; simp; omega) (fun g hg => (HOW1.out.lt g hg).1), HST.out⟩
      ·rcases List.mem_append.1 hz with h | h
       ·exact HOX.out z h
       ·rw [List.mem_singleton.1 h]; exact HSB.out
      ·have h := HW1.out
       unfold OwnV
       rw [List.length_append, HOL.out, List.map_append]; exact h
     case measure => simp [intOf]; omega
    ·obtain ⟨s, hs⟩ : ∃ s : Nat, (s : Int) = D1 - y' := ⟨(D1 - y').toNat, by omega⟩
     have HST := h0d (HSTP.out s 0 (by omega))
     have HSB : Hid (s < B32) := by show _ < _; unfold B32; omega
     have hc32 : IntKind.u32.wrap (s : Int) = (s : Int) := by rw [IntKind.wrap_u32]; omega
     have hs' : D1 - (y' : Int) = (s : Int) := hs.symm
     have hsn : ¬ ((s : Int) < 0) := by omega
     clear hs
     clear hD1 hx hcx hy hy' hcy hneg HSTP
     have HOW1 := h0d (World.ownsRow.alloc HOW.out (.cells #[.int .u32 (s : Int)] 271))
     rw [HOL.out] at HOW1
     have HBE1 : Hid (Below w.heap.size w (wr.alloc (.cells #[.int .u32 (s : Int)] 271))) := HBEL.out.alloc HBEL.out.size _
     go_wp2_with (at_builtin; refine wpList_append_own _ rfl _ _ 38 rfl w.heap.size 271 i0 (.int .u32 0) 1 4 Tryz.underlying38 hi0 hz0 hz1 hz2 rfl (by decide) _ k _ rfl HOW1.out ⟨wr.heap.size, 0, none⟩ 1 1 [.int .u32 (s : Int)] rfl rfl (cells_new wr #[.int .u32 (s : Int)] 271 (0, 0)) (fun u hu => by rw [List.mem_singleton.1 hu]; rfl) (by unfold maxLen; omega) (by omega) (by have := HBEL.out.size; simp; omega) ?_; intro v' w1 hown1 hgrow1 _; have HW1 := h0d hown1; have HG1 := h0d hgrow1; clear hown1 hgrow1)
     go_roundw
     case rel =>
      refine ⟨k + 1, 0, O ++ [s], by omega, by omega, rfl, by go_num, by show _ = _; rw [List.length_append, HOL.out]; rfl, fun z hz => ?_, ?_, HBE1.out.grown HG1.out (by have := HBEL.out.size; simp; omega) (fun g hg => (HOW1.out.lt g hg).1), HST.out⟩
      ·rcases List.mem_append.1 hz with h | h
       ·exact HOX.out z h
       ·rw [List.mem_singleton.1 h]; exact HSB.out
      ·have h := HW1.out
       unfold OwnV
       rw [List.length_append, HOL.out, List.map_append]; exact h
     case measure => simp [intOf]; omega
   ·obtain rfl : y = 0 := by rw [hy, List.getD_eq_getElem?_getD, List.getElem?_eq_none (by have := HE2.out; omega)]; rfl
    by_cases hneg : D1 < 0
    ·obtain ⟨s, hs⟩ : ∃ s : Nat, (s : Int) = D1 + 4294967296 := ⟨(D1 + 4294967296).toNat, by omega⟩
     have HST := h0d (HSTP.out s 1 (by unfold B32; omega))
     have HSB : Hid (s < B32) := by show _ < _; unfold B32; omega
     have hc32 : IntKind.u32.wrap (s : Int) = (s : Int) := by rw [IntKind.wrap_u32]; omega
     have hs' : D1 + 4294967296 = (s : Int) := hs.symm
     clear hs
     clear hD1 hx hcx hy HSTP
     have HOW1 := h0d (World.ownsRow.alloc HOW.out (.cells #[.int .u32 (s : Int)] 271))
     rw [HOL.out] at HOW1
     have HBE1 : Hid (Below w.heap.size w (wr.alloc (.cells #[.int .u32 (s : Int)] 271))) := HBEL.out.alloc HBEL.out.size _
     go_wp2_with (at_builtin; refine wpList_append_own _ rfl _ _ 38 rfl w.heap.size 271 i0 (.int .u32 0) 1 4 Tryz.underlying38 hi0 hz0 hz1 hz2 rfl (by decide) _ k _ rfl HOW1.out ⟨wr.heap.size, 0, none⟩ 1 1 [.int .u32 (s : Int)] rfl rfl (cells_new wr #[.int .u32 (s : Int)] 271 (0, 0)) (fun u hu => by rw [List.mem_singleton.1 hu]; rfl) (by unfold maxLen; omega) (by omega) (by have := HBEL.out.size; simp; omega) ?_; intro v' w1 hown1 hgrow1 _; have HW1 := h0d hown1; have HG1 := h0d hgrow1; clear hown1 hgrow1)
     go_roundw
     case rel =>
      refine ⟨k + 1, 1, O ++ [s], by omega, by omega, rfl, by go_num, by show _ = _; rw [List.length_append, HOL.out]; rfl, fun z hz => ?_, ?_, HBE1.out.grown HG1.out (by have := HBEL.out.size; simp; omega) (fun g hg => (HOW1.out.lt g hg).1), HST.out⟩
      ·rcases List.mem_append.1 hz with h | h
       ·exact HOX.out z h
       ·rw [List.mem_singleton.1 h]; exact HSB.out
      ·have h := HW1.out
       unfold OwnV
       rw [List.length_append, HOL.out, List.map_append]; exact h
     case measure => simp [intOf]; omega
    ·obtain ⟨s, hs⟩ : ∃ s : Nat, (s : Int) = D1 := ⟨(D1).toNat, by omega⟩
     have HST := h0d (HSTP.out s 0 (by omega))
     have HSB : Hid (s < B32) := by show _ < _; unfold B32; omega
     have hc32 : IntKind.u32.wrap (s : Int) = (s : Int) := by rw [IntKind.wrap_u32]; omega
     obtain rfl : D1 = (s : Int) := hs.symm
     clear hs
     clear hD1 hx hcx hy HSTP
     have HOW1 := h0d (World.ownsRow.alloc HOW.out (.cells #[.int .u32 (s : Int)] 271))
     rw [HOL.out] at HOW1
     have HBE1 : Hid (Below w.heap.size w (wr.alloc (.cells #[.int .u32 (s : Int)] 271))) := HBEL.out.alloc HBEL.out.size _
     go_wp2_with (at_builtin; refine wpList_append_own _ rfl _ _ 38 rfl w.heap.size 271 i0 (.int .u32 0) 1 4 Tryz.underlying38 hi0 hz0 hz1 hz2 rfl (by decide) _ k _ rfl HOW1.out ⟨wr.heap.size, 0, none⟩ 1 1 [.int .u32 (s : Int)] rfl rfl (cells_new wr #[.int .u32 (s : Int)] 271 (0, 0)) (fun u hu => by rw [List.mem_singleton.1 hu]; rfl) (by unfold maxLen; omega) (by omega) (by have := HBEL.out.size; simp; omega) ?_; intro v' w1 hown1 hgrow1 _; have HW1 := h0d hown1; have HG1 := h0d hgrow1; clear hown1 hgrow1)
     go_roundw
     case rel =>
      refine ⟨k + 1, 0, O ++ [s], by omega, by omega, rfl, by go_num, by show _ = _; rw [List.length_append, HOL.out]; rfl, fun z hz => ?_, ?_, HBE1.out.grown HG1.out (by have := HBEL.out.size; simp; omega) (fun g hg => (HOW1.out.lt g hg).1), HST.out⟩
      ·rcases List.mem_append.1 hz with h | h
       ·exact HOX.out z h
       ·rw [List.mem_singleton.1 h]; exact HSB.out
      ·have h := HW1.out
       unfold OwnV
       rw [List.length_append, HOL.out, List.map_append]; exact h
     case measure => simp [intOf]; omega
  ·obtain rfl : k = k1 := by omega
   have HXV : Hid (val B32 O = m - n) := by
    show _ = _
    have h1 := HV.out
    rw [List.take_of_length_le (by rw [HE2.out]; omega), List.take_of_length_le (by rw [HE1.out]; omega), val_digs B32_2, val_digs B32_2] at h1
    have h2 := val_lt (b := B32) (by unfold B32; omega) HOX.out
    rw [HOL.out] at h2
    have h3 := HLE.out
    have hc0 : c = 0 := by
     rcases Nat.eq_zero_or_pos c with h0 | h0
     ·exact h0
     ·have : c = 1 := by omega
      subst this; omega
    subst hc0; omega
   have HCUT := h0d (rcut_numS _ _ O wr HOW.out.rdS HOX.out)
   rw [HXV.out, HOL.out] at HCUT
   clear hc hlk
   go_wp2_with (go_at_call 245; refine HCUT.out.mono ?_; rintro e w2 ⟨⟨v', rfl, hr⟩, rfl⟩; have HR := h0d hr; clear hr)
   go_ret
   exact ⟨⟨_, rfl, HR.out⟩, HBEL.out⟩
theorem rdiff_any (va vb : Value) (m n : Nat) (w : World) (ha : RdM w va m) (hb : RdM w vb n) (hm : dm m ≤ 2000000) (hle : n ≤ m) :
  Calls Tryz.prog 204 #[va, vb] w fun e w' => (∃ v', e = .returned v' ∧ RdM w' v' (m - n)) ∧ Below w.heap.size w w' :=
 (rdiff_own va vb m n w ha hb hm hle).mono fun e w' ⟨⟨v', h1, h2⟩, h3⟩ => ⟨⟨v', h1, h2.all⟩, h3⟩
end Go.Proofs.YtodckaioeomccaaGreat
namespace Go.Proofs.YtodckaioeomccaaGreat
open Go.RowKit
set_option linter.unusedVariables false
set_option linter.unusedSimpArgs false
def BlkV (w : World) (g : Nat) (xs : List Nat) : Prop := w.heap[g]? = some (.cells (xs.map u32V).toArray 271 (0, 0))
theorem BlkV.lt {w : World} {g : Nat} {xs : List Nat} (h : BlkV w g xs) : g < w.heap.size := (Array.getElem?_eq_some_iff.1 h).1
theorem BlkV.cell {w : World} {g : Nat} {xs : List Nat} {i x : Nat} (h : BlkV w g xs) (hx : xs[i]? = some x) : w.cell? ⟨g, i, none⟩ = some (.int .u32 (x : Int)) := by
 rw [cell_of_row w g i _ 271 (0, 0) h, List.getElem?_toArray, List.getElem?_map, hx]; rfl
theorem BlkV.frozen {w : World} {g : Nat} {xs : List Nat} (h : BlkV w g xs) (i : Nat) : w.frozen? ⟨g, i, none⟩ = false := frozen_of_row w g i _ 271 h
theorem BlkV.set_ {w : World} {g : Nat} {xs : List Nat} (h : BlkV w g xs) (i y : Nat) : BlkV (w.setCell ⟨g, i, none⟩ (.int .u32 (y : Int))) g (xs.set i y) := by
 have := heap_setCell_same w g i _ 271 (.int .u32 (y : Int)) h
 unfold BlkV
 rw [this]
 congr 1
 rw [List.map_set, List.setIfInBounds_toArray]; rfl
theorem BlkV.drew {w : World} {g : Nat} {xs : List Nat} (h : BlkV w g xs) : BlkV w.drew g xs := h
theorem BlkV.below {w w' : World} {g : Nat} {xs : List Nat} (h : BlkV w g xs) (hb : Below w.heap.size w w') : BlkV w' g xs := (hb.block g h.lt).trans h
theorem madeWords32 (n : Nat) : (madeCells (Value.int .u32 0).cells (n * 1)) = ((List.replicate n 0).map u32V).toArray := by
 rw [Nat.mul_one]
 apply Array.ext'
 have : ∀ x : Nat, x % 1 = 0 := fun x => Nat.mod_one x
 simp [madeCells, Value.cells, u32V, this]
 refine List.ext_getElem (by simp) fun i h1 h2 => by simp
theorem BlkV.new (w : World) (xs : List Nat) : BlkV (w.alloc (.cells (xs.map u32V).toArray 271)) w.heap.size xs := heap_alloc_new w _
theorem BlkV.own {w : World} {g base n : Nat} {xs : List Nat} (h : BlkV w g xs) (hb : base ≤ g) (hn : n ≤ xs.length) (hm : xs.length ≤ maxLen) : w.ownsRow base 271 1 (.slice (some ⟨g, 0, none⟩) n xs.length) n ((xs.take n).map u32V) :=
 ⟨by simp; omega, .inr ⟨g, xs.length, _, rfl, hb, h, by omega, hm, by simp, by simp⟩⟩
theorem BlkV.rd {w : World} {g off n cap : Nat} {xs : List Nat} (h : BlkV w g xs) (hn : off + n ≤ xs.length) (hc : n ≤ cap) (hm : cap ≤ maxLen) : RdV w (.slice (some ⟨g, off, none⟩) n cap) ((xs.drop off).take n) := by
 have hl : ((xs.drop off).take n).length = n := by simp; omega
 refine ⟨some ⟨g, off, none⟩, cap, by rw [hl], by omega, hm, fun _ => ⟨g, off, rfl, trivial, fun i hi => ?_⟩⟩
 rw [hl] at hi
 rw [h.cell (i := off + i) (x := xs[off + i]'(by omega)) (List.getElem?_eq_getElem (by omega))]
 simp [u32V]
theorem BlkV.rd0 {w : World} {g n cap : Nat} {xs : List Nat} (h : BlkV w g xs) (hn : n = xs.length) (hc : n ≤ cap) (hm : cap ≤ maxLen) : RdV w (.slice (some ⟨g, 0, none⟩) n cap) xs := by
 have := h.rd (off := 0) (n := n) (by omega) hc hm
 rwa [List.drop_zero, List.take_of_length_le (by omega)] at this
theorem BlkV.rd0S {w : World} {g n cap B : Nat} {xs : List Nat} (h : BlkV w g xs) (hB : B ≤ g) (hn : n = xs.length) (hc : n ≤ cap) (hm : cap ≤ maxLen) : Rd u32V w (B ≤ ·) (.slice (some ⟨g, 0, none⟩) n cap) xs := by
 refine ⟨some ⟨g, 0, none⟩, cap, by rw [hn], by omega, hm, fun _ => ⟨g, 0, rfl, hB, fun i hi => ?_⟩⟩
 rw [h.cell (i := 0 + i) (x := xs[i]) (by rw [Nat.zero_add]; exact List.getElem?_eq_getElem hi)]; rfl
theorem make_words32 (n c : Nat) (hnc : n ≤ c) (hc : c ≤ 4000000) (w : World) :
  (Instr.makeSlice 38 (.int .i64 (n : Int)) (.int .i64 (c : Int))).run Tryz.prog w = .ok (.slice (some ⟨w.heap.size, 0, none⟩) n c) (w.alloc (.cells ((List.replicate c 0).map u32V).toArray 271)) := by
 obtain ⟨i0, hi, hz0, hz1, hz2⟩ := info_parts info119
 rw [run_make_rowN 38 271 i0 (.int .u32 0) Tryz.underlying38 hi hz0 .i64 .i64 n c hnc (by rw [hz2]; omega) (by omega) w, hz1, madeWords32]
set_option maxRecDepth 100000 in
set_option maxHeartbeats 8000000 in
theorem rprod_own (va vb : Value) (m n : Nat) (w : World) (hP : RdM w va m) (hQ : RdM w vb n) (hm6 : dm m ≤ 1900000) (hn6 : dm n ≤ 1900000) :
  Calls Tryz.prog 201 #[va, vb] w fun e w' => (∃ v', e = .returned v' ∧ RdMS w' (w.heap.size ≤ ·) v' (m * n)) ∧ Below w.heap.size w w' := by
 have hmk := make_words32
 obtain ⟨A1, k1, c1, rfl, e1, hk1, _, hm1, hc1⟩ := RdV.open_ hP
 obtain ⟨A2, k2, c2, rfl, e2, hk2, _, hm2, hc2⟩ := RdV.open_ hQ
 have hk16 : k1 ≤ 1900000 := by unfold dm at hm6; omega
 have hk26 : k2 ≤ 1900000 := by unfold dm at hn6; omega
 have HE1 := h0d e1
 have HE2 := h0d e2
 have HC1 := h0d hc1
 have HC2 := h0d hc2
 have HMK := hmk (k1 + k2) (k1 + k2) (Nat.le_refl _) (by omega)
 obtain ⟨C0, hC0⟩ : ∃ C, C = ((List.replicate (k1 + k2) 0).map u32V).toArray := ⟨_, rfl⟩
 rw [← hC0, show ((k1 + k2 : Nat) : Int) = (k1 : Int) + (k2 : Int) by omega] at HMK
 have HB0 : Hid (BlkV (w.alloc (.cells C0 271)) w.heap.size (List.replicate (k1 + k2) 0)) := by rw [hC0]; exact BlkV.new w _
 clear hmk e1 e2 hc1 hc2 hP hQ hm6 hn6 hC0
 go_enter Tryz.func201, Tryz.ntmps201
 go_wp2_with fail
 go_loopw [6] (fun iv wr => ∃ (i : Nat) (O : List Nat), i ≤ k1 ∧ iv = .int .i64 (i : Int) ∧ Hid (O.length = k1 + k2) ∧ Hid (∀ x ∈ O, x < B32) ∧ Hid (∀ j, i + k2 ≤ j → O.getD j 0 = 0) ∧ Hid (BlkV wr w.heap.size O) ∧ Hid (Below w.heap.size w wr) ∧ Hid (val B32 O = val B32 ((digs B32 m).take i) * n)) (fun iv _ => k1 - (intOf iv).toNat)
 case atStart =>
  refine ⟨0, List.replicate (k1 + k2) 0, Nat.zero_le _, rfl, by show _ = _; simp, fun x hx => ?_, fun j hj => ?_, HB0, (Below.refl _ w).alloc (Nat.le_refl _) _, ?_⟩
  ·rw [List.eq_of_mem_replicate hx]; unfold B32; omega
  ·rw [List.getD_eq_getElem?_getD, List.getElem?_replicate]; split <;> rfl
  ·show _ = _
   rw [val_replicate]; simp [val]
 case round =>
  obtain ⟨i, O, hi, rfl, HOL, HOX, HOZ, HBW, HBEL, HV⟩ := hrel
  by_cases hlt : i < k1
  ·obtain ⟨b1, f1, x, rfl, hb1, hx, hcx⟩ := HC1.out i hlt
   have hxB := digs_lt B32_2 m x (List.mem_of_getElem? hx)
   have HCX : Hid (∀ w', Below w.heap.size w w' → w'.cell? ⟨b1, f1 + i, none⟩ = some (.int .u32 (x : Int))) := fun w' h => (h.cell (p := ⟨b1, f1 + i, none⟩) hb1).trans hcx
   have HX := h0d hx
   have HXB := h0d hxB
   obtain ⟨V, hV⟩ : ∃ V, V = val B32 ((digs B32 m).take i) := ⟨_, rfl⟩
   have HVe := h0d hV
   rw [← hV] at HV
   clear hV hx hcx hxB
   go_wp2_with fail
   go_loopw [7, 8] (fun cv kv wr => ∃ (k c : Nat) (P : List Nat), k ≤ k2 ∧ cv = .int .u64 (c : Int) ∧ kv = .int .i64 (k : Int) ∧ Hid (c < B32) ∧ Hid (P.length = k1 + k2) ∧ Hid (∀ x ∈ P, x < B32) ∧ Hid (∀ j, i + k2 ≤ j → P.getD j 0 = 0) ∧ Hid (BlkV wr w.heap.size P) ∧ Hid (Below w.heap.size w wr) ∧ Hid (val B32 P + c * B32 ^ (i + k) = V * n + x * val B32 ((digs B32 n).take k) * B32 ^ i)) (fun _ kv _ => k2 - (intOf kv).toNat)
   case atStart =>
    exact ⟨0, 0, O, Nat.zero_le _, rfl, rfl, by show _ < _; unfold B32; omega, HOL, HOX, HOZ, HBW, HBEL, by show _ = _; rw [HV.out]; simp [val]⟩
   case round =>
    clear HBEL HBW HV HOL HOX HOZ
    obtain ⟨k, c, P, hk, rfl, rfl, HCB, HOL, HOX, HOZ, HBW, HBEL, HV⟩ := hrel
    by_cases hlk : k < k2
    ·obtain ⟨b2, f2, y, rfl, hb2, hy, hcy⟩ := HC2.out k hlk
     have hyB := digs_lt B32_2 n y (List.mem_of_getElem? hy)
     have HCY : Hid (∀ w', Below w.heap.size w w' → w'.cell? ⟨b2, f2 + k, none⟩ = some (.int .u32 (y : Int))) := fun w' h => (h.cell (p := ⟨b2, f2 + k, none⟩) hb2).trans hcy
     have hpl : i + k < P.length := by have := HOL.out; omega
     obtain ⟨o, ho⟩ : ∃ o, P.getD (i + k) 0 = o := ⟨_, rfl⟩
     have hoB : o < B32 := by
      rw [← ho, List.getD_eq_getElem?_getD, List.getElem?_eq_getElem hpl]
      exact HOX.out _ (List.getElem_mem hpl)
     have hst := times_step (B := B32) hpl hy ho HV.out
     have hTL := times_lt HXB.out hyB hoB HCB.out
     obtain ⟨p, hp⟩ : ∃ p, p = x * y := ⟨_, rfl⟩
     obtain ⟨T, hT⟩ : ∃ T, T = p + o + c := ⟨_, rfl⟩
     rw [← hp, ← hT] at hst hTL
     have hpB : p ≤ 18446744065119617025 := by
      have h1 : x * y ≤ 4294967295 * 4294967295 := Nat.mul_le_mul (by have := HXB.out; unfold B32 at this; omega) (by unfold B32 at hyB; omega)
      omega
     obtain ⟨q, hq⟩ : ∃ q, q = c + p := ⟨_, rfl⟩
     have hcB := HCB.out
     have hxBo := HXB.out
     unfold B32 at hcB hoB hxBo hyB
     have hw0 : IntKind.u64.wrap (x : Int) = (x : Int) := wrap_nat x (by omega)
     have hw0y : IntKind.u64.wrap (y : Int) = (y : Int) := wrap_nat y (by omega)
     have hw0o : IntKind.u64.wrap (o : Int) = (o : Int) := wrap_nat o (by omega)
     have hw1 : IntKind.u64.wrap ((x : Int) * (y : Int)) = (p : Int) := by rw [← Int.natCast_mul, ← hp]; exact wrap_nat _ (by omega)
     have hw2 : IntKind.u64.wrap ((c : Int) + (p : Int)) = (q : Int) := by rw [hq, ← Int.natCast_add]; exact wrap_nat _ (by omega)
     have hw3 : IntKind.u64.wrap ((q : Int) + (o : Int)) = (T : Int) := by rw [hT, hq, ← Int.natCast_add, show c + p + o = p + o + c by omega]; exact wrap_nat _ (by omega)
     obtain ⟨s, hs⟩ : ∃ h, h = T % B32 := ⟨_, rfl⟩
     obtain ⟨t, ht⟩ : ∃ h, h = T / B32 := ⟨_, rfl⟩
     rw [← hs, ← ht] at hst
     rw [← ht] at hTL
     have hc32 : IntKind.u32.wrap (T : Int) = (s : Int) := by rw [IntKind.wrap_u32, hs]; unfold B32; omega
     have hsh : (T : Int) / 4294967296 = (t : Int) := by rw [ht]; unfold B32; omega
     have hsB : s < B32 := by rw [hs]; exact Nat.mod_lt _ (by unfold B32; omega)
     have hik : (i : Int) + (k : Int) < (k1 : Int) + (k2 : Int) := by omega
     have hwik : IntKind.i64.wrap ((i : Int) + (k : Int)) = (i : Int) + (k : Int) := IntWalk.i64_in _ (by omega)
     have hik0 : (0 : Int) ≤ (i : Int) + (k : Int) := by omega
     have hikn : ((i : Int) + (k : Int)).toNat = i + k := by omega
     have HCO : Hid (∀ w' : World, w'.heap[w.heap.size]? = wr.heap[w.heap.size]? → w'.cell? ⟨w.heap.size, i + k, none⟩ = some (.int .u32 (o : Int)) ∧ w'.frozen? ⟨w.heap.size, i + k, none⟩ = false) := fun w' h => by
      have hB : BlkV w' w.heap.size P := h.trans HBW.out
      exact ⟨hB.cell (i := i + k) (x := o) (by rw [← ho, List.getD_eq_getElem?_getD, List.getElem?_eq_getElem hpl]; rfl), hB.frozen (i + k)⟩
     have HTL := h0d hTL
     have HSB := h0d hsB
     have HST := h0d hst
     have hbd : Below w.heap.size w wr.drew := HBEL.out.drew
     have d1 := HCX.out _ hbd
     have d2 := HCY.out _ hbd
     obtain ⟨d3, d4⟩ := HCO.out wr.drew rfl
     clear hy hcy hst hs ht hT hq hp ho hTL hsB hpl hyB hoB hcB hxBo hpB hbd
     go_wp2_with fail
     refine seq_start (S := fun w' => w'.cell? ⟨b1, f1 + i, none⟩ = some (.int .u32 (x : Int)) ∧ w'.cell? ⟨b2, f2 + k, none⟩ = some (.int .u32 (y : Int)) ∧ w'.cell? ⟨w.heap.size, i + k, none⟩ = some (.int .u32 (o : Int))) (by kernel_rfl) (by kernel_rfl) (by exact ⟨d1, d2, d3⟩) ?_
     repeat (first | refine tk0 (h := ?_) | refine tkG (h := ?_) | refine skG (h := ?_))
     refine seq_done (by kernel_rfl) ?_
     clear hw0 hw0y hw0o hw1 hw2 hw3 hwik hikn
     go_wp2_with fail
     go_roundw
     case rel =>
      refine ⟨k + 1, t, P.set (i + k) s, by omega, rfl, by go_num, HTL.out, by show _ = _; rw [List.length_set]; exact HOL.out, fun z hz => ?_, fun j hj => ?_, (HBW.out.set_ (i + k) s).drew, (HBEL.out.setCell (Nat.le_refl _) _).drew, HST.out⟩
      ·rcases List.mem_or_eq_of_mem_set hz with h | h
       ·exact HOX.out z h
       ·rw [h]; exact HSB.out
      ·rw [List.getD_eq_getElem?_getD, List.getElem?_set_ne (by omega), ← List.getD_eq_getElem?_getD]; exact HOZ.out j hj
     case measure => simp [intOf]; omega
    ·obtain rfl : k = k2 := by omega
     have hpl : i + k < P.length := by have := HOL.out; omega
     have ho := HOZ.out (i + k) (Nat.le_refl _)
     have hrow := times_row (B := B32) hpl HE2.out.symm ho (val_digs B32_2 n) HV.out
     have hcg := HBW.out.cell (i := i + k) (x := 0) (by rw [← ho, List.getD_eq_getElem?_getD, List.getElem?_eq_getElem hpl]; rfl)
     have hfg := HBW.out.frozen (i + k)
     have hik : (i : Int) + (k : Int) < (k1 : Int) + (k : Int) := by omega
     have hc32 : IntKind.u32.wrap (c : Int) = (c : Int) := by have := HCB.out; unfold B32 at this; rw [IntKind.wrap_u32]; omega
     have HROW : Hid (val B32 (P.set (i + k) c) = val B32 ((digs B32 m).take (i + 1)) * n) := by
      show _ = _
      rw [hrow, val_take B32 HX.out, HVe.out]
     clear hpl ho hrow
     go_wp2_with fail
     go_roundw
     case rel =>
      refine ⟨i + 1, P.set (i + k) c, by omega, by go_num, by show _ = _; rw [List.length_set]; exact HOL.out, fun z hz => ?_, fun j hj => ?_, HBW.out.set_ (i + k) c, HBEL.out.setCell (Nat.le_refl _) _, HROW.out⟩
      ·rcases List.mem_or_eq_of_mem_set hz with h | h
       ·exact HOX.out z h
       ·rw [h]; exact HCB.out
      ·rw [List.getD_eq_getElem?_getD, List.getElem?_set_ne (by omega), ← List.getD_eq_getElem?_getD]; exact HOZ.out j (by omega)
     case measure => simp [intOf]; omega
  ·obtain rfl : i = k1 := by omega
   have HVV : Hid (val B32 O = m * n) := by
    show _ = _
    rw [HV.out, List.take_of_length_le (by rw [HE1.out]; exact Nat.le_refl _), val_digs B32_2]
   have HCUT := h0d (rcut_numS _ _ O wr (HBW.out.rd0S (Nat.le_refl _) (n := i + k2) (cap := i + k2) (HOL.out.symm) (Nat.le_refl _) (by unfold maxLen; omega)) HOX.out)
   rw [HVV.out] at HCUT
   go_wp2_with (go_at_call 245; refine HCUT.out.mono ?_; rintro e w2 ⟨⟨v', rfl, hr⟩, rfl⟩; have HR := h0d hr; clear hr)
   go_ret
   exact ⟨⟨_, rfl, HR.out⟩, HBEL.out⟩
theorem rprod_any (va vb : Value) (m n : Nat) (w : World) (hP : RdM w va m) (hQ : RdM w vb n) (hm6 : dm m ≤ 1900000) (hn6 : dm n ≤ 1900000) :
  Calls Tryz.prog 201 #[va, vb] w fun e w' => (∃ v', e = .returned v' ∧ RdM w' v' (m * n)) ∧ Below w.heap.size w w' :=
 (rprod_own va vb m n w hP hQ hm6 hn6).mono fun e w' ⟨⟨v', h1, h2⟩, h3⟩ => ⟨⟨v', h1, h2.all⟩, h3⟩
set_option maxRecDepth 100000 in
set_option maxHeartbeats 4000000 in
theorem rbyWord_any (va : Value) (m d : Nat) (w : World) (hP : RdM w va m) (hd : 0 < d) (hdB : d < B32) (hm6 : dm m ≤ 1900000) :
  Calls Tryz.prog 246 #[va, .int .u32 (d : Int)] w fun e w' => (∃ v', e = .returned (.tuple #[v', .int .u32 ((m % d : Nat) : Int)]) ∧ RdM w' v' (m / d)) ∧ Below w.heap.size w w' := by
 have hmk := make_words32
 obtain ⟨A1, k1, c1, rfl, e1, hk1, _, hm1, hc1⟩ := RdV.open_ hP
 have hk16 : k1 ≤ 1900000 := by unfold dm at hm6; omega
 have HE1 := h0d e1
 have HC1 := h0d hc1
 have HMK := hmk k1 k1 (Nat.le_refl _) (by omega)
 obtain ⟨C0, hC0⟩ : ∃ C, C = ((List.replicate k1 0).map u32V).toArray := ⟨_, rfl⟩
 rw [← hC0] at HMK
 have HB0 : Hid (BlkV (w.alloc (.cells C0 271)) w.heap.size (List.replicate k1 0)) := by rw [hC0]; exact BlkV.new w _
 have HD := h0d hd
 have HDB := h0d hdB
 have hdn : ¬ (d = 0) := by omega
 have hwd : IntKind.u64.wrap (d : Int) = (d : Int) := wrap_nat d (by unfold B32 at hdB; omega)
 clear hmk e1 hc1 hP hC0 hm6 hd hdB
 go_enter Tryz.func246, Tryz.ntmps246
 go_wp2_with fail
 go_loopw [7, 8] (fun rv iv wr => ∃ (k r : Nat) (O : List Nat), k ≤ k1 ∧ rv = .int .u64 (r : Int) ∧ iv = .int .i64 ((k : Int) - 1) ∧ Hid (r < d) ∧ Hid (O.length = k1) ∧ Hid (∀ x ∈ O, x < B32) ∧ Hid (BlkV wr w.heap.size O) ∧ Hid (Below w.heap.size w wr) ∧ Hid (val B32 ((digs B32 m).drop k) = val B32 (O.drop k) * d + r)) (fun _ iv _ => (intOf iv + 1).toNat)
 case atStart =>
  refine ⟨k1, 0, List.replicate k1 0, Nat.le_refl _, rfl, rfl, HD.out, by show _ = _; simp, fun x hx => ?_, HB0, (Below.refl _ w).alloc (Nat.le_refl _) _, ?_⟩
  ·rw [List.eq_of_mem_replicate hx]; unfold B32; omega
  ·show _ = _
   rw [List.drop_of_length_le (by rw [HE1.out]; exact Nat.le_refl _), List.drop_of_length_le (by simp)]; simp [val]
 case round =>
  obtain ⟨k, r, O, hk, rfl, rfl, HRD, HOL, HOX, HBW, HBEL, HV⟩ := hrel
  by_cases hk0 : k = 0
  ·subst hk0
   have HV0 : Hid (val B32 O = m / d ∧ r = m % d) := by
    have h1 := HV.out
    rw [List.drop_zero, List.drop_zero, val_digs B32_2] at h1
    have h2 := HRD.out
    have := HD.out
    exact ⟨by rw [h1, Nat.mul_comm, Nat.mul_add_div this, Nat.div_eq_of_lt h2, Nat.add_zero], by rw [h1, Nat.mul_comm, Nat.mul_add_mod, Nat.mod_eq_of_lt h2]⟩
   have HCUT := h0d (rcut_num _ O wr (HBW.out.rd0 (n := k1) (cap := k1) (HOL.out.symm) (Nat.le_refl _) (by unfold maxLen; omega)) HOX.out)
   rw [HV0.out.1] at HCUT
   have hr32 : IntKind.u32.wrap (r : Int) = (r : Int) := by have := HRD.out; have := HDB.out; unfold B32 at this; rw [IntKind.wrap_u32]; omega
   go_wp2_with (go_at_call 245; refine HCUT.out.mono ?_; rintro e w2 ⟨⟨v', rfl, hr⟩, rfl⟩; have HR := h0d hr; clear hr)
   go_ret2
   exact ⟨⟨_, by rw [← HV0.out.2]; rfl, HR.out⟩, HBEL.out⟩
  ·obtain ⟨j, rfl⟩ : ∃ j, k = j + 1 := ⟨k - 1, by omega⟩
   have hj : (((j + 1 : Nat) : Int) - 1) = (j : Int) := by omega
   rw [hj]
   obtain ⟨b1, f1, x, rfl, hb1, hx, hcx⟩ := HC1.out j (by omega)
   have hxB := digs_lt B32_2 m x (List.mem_of_getElem? hx)
   have hcx' := (HBEL.out.cell (p := ⟨b1, f1 + j, none⟩) hb1).trans hcx
   have hst := byWord_step (B := B32) (O := O) (k := j) (r := r) (d := d) (by have := HOL.out; omega) hx HD.out HV.out
   obtain ⟨T, hT⟩ : ∃ T, T = r * B32 + x := ⟨_, rfl⟩
   rw [← hT] at hst
   obtain ⟨s, hs⟩ : ∃ s, s = T / d := ⟨_, rfl⟩
   obtain ⟨t, ht⟩ : ∃ t, t = T % d := ⟨_, rfl⟩
   rw [← hs, ← ht] at hst
   have htd : t < d := by rw [ht]; exact Nat.mod_lt _ HD.out
   have hTB : T < d * B32 := by
    have : (r + 1) * B32 ≤ d * B32 := Nat.mul_le_mul_right _ HRD.out
    rw [Nat.add_mul, Nat.one_mul] at this
    omega
   have hsB : s < B32 := by rw [hs, Nat.div_lt_iff_lt_mul HD.out, Nat.mul_comm]; exact hTB
   have hdBo := HDB.out
   have hrd := HRD.out
   unfold B32 at hxB hT hdBo hTB hsB
   obtain ⟨R, hR⟩ : ∃ R, R = r * 4294967296 := ⟨_, rfl⟩
   have hwR : IntKind.u64.wrap ((r : Int) * 4294967296) = (R : Int) := by rw [show (r : Int) * 4294967296 = (R : Int) by omega]; exact wrap_nat R (by omega)
   have hwx : IntKind.u64.wrap (x : Int) = (x : Int) := wrap_nat x (by omega)
   have hor : bits .or .u64 (R : Int) (x : Int) = (T : Int) := by
    rw [bits_or_u64_nat _ _ (by omega) (by omega), hT, hR, show (4294967296 : Nat) = 2 ^ 32 by decide, Nat.mul_comm, ← Nat.two_pow_add_eq_or_of_lt (by omega)]
   have hdq : IntKind.u64.wrap ((T : Int) / (d : Int)) = (s : Int) := by rw [← Int.natCast_ediv, ← hs]; exact wrap_nat _ (by omega)
   have hdr : ((T : Int) % (d : Int)) = (t : Int) := by rw [← Int.natCast_emod, ← ht]
   have hs32 : IntKind.u32.wrap (s : Int) = (s : Int) := by rw [IntKind.wrap_u32]; omega
   have hcg := HBW.out.cell (i := j) (x := O.getD j 0) (by rw [List.getD_eq_getElem?_getD, List.getElem?_eq_getElem (by have := HOL.out; omega)]; rfl)
   have hfg := HBW.out.frozen j
   have HTD := h0d htd
   have HSB : Hid (s < B32) := hsB
   have HSTP := h0d hst
   have hk1i : (j : Int) < (k1 : Int) := by omega
   clear hx hcx hst hs ht hxB hsB htd hk0 hj hT hR hTB hdBo hrd
   go_wp2_with fail
   go_roundw
   case rel =>
    refine ⟨j, t, O.set j s, by omega, by first | rfl | exact val_int hdr, rfl, HTD.out, by show _ = _; rw [List.length_set]; exact HOL.out, fun z hz => ?_, HBW.out.set_ j s, HBEL.out.setCell (Nat.le_refl _) _, HSTP.out⟩
    rcases List.mem_or_eq_of_mem_set hz with h | h
    ·exact HOX.out z h
    ·rw [h]; exact HSB.out
   case measure => simp [intOf]
end Go.Proofs.YtodckaioeomccaaGreat
namespace Go.Proofs.YtodckaioeomccaaGreat
open Go.RowKit
set_option linter.unusedVariables false
set_option linter.unusedSimpArgs false
def bl (n : Nat) : Nat := if n = 0 then 0 else n.log2 + 1
theorem bl_zero : bl 0 = 0 := rfl
theorem bl_half {n : Nat} (h : n ≠ 0) : bl n = bl (n / 2) + 1 := by
 unfold bl
 rw [if_neg h, Nat.log2_def]
 by_cases h2 : 2 ≤ n
 ·rw [if_pos h2, if_neg (by omega)]
 ·rw [if_neg h2, if_pos (by omega)]
theorem bl_lt (n : Nat) : n < 2 ^ bl n := by
 unfold bl
 split
 ·rename_i h; rw [h]; decide
 ·exact Nat.lt_log2_self
theorem bl_ge {n : Nat} (h : n ≠ 0) : 2 ^ (bl n - 1) ≤ n := by
 unfold bl
 rw [if_neg h, Nat.add_sub_cancel]
 exact Nat.log2_self_le h
theorem bl_of {n b : Nat} (h1 : 2 ^ b ≤ n) (h2 : n < 2 ^ (b + 1)) : bl n = b + 1 := by
 have h0 : n ≠ 0 := by have := Nat.two_pow_pos b; omega
 unfold bl
 rw [if_neg h0, (Nat.log2_eq_iff h0).2 ⟨h1, h2⟩]
theorem bl_le {n b : Nat} (h : n < 2 ^ b) : bl n ≤ b := by
 refine Nat.not_lt.1 fun hlt => ?_
 have h0 : n ≠ 0 := fun e => by rw [e, bl_zero] at hlt; omega
 have h1 := bl_ge h0
 have : 2 ^ b ≤ 2 ^ (bl n - 1) := Nat.pow_le_pow_right (by omega) (by omega)
 omega
theorem two32 : (2 : Nat) ^ 32 = B32 := by unfold B32; decide
theorem bl_top {n k x : Nat} (hk : dm n = k + 1) (hx : (digs B32 n)[k]? = some x) : bl n = 32 * k + bl x ∧ x ≠ 0 ∧ x < B32 := by
 have hxB := digs_lt B32_2 n x (List.mem_of_getElem? hx)
 have h1 := val_split' B32 (digs B32 n) k
 rw [val_digs B32_2, val_drop B32 hx, List.drop_of_length_le (by unfold dm at hk; omega)] at h1
 simp only [val, Nat.mul_zero, Nat.add_zero] at h1
 have h2 : val B32 ((digs B32 n).take k) < B32 ^ k := by
  have := val_lt (b := B32) (by unfold B32; omega) (xs := (digs B32 n).take k) (fun z hz => digs_lt B32_2 n z (List.mem_of_mem_take hz))
  rwa [List.length_take, Nat.min_eq_left (by unfold dm at hk; omega)] at this
 have hx0 : x ≠ 0 := fun e => by
  have h3 : n < B32 ^ k := by rw [h1, e]; omega
  have := (dm_le_iff n k).2 h3
  omega
 refine ⟨?_, hx0, hxB⟩
 have h3 := bl_ge hx0
 have h4 := bl_lt x
 obtain ⟨c, hc⟩ : ∃ c, bl x = c + 1 := ⟨bl x - 1, by have := bl_half hx0; omega⟩
 rw [hc] at h3 h4 ⊢
 rw [Nat.add_sub_cancel] at h3
 have hB : B32 ^ k = 2 ^ (32 * k) := by rw [← two32, ← Nat.pow_mul]
 rw [hB] at h1 h2
 have := bl_of (n := n) (b := 32 * k + c) (by
  rw [Nat.pow_add]
  have := Nat.mul_le_mul_left (2 ^ (32 * k)) h3
  omega) (by
  rw [Nat.add_assoc, Nat.pow_add]
  have : 2 ^ (32 * k) * (x + 1) ≤ 2 ^ (32 * k) * 2 ^ (c + 1) := Nat.mul_le_mul_left _ h4
  rw [Nat.mul_add, Nat.mul_one] at this
  omega)
 omega
set_option maxRecDepth 100000 in
set_option maxHeartbeats 2000000 in
theorem rbits_any (va : Value) (n : Nat) (w : World) (hP : RdM w va n) (hn6 : dm n ≤ 4000000) :
  Calls Tryz.prog 280 #[va] w fun e w' => e = .returned (.int .i64 (bl n : Int)) ∧ w = w' := by
 obtain ⟨A1, k1, c1, rfl, e1, hk1, _, hm1, hc1⟩ := RdV.open_ hP
 have hk16 : k1 ≤ 4000000 := by unfold dm at hn6; omega
 by_cases h0 : k1 = 0
 ·have HZ : Hid (bl n = 0) := by
   show _ = _
   have : n = 0 := (digs_nil B32_2).1 (List.length_eq_zero_iff.1 (by rw [e1, h0]))
   rw [this]; rfl
  clear e1 hc1 hP
  subst h0
  go_enter Tryz.func280, Tryz.ntmps280
  go_wp2_with fail
  go_ret
  exact ⟨by rw [HZ.out]; rfl, rfl⟩
 ·obtain ⟨j, rfl⟩ : ∃ j, k1 = j + 1 := ⟨k1 - 1, by omega⟩
  obtain ⟨b1, f1, x, rfl, hb1, hx, hcx⟩ := hc1 j (by omega)
  obtain ⟨hb, hx0, hxB⟩ := bl_top (n := n) (k := j) e1 hx
  have HB := h0d hb
  have hj0 : (((j + 1 : Nat) : Int) == 0) = false := by simp; omega
  have hj : (((j + 1 : Nat) : Int) - 1) = (j : Int) := by omega
  have hjl : (j : Int) < ((j + 1 : Nat) : Int) := by omega
  have hxB' : x < 4294967296 := by unfold B32 at hxB; exact hxB
  have hbx : bl x ≤ 32 := bl_le (by rw [two32]; exact hxB)
  have HBX := h0d hbx
  have HXB := h0d hxB'
  clear e1 hc1 hP hx hx0 hb hxB h0 hbx
  go_enter Tryz.func280, Tryz.ntmps280
  go_wp2_with fail
  go_loop [3, 4] (fun nv tv => ∃ (y c : Nat), nv = .int .i64 (c : Int) ∧ tv = .int .u32 (y : Int) ∧ y < 4294967296 ∧ c ≤ 200000000 ∧ Hid (c + bl y = 32 * j + bl x)) (fun _ tv => (intOf tv).toNat)
  case atStart => exact ⟨x, 32 * j, by go_num, rfl, HXB.out, by omega, rfl⟩
  case round =>
   obtain ⟨y, c, rfl, rfl, hy, hc, HV⟩ := hrel
   by_cases hy0 : y = 0
   ·have HF : Hid (c = bl n) := by
     show _ = _
     rw [HB.out, ← HV.out, hy0]; rfl
    subst hy0
    clear HV
    go_wp2_with fail
    go_ret
    exact ⟨by rw [HF.out]; rfl, rfl⟩
   ·have hyp : (0 : Int) < (y : Int) := by omega
    have HF : Hid (c + 1 + bl (y / 2) = 32 * j + bl x) := by
     show _ = _
     have := HV.out
     rw [bl_half hy0] at this
     omega
    obtain ⟨z, hz⟩ : ∃ z, z = y / 2 := ⟨_, rfl⟩
    have hy2 : (y : Int) / 2 = (z : Int) := by omega
    rw [← hz] at HF
    have HZL : Hid (z < y) := by show _ < _; omega
    clear hz
    clear HV
    go_wp2_with fail
    go_round
    case rel =>
     have hcb : c + 1 ≤ 200000000 := by
      have := HF.out; have := HBX.out; omega
     exact ⟨z, c + 1, by go_num, by first | rfl | exact val_int hy2, by have := HZL.out; omega, hcb, HF.out⟩
    case measure => have := HZL.out; simp [intOf]; omega
theorem raise_step {O am : List Nat} {i q x c B R : Nat} (hB : 0 < B) (hk : O.length = q + i) (hx : am[i]? = some x)
  (h : val B O + c * B ^ (q + i) = val B (am.take i) * R * B ^ q) :
  val B (O ++ [(x * R + c) % B]) + ((x * R + c) / B) * B ^ (q + (i + 1)) = val B (am.take (i + 1)) * R * B ^ q := by
 rw [val_append, val_one, val_take B hx, hk, Nat.add_mul, Nat.add_mul]
 obtain ⟨s, hs⟩ : ∃ s, s = x * R + c := ⟨_, rfl⟩
 rw [← hs, ← h]
 have e := Nat.div_add_mod s B
 have e2 : B ^ (q + i) * (s % B) + s / B * B ^ (q + (i + 1)) = s * B ^ (q + i) := by
  rw [show q + (i + 1) = (q + i) + 1 by omega, Nat.pow_succ]
  conv => rhs; rw [← e, Nat.add_mul, Nat.mul_comm (s % B)]
  rw [Nat.add_comm, Nat.mul_comm (B ^ (q + i)) B, ← Nat.mul_assoc, Nat.mul_comm (s / B) B]
 have e3 : s * B ^ (q + i) = x * B ^ i * R * B ^ q + c * B ^ (q + i) := by
  rw [hs, Nat.add_mul, Nat.pow_add]
  congr 1
  rw [Nat.mul_comm (B ^ q), ← Nat.mul_assoc, Nat.mul_assoc x R, Nat.mul_comm R, ← Nat.mul_assoc x]
 omega
theorem two_pow_split32 (k : Nat) : 2 ^ k = 2 ^ (k % 32) * B32 ^ (k / 32) := by
 rw [← two32, ← Nat.pow_mul, ← Nat.pow_add]
 congr 1
 omega
set_option maxRecDepth 100000 in
set_option maxHeartbeats 8000000 in
theorem rraised_own (va : Value) (m k : Nat) (w : World) (hP : RdM w va m) (hm6 : dm m ≤ 2000000) (hk6 : k ≤ 32000000) :
  Calls Tryz.prog 281 #[va, .int .i64 (k : Int)] w fun e w' => (∃ v', e = .returned v' ∧ RdMS w' (w.heap.size ≤ ·) v' (m * 2 ^ k)) ∧ Below w.heap.size w w' := by
 have hmk := make_words32
 obtain ⟨i0, hi0, hz0, hz1, hz2⟩ := info_parts info119
 obtain ⟨A1, k1, c1, rfl, e1, hk1, _, hm1, hc1⟩ := RdV.open_ hP
 have hk16 : k1 ≤ 2000000 := by unfold dm at hm6; omega
 have HE1 := h0d e1
 have HC1 := h0d hc1
 obtain ⟨q, hq⟩ : ∃ q, q = k / 32 := ⟨_, rfl⟩
 obtain ⟨r, hr⟩ : ∃ r, r = k % 32 := ⟨_, rfl⟩
 have HMK := hmk q q (Nat.le_refl _) (by omega)
 obtain ⟨C0, hC0⟩ : ∃ C, C = ((List.replicate q 0).map u32V).toArray := ⟨_, rfl⟩
 rw [← hC0] at HMK
 have HB0 : Hid (OwnV (w.alloc (.cells C0 271)) w.heap.size (.slice (some ⟨w.heap.size, 0, none⟩) q q) (List.replicate q 0)) := by
  rw [hC0]
  have := (BlkV.new w (List.replicate q 0)).own (n := q) (Nat.le_refl _) (by simp) (by unfold maxLen; simp; omega)
  unfold OwnV
  simp only [List.length_replicate, List.take_replicate, Nat.min_self] at this ⊢
  exact this
 have HZM : Hid (k1 = 0 → m = 0) := fun h => (digs_nil B32_2).1 (List.length_eq_zero_iff.1 (by rw [e1, h]))
 clear hmk e1 hc1 hP hC0 hm6
 by_cases h0 : k1 = 0
 ·have HZ : Hid (m * 2 ^ k = 0) := by show _ = _; rw [HZM.out h0, Nat.zero_mul]
  subst h0
  go_enter Tryz.func281, Tryz.ntmps281
  go_wp2_with fail
  go_ret
  exact ⟨⟨_, rfl, by rw [HZ.out]; unfold RdMS; rw [digs_zero]; exact Rd.none_ _ _ _⟩, Below.refl _ _⟩
 ·have h0b : ((k1 : Int) == 0) = false := by simp; omega
  have hkq : (k : Int) / 32 = (q : Int) := by omega
  have hkr : (k : Int) % 32 = (r : Int) := by omega
  have hr32 : r < 32 := by omega
  have HPW : Hid (2 ^ k = 2 ^ r * B32 ^ q) := by show _ = _; rw [hq, hr]; exact two_pow_split32 k
  clear hq hr h0
  go_enter Tryz.func281, Tryz.ntmps281
  go_wp2_with fail
  go_loopw [5, 6, 7] (fun ov cv iv wr => ∃ (i c : Nat) (O : List Nat), i ≤ k1 ∧ cv = .int .u64 (c : Int) ∧ iv = .int .i64 (i : Int) ∧ Hid (c < 2 ^ r) ∧ Hid (O.length = q + i) ∧ Hid (∀ x ∈ O, x < B32) ∧ Hid (OwnV wr w.heap.size ov O) ∧ Hid (Below w.heap.size w wr) ∧ Hid (val B32 O + c * B32 ^ (q + i) = val B32 ((digs B32 m).take i) * 2 ^ r * B32 ^ q)) (fun _ _ iv _ => k1 - (intOf iv).toNat)
  case atStart =>
   refine ⟨0, 0, List.replicate q 0, Nat.zero_le _, rfl, rfl, Nat.two_pow_pos r, by show _ = _; simp, fun x hx => ?_, HB0, (Below.refl _ w).alloc (Nat.le_refl _) _, ?_⟩
   ·rw [List.eq_of_mem_replicate hx]; unfold B32; omega
   ·show _ = _
    rw [val_replicate]; simp [val]
  case round =>
   obtain ⟨i, c, O, hi, rfl, rfl, HCB, HOL, HOX, HOW, HBEL, HV⟩ := hrel
   obtain ⟨A5, c5, rfl⟩ := HOW.out.slice
   rw [HOL.out]
   by_cases hlt : i < k1
   ·obtain ⟨b1, f1, x, rfl, hb1, hx, hcx⟩ := HC1.out i hlt
    have hxB := digs_lt B32_2 m x (List.mem_of_getElem? hx)
    have hcx' := (HBEL.out.cell (p := ⟨b1, f1 + i, none⟩) hb1).trans hcx
    have hst := raise_step (B := B32) (by unfold B32; omega) HOL.out hx HV.out
    have hcB := HCB.out
    obtain ⟨X, hX⟩ : ∃ X, X = x * 2 ^ r := ⟨_, rfl⟩
    have hXl : X < B32 * 2 ^ r := by rw [hX]; exact Nat.mul_lt_mul_of_pos_right hxB (Nat.two_pow_pos r)
    have hXm : X + 2 ^ r ≤ B32 * 2 ^ r := by
     have : (x + 1) * 2 ^ r ≤ B32 * 2 ^ r := Nat.mul_le_mul_right _ hxB
     rw [Nat.add_mul, Nat.one_mul] at this
     omega
    have h2r : 2 ^ r ≤ 2147483648 := by
     have : 2 ^ r ≤ 2 ^ 31 := Nat.pow_le_pow_right (by omega) (by omega)
     simpa using this
    have hXB : X + c < 18446744073709551616 := by
     have : B32 * 2 ^ r ≤ B32 * 2147483648 := Nat.mul_le_mul_left _ h2r
     unfold B32 at this hXm
     omega
    have hor : X ||| c = X + c := by rw [Nat.or_comm, or_parts hcB (by rw [hX]; exact Nat.dvd_mul_left _ _), Nat.add_comm]
    have hw0 : IntKind.u64.wrap (x : Int) = (x : Int) := wrap_nat x (by unfold B32 at hxB; omega)
    have hcX : (x : Int) * 2 ^ r = (X : Int) := by rw [hX, Int.natCast_mul, Int.natCast_pow]; rfl
    have hwX : IntKind.u64.wrap (X : Int) = (X : Int) := wrap_nat X (by omega)
    obtain ⟨T, hT⟩ : ∃ T, T = X + c := ⟨_, rfl⟩
    have hbo : bits .or .u64 (X : Int) (c : Int) = (T : Int) := by
     rw [bits_or_u64_nat _ _ (by omega) (by omega), hor, hT]
    rw [← hX, ← hT] at hst
    rw [← hT] at hXB
    obtain ⟨s, hs⟩ : ∃ s, s = T % B32 := ⟨_, rfl⟩
    obtain ⟨t, ht⟩ : ∃ t, t = T / B32 := ⟨_, rfl⟩
    rw [← hs, ← ht] at hst
    have htr : t < 2 ^ r := by rw [ht, Nat.div_lt_iff_lt_mul (by unfold B32; omega), Nat.mul_comm]; omega
    have hsB : s < B32 := by rw [hs]; exact Nat.mod_lt _ (by unfold B32; omega)
    have hs32 : IntKind.u32.wrap (T : Int) = (s : Int) := by rw [IntKind.wrap_u32, hs]; unfold B32; omega
    have hsh : (T : Int) / 4294967296 = (t : Int) := by rw [ht]; unfold B32; omega
    have HST := h0d hst
    have HSB := h0d hsB
    have HTR := h0d htr
    have hwr : IntKind.u64.wrap (r : Int) = (r : Int) := wrap_nat r (by omega)
    have hktm : (k : Int).tmod 32 = (r : Int) := by rw [Int.tmod_eq_emod_of_nonneg (by omega), hkr]
    have hminr : min r 64 = r := by omega
    clear hx hcx hst hcB hX hXl hXm h2r hXB hor hT hs ht htr hsB hxB
    have HOW1 := h0d (World.ownsRow.alloc HOW.out (.cells #[.int .u32 (s : Int)] 271))
    rw [HOL.out] at HOW1
    have HBE1 : Hid (Below w.heap.size w (wr.alloc (.cells #[.int .u32 (s : Int)] 271))) := HBEL.out.alloc HBEL.out.size _
    go_wp2_with (at_builtin; refine wpList_append_own _ rfl _ _ 38 rfl w.heap.size 271 i0 (.int .u32 0) 1 4 Tryz.underlying38 hi0 hz0 hz1 hz2 rfl (by decide) _ (q + i) _ rfl HOW1.out ⟨wr.heap.size, 0, none⟩ 1 1 [.int .u32 (s : Int)] rfl rfl (cells_new wr #[.int .u32 (s : Int)] 271 (0, 0)) (fun u hu => by rw [List.mem_singleton.1 hu]; rfl) (by unfold maxLen; omega) (by omega) (by have := HBEL.out.size; simp; omega) ?_; intro v' w1 hown1 hgrow1 _; have HW1 := h0d hown1; have HG1 := h0d hgrow1; clear hown1 hgrow1)
    go_roundw
    case rel =>
     refine ⟨i + 1, t, O ++ [s], by omega, rfl, by go_num, HTR.out, by show _ = _; rw [List.length_append, HOL.out]; rfl, fun z hz => ?_, ?_, HBE1.out.grown HG1.out (by have := HBEL.out.size; simp; omega) (fun g hg => (HOW1.out.lt g hg).1), HST.out⟩
     ·rcases List.mem_append.1 hz with h | h
      ·exact HOX.out z h
      ·rw [List.mem_singleton.1 h]; exact HSB.out
     ·have h := HW1.out
      unfold OwnV
      rw [List.length_append, HOL.out, List.map_append]; exact h
    case measure => simp [intOf]; omega
   ·obtain rfl : i = k1 := by omega
    obtain ⟨xs, hxs⟩ : ∃ xs, xs = O ++ [c] := ⟨_, rfl⟩
    have hcB : c < B32 := by
     have h1 := HCB.out
     have : 2 ^ r ≤ 2 ^ 32 := Nat.pow_le_pow_right (by omega) (by omega)
     rw [two32] at this
     omega
    have HXX : Hid (∀ x ∈ xs, x < B32) := fun z hz => by
     rw [hxs] at hz
     rcases List.mem_append.1 hz with h | h
     ·exact HOX.out z h
     ·rw [List.mem_singleton.1 h]; exact hcB
    have HXV : Hid (val B32 xs = m * 2 ^ k) := by
     show _ = _
     have h1 := HV.out
     rw [List.take_of_length_le (by rw [HE1.out]; omega), val_digs B32_2, Nat.mul_assoc, ← HPW.out] at h1
     rw [hxs, val_append, val_one, HOL.out, Nat.mul_comm (B32 ^ _)]; exact h1
    have hc32 : IntKind.u32.wrap (c : Int) = (c : Int) := by rw [IntKind.wrap_u32]; unfold B32 at hcB; omega
    have HXS := h0d hxs
    have HOW1 := h0d (World.ownsRow.alloc HOW.out (.cells #[.int .u32 (c : Int)] 271))
    rw [HOL.out] at HOW1
    have HBE1 : Hid (Below w.heap.size w (wr.alloc (.cells #[.int .u32 (c : Int)] 271))) := HBEL.out.alloc HBEL.out.size _
    clear hxs hcB
    go_wp2_with (at_builtin; refine wpList_append_own _ rfl _ _ 38 rfl w.heap.size 271 i0 (.int .u32 0) 1 4 Tryz.underlying38 hi0 hz0 hz1 hz2 rfl (by decide) _ (q + i) _ rfl HOW1.out ⟨wr.heap.size, 0, none⟩ 1 1 [.int .u32 (c : Int)] rfl rfl (cells_new wr #[.int .u32 (c : Int)] 271 (0, 0)) (fun u hu => by rw [List.mem_singleton.1 hu]; rfl) (by unfold maxLen; omega) (by omega) (by have := HBEL.out.size; simp; omega) ?_; intro v' w1 hown1 hgrow1 _; have HW1 := h0d hown1; have HG1 := h0d hgrow1; clear hown1 hgrow1)
    have hOV : OwnV w1 w.heap.size v' xs := by
     have h := HW1.out
     unfold OwnV
     rw [HXS.out, List.length_append, HOL.out, List.map_append]; exact h
    refine (rcut_numS _ v' xs w1 hOV.rdS HXX.out).mono ?_
    rintro e w2 ⟨⟨v2, rfl, hr⟩, rfl⟩
    rw [HXV.out] at hr
    have HR := h0d hr
    clear hr hOV
    go_wp2_with fail
    go_ret
    exact ⟨⟨_, rfl, HR.out⟩, HBE1.out.grown HG1.out (by have := HBEL.out.size; simp; omega) (fun g hg => (HOW1.out.lt g hg).1)⟩
theorem lower_get {m q r i x y : Nat} (hr : r < 32) (hx : (digs B32 m)[i + q]? = some x) (hy : (digs B32 m).getD (i + q + 1) 0 = y) :
  (x + B32 * y) / 2 ^ r % B32 = m / (2 ^ r * B32 ^ q) / B32 ^ i % B32 := by
 have hp : 0 < 2 ^ r := Nat.two_pow_pos r
 have e64 : 2 ^ r * 2 ^ (32 - r) = B32 := by rw [← Nat.pow_add, show r + (32 - r) = 32 by omega, two32]
 obtain ⟨h1, h2⟩ := digs_get_div B32_2 hx
 have hy' : m / B32 ^ (i + q + 1) % B32 = y := by
  by_cases h : i + q + 1 < (digs B32 m).length
  ·have e := List.getElem?_eq_getElem h
   rw [← hy, getD_of e, (digs_get_div B32_2 e).1]
  ·rw [← hy, List.getD_eq_getElem?_getD, List.getElem?_eq_none (by omega), digs_div_none B32_2 (by omega)]; rfl
 have e : m / (2 ^ r * B32 ^ q) / B32 ^ i = m / B32 ^ (i + q) / 2 ^ r := by
  rw [Nat.div_div_eq_div_mul, Nat.div_div_eq_div_mul, Nat.pow_add]
  congr 1
  rw [Nat.mul_comm (2 ^ r), Nat.mul_assoc, Nat.mul_comm (2 ^ r), ← Nat.mul_assoc, Nat.mul_comm (B32 ^ q)]
 obtain ⟨M, hM⟩ : ∃ M, M = m / B32 ^ (i + q + 1) := ⟨_, rfl⟩
 rw [← hM] at hy' h2
 have hMy := Nat.div_add_mod M B32
 rw [hy'] at hMy
 have h3 : x + B32 * M = x + B32 * y + 2 ^ r * (2 ^ (32 - r) * (B32 * (M / B32))) := by
  rw [← Nat.mul_assoc (2 ^ r), e64]
  conv => lhs; rw [← hMy]
  rw [Nat.mul_add]
  omega
 rw [e, h2, h3, Nat.add_mul_div_left _ _ hp, ← Nat.mul_assoc, Nat.mul_comm (2 ^ (32 - r)), Nat.mul_assoc, Nat.add_mul_mod_self_left]
set_option maxRecDepth 100000 in
set_option maxHeartbeats 8000000 in
theorem rlowered_any (va : Value) (m k : Nat) (w : World) (hP : RdM w va m) (hm6 : dm m ≤ 2000000) (hk6 : k ≤ 1000000000) :
  Calls Tryz.prog 282 #[va, .int .i64 (k : Int)] w fun e w' => (∃ v', e = .returned v' ∧ RdM w' v' (m / 2 ^ k)) ∧ Below w.heap.size w w' := by
 obtain ⟨i0, hi0, hz0, hz1, hz2⟩ := info_parts info119
 obtain ⟨A1, k1, c1, rfl, e1, hk1, _, hm1, hc1⟩ := RdV.open_ hP
 have hk16 : k1 ≤ 2000000 := by unfold dm at hm6; omega
 have HE1 := h0d e1
 have HC1 := h0d hc1
 obtain ⟨q, hq⟩ : ∃ q, q = k / 32 := ⟨_, rfl⟩
 obtain ⟨r, hr⟩ : ∃ r, r = k % 32 := ⟨_, rfl⟩
 have hkq : (k : Int) / 32 = (q : Int) := by omega
 have hkr : (k : Int) % 32 = (r : Int) := by omega
 have hr32 : r < 32 := by omega
 have hq6 : q ≤ 1000000000 := by omega
 obtain ⟨N, hN⟩ : ∃ N, N = m / (2 ^ r * B32 ^ q) := ⟨_, rfl⟩
 have HN : Hid (m / 2 ^ k = N) := by show _ = _; rw [hN, hq, hr, ← two_pow_split32 k]
 have HG : Hid (∀ (i x y : Nat), (digs B32 m)[i + q]? = some x → (digs B32 m).getD (i + q + 1) 0 = y → (x + B32 * y) / 2 ^ r % B32 = N / B32 ^ i % B32) := fun i x y h1 h2 => by rw [hN]; exact lower_get hr32 h1 h2
 have HNS : Hid (∀ i, k1 ≤ i + q → N < B32 ^ i) := fun i h => by
  rw [hN, Nat.div_lt_iff_lt_mul (Nat.mul_pos (Nat.two_pow_pos r) (Nat.pow_pos (by unfold B32; omega)))]
  have h1 : m < B32 ^ (i + q) := (len_le_iff B32_2 m _).1 (by rw [e1]; exact h)
  rw [Nat.pow_add] at h1
  have h2 : B32 ^ i * B32 ^ q ≤ B32 ^ i * (2 ^ r * B32 ^ q) := Nat.mul_le_mul_left _ (Nat.le_mul_of_pos_left _ (Nat.two_pow_pos r))
  omega
 clear e1 hc1 hP hm6 hq hr hN
 go_enter Tryz.func282, Tryz.ntmps282
 go_wp2_with fail
 go_loopw [5, 6] (fun ov iv wr => ∃ (i : Nat), (i = 0 ∨ i + q ≤ k1) ∧ iv = .int .i64 ((i : Int) + (q : Int)) ∧ Hid (OwnV wr w.heap.size ov (padded B32 N i)) ∧ Hid (Below w.heap.size w wr)) (fun _ iv _ => k1 - (intOf iv).toNat)
 case atStart =>
  exact ⟨0, .inl rfl, by simp, OwnV.made w, (Below.refl _ w).alloc (Nat.le_refl _) _⟩
 case round =>
  obtain ⟨i, hi, rfl, HOW, HBEL⟩ := hrel
  obtain ⟨O, hO⟩ : ∃ O, O = padded B32 N i := ⟨_, rfl⟩
  have HOO := h0d hO
  rw [← hO] at HOW
  have HOL : Hid (O.length = i) := by show _ = _; rw [hO, padded_length]
  have HOX : Hid (∀ x ∈ O, x < B32) := by rw [hO]; exact padded_lt B32_2 N i
  obtain ⟨A5, c5, rfl⟩ := HOW.out.slice
  rw [HOL.out]
  clear hO
  by_cases hlt : i + q < k1
  ·obtain ⟨b1, f1, x, rfl, hb1, hx, hcx⟩ := HC1.out (i + q) hlt
   have hxB := digs_lt B32_2 m x (List.mem_of_getElem? hx)
   have hcx' := (HBEL.out.cell (p := ⟨b1, f1 + (i + q), none⟩) hb1).trans hcx
   have hxB' : x < 4294967296 := by unfold B32 at hxB; exact hxB
   have hw0 : IntKind.u64.wrap (x : Int) = (x : Int) := wrap_nat x (by omega)
   have hwr : IntKind.u64.wrap (r : Int) = (r : Int) := wrap_nat r (by omega)
   have hktm : (k : Int).tmod 32 = (r : Int) := by rw [Int.tmod_eq_emod_of_nonneg (by omega), hkr]
   have hminr : min r 64 = r := by omega
   have hi6 : i ≤ 2000000 := by omega
   have hlti : (i : Int) + (q : Int) < (k1 : Int) := by omega
   have hiq0 : (0 : Int) ≤ (i : Int) + (q : Int) := by omega
   have hiqn : ((i : Int) + (q : Int)).toNat = i + q := by omega
   by_cases hl2 : i + q + 1 < k1
   ·obtain ⟨b2, f2, y, he2, hb2, hy, hcy⟩ := HC1.out (i + q + 1) hl2
    obtain ⟨rfl, rfl⟩ : b1 = b2 ∧ f1 = f2 := by simpa using he2
    have hyB := digs_lt B32_2 m y (List.mem_of_getElem? hy)
    have hyB' : y < 4294967296 := by unfold B32 at hyB; exact hyB
    have hcy' := (HBEL.out.cell (p := ⟨b1, f1 + (i + q + 1), none⟩) hb1).trans hcy
    have hg := HG.out i x y hx (getD_of hy)
    obtain ⟨Y, hY⟩ : ∃ Y, Y = y * 4294967296 := ⟨_, rfl⟩
    have hwy : IntKind.u64.wrap (y : Int) = (y : Int) := wrap_nat y (by omega)
    have hcY : IntKind.u64.wrap ((y : Int) * 4294967296) = (Y : Int) := by rw [show (y : Int) * 4294967296 = (Y : Int) by omega]; exact wrap_nat Y (by omega)
    obtain ⟨T, hT⟩ : ∃ T, T = x + B32 * y := ⟨_, rfl⟩
    have hor : bits .or .u64 (x : Int) (Y : Int) = (T : Int) := by
     rw [bits_or_u64_nat _ _ (by omega) (by omega), or_parts (r := 32) (by rw [two32]; exact hxB) (by rw [hY]; exact Nat.dvd_mul_left _ _), hT, hY, Nat.mul_comm B32]; rfl
    rw [← hT] at hg
    obtain ⟨s, hs⟩ : ∃ s, s = N / B32 ^ i % B32 := ⟨_, rfl⟩
    obtain ⟨U, hU⟩ : ∃ U, U = T / 2 ^ r := ⟨_, rfl⟩
    have hdr : (T : Int) / 2 ^ r = (U : Int) := by rw [hU, Int.natCast_ediv, Int.natCast_pow]; rfl
    have hs32 : IntKind.u32.wrap (U : Int) = (s : Int) := by rw [IntKind.wrap_u32, hs, ← hg, hU]; unfold B32; omega
    clear hU
    have HS := h0d hs
    have hl2i : (i : Int) + (q : Int) + 1 < (k1 : Int) := by omega
    have hiq10 : (0 : Int) ≤ (i : Int) + (q : Int) + 1 := by omega
    have hn1 : ((i : Int) + (q : Int) + 1).toNat = i + q + 1 := by omega
    have hw1 : IntKind.i64.wrap ((i : Int) + (q : Int) + 1) = (i : Int) + (q : Int) + 1 := IntWalk.i64_in _ (by omega)
    clear hx hcx hg hT hs hxB hyB hy hcy he2 hY hi
    have HOW1 := h0d (World.ownsRow.alloc HOW.out (.cells #[.int .u32 (s : Int)] 271))
    rw [HOL.out] at HOW1
    have HBE1 : Hid (Below w.heap.size w (wr.alloc (.cells #[.int .u32 (s : Int)] 271))) := HBEL.out.alloc HBEL.out.size _
    go_wp2_with (at_builtin; refine wpList_append_own _ rfl _ _ 38 rfl w.heap.size 271 i0 (.int .u32 0) 1 4 Tryz.underlying38 hi0 hz0 hz1 hz2 rfl (by decide) _ (i) _ rfl HOW1.out ⟨wr.heap.size, 0, none⟩ 1 1 [.int .u32 (s : Int)] rfl rfl (cells_new wr #[.int .u32 (s : Int)] 271 (0, 0)) (fun u hu => by rw [List.mem_singleton.1 hu]; rfl) (by unfold maxLen; omega) (by omega) (by have := HBEL.out.size; simp; omega) ?_; intro v' w1 hown1 hgrow1 _; have HW1 := h0d hown1; have HG1 := h0d hgrow1; clear hown1 hgrow1)
    go_roundw
    case rel =>
     refine ⟨i + 1, .inr (by omega), by go_num, ?_, HBE1.out.grown HG1.out (by have := HBEL.out.size; simp; omega) (fun g hg => (HOW1.out.lt g hg).1)⟩
     have h := HW1.out
     show OwnV _ _ _ _
     unfold OwnV
     rw [padded_succ, ← HOO.out, ← HS.out, List.length_append, HOL.out, List.map_append]; exact h
    case measure => simp [intOf]; omega
   ·have hg := HG.out i x 0 hx (by rw [List.getD_eq_getElem?_getD, List.getElem?_eq_none (by rw [HE1.out]; omega)]; rfl)
    rw [Nat.mul_zero, Nat.add_zero] at hg
    obtain ⟨s, hs⟩ : ∃ s, s = N / B32 ^ i % B32 := ⟨_, rfl⟩
    obtain ⟨U, hU⟩ : ∃ U, U = x / 2 ^ r := ⟨_, rfl⟩
    have hdr : (x : Int) / 2 ^ r = (U : Int) := by rw [hU, Int.natCast_ediv, Int.natCast_pow]; rfl
    have hs32 : IntKind.u32.wrap (U : Int) = (s : Int) := by rw [IntKind.wrap_u32, hs, ← hg, hU]; unfold B32; omega
    clear hU
    have HS := h0d hs
    have hl2i : ¬ (i : Int) + (q : Int) + 1 < (k1 : Int) := by omega
    have hw1 : IntKind.i64.wrap ((i : Int) + (q : Int) + 1) = (i : Int) + (q : Int) + 1 := IntWalk.i64_in _ (by omega)
    clear hx hcx hg hs hxB hi
    have HOW1 := h0d (World.ownsRow.alloc HOW.out (.cells #[.int .u32 (s : Int)] 271))
    rw [HOL.out] at HOW1
    have HBE1 : Hid (Below w.heap.size w (wr.alloc (.cells #[.int .u32 (s : Int)] 271))) := HBEL.out.alloc HBEL.out.size _
    go_wp2_with (at_builtin; refine wpList_append_own _ rfl _ _ 38 rfl w.heap.size 271 i0 (.int .u32 0) 1 4 Tryz.underlying38 hi0 hz0 hz1 hz2 rfl (by decide) _ (i) _ rfl HOW1.out ⟨wr.heap.size, 0, none⟩ 1 1 [.int .u32 (s : Int)] rfl rfl (cells_new wr #[.int .u32 (s : Int)] 271 (0, 0)) (fun u hu => by rw [List.mem_singleton.1 hu]; rfl) (by unfold maxLen; omega) (by omega) (by have := HBEL.out.size; simp; omega) ?_; intro v' w1 hown1 hgrow1 _; have HW1 := h0d hown1; have HG1 := h0d hgrow1; clear hown1 hgrow1)
    go_roundw
    case rel =>
     refine ⟨i + 1, .inr (by omega), by go_num, ?_, HBE1.out.grown HG1.out (by have := HBEL.out.size; simp; omega) (fun g hg => (HOW1.out.lt g hg).1)⟩
     have h := HW1.out
     show OwnV _ _ _ _
     unfold OwnV
     rw [padded_succ, ← HOO.out, ← HS.out, List.length_append, HOL.out, List.map_append]; exact h
    case measure => simp [intOf]; omega
  ·have HXV : Hid (val B32 O = m / 2 ^ k) := by
    show _ = _
    rw [HN.out, HOO.out, val_padded B32_2, Nat.mod_eq_of_lt (HNS.out i (by omega))]
   have HCUT := h0d (rcut_num _ O wr HOW.out.rd HOX.out)
   rw [HXV.out, HOL.out] at HCUT
   have hlti : ¬ (i : Int) + (q : Int) < (k1 : Int) := by omega
   clear hi
   go_wp2_with (go_at_call 245; refine HCUT.out.mono ?_; rintro e w2 ⟨⟨v', rfl, hr⟩, rfl⟩; have HR := h0d hr; clear hr)
   go_ret
   exact ⟨⟨_, rfl, HR.out⟩, HBEL.out⟩
end Go.Proofs.YtodckaioeomccaaGreat
