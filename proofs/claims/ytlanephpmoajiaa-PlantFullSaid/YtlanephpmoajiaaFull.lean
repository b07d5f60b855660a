/- The walk of the statement PlantFull. -/
import Derived.Test.YtlanephpmoajiaaGet
import Derived.Deep.RegionHeld3
namespace Go.Proofs.Ytlanephpmoajiaa
open Go.RowKit
set_option linter.unusedVariables false
def tByte (n : Nat) : UInt8 := UInt8.ofNat (48 + n)
def tName (i : Nat) : ByteArray := ⟨#[116, tByte (i / 1000), tByte (i / 100 % 10), tByte (i / 10 % 10), tByte (i % 10)]⟩
def tItem (i : Nat) : ItemD := ⟨tName i, 0, 0, []⟩
def tItems (k : Nat) : List ItemD := (List.range k).map tItem
theorem tItems_len (k : Nat) : (tItems k).length = k := by simp [tItems]
theorem tItems_succ (k : Nat) : tItems (k + 1) = tItems k ++ [tItem k] := by simp [tItems, List.range_succ]
theorem tByte_nat {n : Nat} (h : n ≤ 9) : (tByte n).toNat = 48 + n := by unfold tByte; rw [UInt8.toNat_ofNat']; omega
theorem tByte_inj {a b : Nat} (ha : a ≤ 9) (hb : b ≤ 9) (h : tByte a = tByte b) : a = b := by
  have := congrArg UInt8.toNat h
  rw [tByte_nat ha, tByte_nat hb] at this
  omega
theorem tName_inj {i j : Nat} (hi : i < 10000) (hj : j < 10000) (h : tName i = tName j) : i = j := by
  unfold tName at h
  simp only [ByteArray.mk.injEq, Array.mk.injEq, List.cons.injEq, and_true, true_and] at h
  obtain ⟨h1, h2, h3, h4⟩ := h
  have := tByte_inj (by omega) (by omega) h1
  have := tByte_inj (by omega) (by omega) h2
  have := tByte_inj (by omega) (by omega) h3
  have := tByte_inj (by omega) (by omega) h4
  omega
theorem tName_ok {i : Nat} (hi : i < 10000) : nameB (tName i).data.toList = true := by
  have nb : ∀ n, n ≤ 9 → nameByte (tByte n) = true := fun n hn => by unfold nameByte; rw [tByte_nat hn]; simp; omega
  unfold nameB tName
  simp [nb (i / 1000) (by omega), nb (i / 100 % 10) (by omega), nb (i / 10 % 10) (by omega), nb (i % 10) (by omega)]
  decide
theorem t_idx_none {k i : Nat} (hk : k ≤ i) (hi : i < 10000) : idx (tItems k) (tName i) = none := by
  rw [idx_none]
  intro x hx h
  unfold tItems at hx
  obtain ⟨j, hj, rfl⟩ := List.mem_map.1 hx
  have hj := List.mem_range.1 hj
  have := tName_inj (show j < 10000 by omega) hi h
  omega
theorem t_idx {k i : Nat} (hk : i < k) (hi : k < 10000) : idx (tItems k) (tName i) = some i := by
  induction k with
  | zero => omega
  | succ k ih =>
    rw [tItems_succ]
    by_cases h : i < k
    · exact idx_snoc_some (ih h (by omega))
    · have : i = k := by omega
      subst this
      have := idx_snoc_same (x := tItem i) (t_idx_none (Nat.le_refl i) (by omega))
      rw [tItems_len] at this
      exact this
theorem t_chk {k i : Nat} (hk : k ≤ i) (hi : i < 10000) : chk (tItems k) (tItem i) = 0 := by
  unfold chk
  have h1 : (tItem i).name = tName i := rfl
  rw [h1, tName_ok hi, t_idx_none hk hi]
  simp [tItem, firstNZ]
theorem t_ent {i : Nat} (hi : i < 10000) : entErr (tItems (min i 1024)) (tItem i) = (if i < 1024 then 0 else 9) ∧ entNew (tItems (min i 1024)) (tItem i) = tItems (min (i + 1) 1024) := by
  have h : entErr (tItems (min i 1024)) (tItem i) = (if i < 1024 then 0 else 9) := by
    unfold entErr
    rw [t_chk (by omega) hi, if_pos rfl, tItems_len]
    by_cases h : i < 1024
    · rw [if_neg (by omega), if_pos h]
    · rw [if_pos (by omega), if_neg h]
  refine ⟨h, ?_⟩
  unfold entNew
  rw [h]
  by_cases h2 : i < 1024
  · rw [if_pos h2, if_pos rfl, show min i 1024 = i by omega, show min (i + 1) 1024 = i + 1 by omega, tItems_succ]
  · rw [if_neg h2, if_neg (by decide), show min i 1024 = 1024 by omega, show min (i + 1) 1024 = 1024 by omega]
theorem firstNZ_five {l : List Int} (h : ∀ e ∈ l, e = 5) (hl : l ≠ []) : firstNZ l = 5 := by
  cases l with
  | nil => exact absurd rfl hl
  | cons a l =>
    have := h a (by simp)
    subst this
    rfl
/-- What an item's error is for a book of other names, if it names no item that is missing. -/
theorem chk_other {xs : List ItemD} {x : ItemD} (hi : idx xs x.name = none) (h5 : chk [] x ≠ 5) : chk xs x = chk [] x := by
  unfold chk at h5 ⊢
  have hn : idx [] x.name = none := rfl
  rw [hn] at h5 ⊢
  rw [hi]
  split
  · rfl
  · rename_i h1
    rw [if_neg h1] at h5
    split
    · rfl
    · rename_i h2
      rw [if_neg h2] at h5
      simp only [Option.isSome_none, Bool.false_eq_true, if_false] at h5 ⊢
      cases hf : x.frm with
      | nil => rfl
      | cons c l =>
        exfalso
        apply h5
        refine firstNZ_five ?_ (by rw [hf]; simp)
        intro e he
        obtain ⟨c, hc, rfl⟩ := List.mem_map.1 he
        unfold chkC
        refine firstNZ_five ?_ ?_
        · intro e he
          obtain ⟨k, hk, rfl⟩ := List.mem_map.1 he
          rfl
        · intro h
          have : c.length = 0 := by simpa using h
          have hb : badC c = true := by unfold badC; rw [this]; rfl
          exact h2 (.inr (List.any_eq_true.2 ⟨c, hc, hb⟩))
theorem t_other {k : Nat} {nm : ByteArray} (h : nm.data.toList.head? ≠ some 116) : idx (tItems k) nm = none := by
  rw [idx_none]
  intro x hx h2
  unfold tItems at hx
  obtain ⟨j, _, rfl⟩ := List.mem_map.1 hx
  apply h
  rw [← h2]
  rfl
theorem full_law {k : Nat} {x : ItemD} (hk : k ≤ 1024) {g : Int} (hg : g = if entErr [] x = 0 ∧ k = 1024 then 9 else entErr [] x) (h : x.name.data.toList.head? ≠ some 116) (h5 : g ≠ 5) : entErr (tItems k) x = g := by
  have e0 : entErr [] x = chk [] x := by unfold entErr; by_cases h : chk [] x = 0 <;> simp [h]
  rw [e0] at hg
  have hc : chk (tItems k) x = chk [] x := by
    refine chk_other (t_other h) ?_
    intro h6
    rw [h6, if_neg (by simp)] at hg
    exact h5 hg
  unfold entErr
  rw [hc, tItems_len, hg]
  by_cases h0 : chk [] x = 0
  · rw [if_pos h0]
    by_cases h1 : k = 1024
    · rw [if_pos (by omega), if_pos ⟨h0, h1⟩]
    · rw [if_neg (by omega), if_neg (fun h => h1 h.2), h0]
  · rw [if_neg h0, if_neg (fun h => h0 h.1)]
theorem t_conv (i : Nat) (hi : i ≤ 1100) (w : World) : (convert 33 9 (.slice (some ⟨w.heap.size, 0, none⟩) 5 5)).run Try.prog (w.alloc (.cells #[.int .u8 116, .int .u8 (48 + (i : Int) / 1000), .int .u8 (48 + (i : Int) / 100 % 10), .int .u8 (48 + (i : Int) / 10 % 10), .int .u8 (48 + (i : Int) % 10)] 5)) =
    .ok (.string (tName i)) (w.alloc (.cells #[.int .u8 116, .int .u8 (48 + (i : Int) / 1000), .int .u8 (48 + (i : Int) / 100 % 10), .int .u8 (48 + (i : Int) / 10 % 10), .int .u8 (48 + (i : Int) % 10)] 5)) := by
  have hm := heap_alloc_new w (.cells #[.int .u8 116, .int .u8 (48 + (i : Int) / 1000), .int .u8 (48 + (i : Int) / 100 % 10), .int .u8 (48 + (i : Int) / 10 % 10), .int .u8 (48 + (i : Int) % 10)] 5)
  obtain ⟨W, hW⟩ : ∃ W, W = w.alloc (.cells #[.int .u8 116, .int .u8 (48 + (i : Int) / 1000), .int .u8 (48 + (i : Int) / 100 % 10), .int .u8 (48 + (i : Int) / 10 % 10), .int .u8 (48 + (i : Int) % 10)] 5) := ⟨_, rfl⟩
  rw [← hW] at hm ⊢
  refine run_convert_bytes_back W 33 9 5 ⟨w.heap.size, 0, none⟩ 5 (tName i).data.toList Try.underlying33 Try.underlying5 Try.underlying9 (fun j hj => ?_)
  rw [addr_add, Nat.zero_add, cell_of_row W _ j _ _ _ hm]
  have hj5 : j < 5 := hj
  match j, hj5 with
  | 0, _ => rfl
  | 1, _ => simp [tName, tByte_nat (n := i / 1000) (by omega)]
  | 2, _ => simp [tName, tByte_nat (n := i / 100 % 10) (by omega)]
  | 3, _ => simp [tName, tByte_nat (n := i / 10 % 10) (by omega)]
  | 4, _ => simp [tName, tByte_nat (n := i % 10) (by omega)]
set_option maxRecDepth 100000 in
set_option maxHeartbeats 1000000 in
theorem tName_any (i : Nat) (hi : i ≤ 1100) (w : World) : Calls Try.prog 17 #[.int .i64 (i : Int)] w fun e w' => e = .returned (.string (tName i)) ∧ Below w.heap.size w w' := by
  have h0 : (0 : Int) ≤ (i : Int) := by omega
  have h1 : (i : Int) ≤ 1100 := by omega
  have hc := t_conv i hi w
  go_enter Try.func17, Try.ntmps17
  go_wp2_with fail
  go_ret
  exact ⟨rfl, (Below.refl _ _).alloc (Nat.le_refl _) _⟩
theorem ne5 {gg g0 : Int} (h : gg = g0) (h5 : (g0 == 5) = false) : gg ≠ 5 := by subst h; simpa using h5
theorem ne5' {gg g0 : Int} {p : Prop} (h : gg = g0) (h5 : p ∧ (g0 == 5) = false) : gg ≠ 5 := ne5 h h5.2
theorem head_ne {nm : ByteArray} (h : 0 < nm.size) (hn : ¬ ((nm[0].toNat : Int) = 116)) : nm.data.toList.head? ≠ some 116 := by
  cases nm with
  | mk d =>
    cases d with
    | mk l =>
      cases l with
      | nil => simp
      | cons c l =>
        intro he
        simp at he
        subst he
        exact hn rfl
theorem head_none {nm : ByteArray} (h : ¬ 0 < nm.size) : nm.data.toList.head? ≠ some 116 := by
  cases nm with
  | mk d =>
    cases d with
    | mk l =>
      cases l with
      | nil => simp
      | cons c l => exact absurd (show 0 < (c :: l).length by simp) h
theorem rdI_single {w : World} {b : Nat} {t : TypeId} {nm : ByteArray} {kd a : Int} {vf : Value} {fs : List (List ByteArray)} (hm : w.heap[b]? = some (.cells #[.string nm, .int .i64 kd, .int .i64 a, vf] t)) (hv : Rd2 w (fun _ => True) vf fs) :
    RdI w (fun _ => True) (.slice (some ⟨b, 0, none⟩) 1 1) [⟨nm, kd, a, fs⟩] := by
  refine ⟨_, 1, rfl, Nat.le_refl _, by simp [maxLen], fun _ => ⟨b, 0, rfl, trivial, fun i x hx => ?_⟩⟩
  match i, hx with
  | 0, hx =>
    simp at hx
    subst hx
    exact ⟨cell_of_row w _ 0 _ _ _ hm, cell_of_row w _ 1 _ _ _ hm, cell_of_row w _ 2 _ _ _ hm, vf, cell_of_row w _ 3 _ _ _ hm, hv⟩
  | i + 1, hx => simp at hx
set_option maxRecDepth 100000 in
set_option maxHeartbeats 4000000 in
theorem full_any (m : Int) (nm : ByteArray) (kd a : Int) (vf : Value) (fs : List (List ByteArray)) (w : World) (hm0 : 0 ≤ m ∧ m ≤ 65535) (hv : Rd2 w (fun _ => True) vf fs) (hnm : nm.size ≤ maxLen) (hnms : ∀ c ∈ fs, ∀ s ∈ c, s.size ≤ maxLen) :
    Calls Try.prog 3 #[.int .u16 m, .agg #[.string nm, .int .i64 kd, .int .i64 a, vf]] w fun e w' => e = .returned (.bool true) ∧ Below w.heap.size w w' := by
  obtain ⟨hm1, hm2⟩ := hm0
  obtain ⟨Af, nf, cf, rfl⟩ := hv.isSlice
  obtain ⟨cN, hcn, hc1, hc2⟩ : ∃ cN : Nat, (1020 + m % 9 : Int) = (cN : Int) ∧ 1020 ≤ cN ∧ cN ≤ 1028 := ⟨(1020 + m % 9).toNat, by omega, by omega, by omega⟩
  have HV := Lib.hid hv
  have HNS := Lib.hid hnms
  obtain ⟨W1, hW1⟩ : ∃ W1, W1 = w.alloc (.cells #[.string nm, .int .i64 kd, .int .i64 a, .slice Af nf cf] 25) := ⟨_, rfl⟩
  have hmW := heap_alloc_new w (.cells #[.string nm, .int .i64 kd, .int .i64 a, .slice Af nf cf] 25)
  have hbW : Below w.heap.size w W1 := by rw [hW1]; exact (Below.refl _ w).alloc (Nat.le_refl _) _
  rw [← hW1] at hmW
  have hs1 : W1.heap.size = w.heap.size + 1 := by rw [hW1]; simp
  have c0 : W1.cell? ⟨w.heap.size, 0, none⟩ = some (.string nm) := cell_of_row W1 _ 0 _ _ _ hmW
  have c1 : W1.cell? ⟨w.heap.size, 1, none⟩ = some (.int .i64 kd) := cell_of_row W1 _ 1 _ _ _ hmW
  have c2 : W1.cell? ⟨w.heap.size, 2, none⟩ = some (.int .i64 a) := cell_of_row W1 _ 2 _ _ _ hmW
  have c3 : W1.cell? ⟨w.heap.size, 3, none⟩ = some (.slice Af nf cf) := cell_of_row W1 _ 3 _ _ _ hmW
  have HW1 := Lib.hid hW1
  have HX := Lib.hid (And.intro hmW hbW)
  clear hW1 hmW hbW hv hnms
  go_enter Try.func3, Try.ntmps3
  go_wp2_with fail
  rw [← HW1.out]
  obtain ⟨W2, hW2⟩ : ∃ W2, W2 = W1.alloc (.cells #[.string nm, .int .i64 kd, .int .i64 a, .slice Af nf cf] 25) := ⟨_, rfl⟩
  have hb12 : Below W1.heap.size W1 W2 := by rw [hW2]; exact (Below.refl _ _).alloc (Nat.le_refl _) _
  have hm2' : W2.heap[w.heap.size + 1]? = some (.cells #[.string nm, .int .i64 kd, .int .i64 a, .slice Af nf cf] 25) := by rw [hW2, ← hs1]; exact heap_alloc_new W1 _
  rw [← hW2]
  refine (few_any _ [⟨nm, kd, a, fs⟩] _ W2 (rdI_single hm2' ((HV.out.below HX.out.2).below hb12))).mono ?_
  rintro e w2 ⟨b, rfl, hfew, hb2⟩
  have hb02 : Below W1.heap.size W1 w2 := hb12.trans (hb2.mono hb12.size)
  have HX2 : Hid (w2.heap[w.heap.size]? = some (.cells #[.string nm, .int .i64 kd, .int .i64 a, .slice Af nf cf] 25) ∧ Below w.heap.size w w2) := ⟨(hb02.block _ (by omega)).trans HX.out.1, HX.out.2.trans (hb02.mono (by omega))⟩
  clear hW2 hb12 hm2' hb2 hb02 c0 c1 c2 c3 hs1
  cases b with
  | false =>
    clear hfew
    go_wp2_with (go_at_call 16; refine (awake_any _).mono ?_; rintro e w3 ⟨rfl, hb3⟩)
    go_ret
    exact ⟨rfl, HX2.out.2.trans (hb3.mono HX2.out.2.size)⟩
  | true =>
    have HF := Lib.hid ((hfew rfl).each _ (List.mem_singleton.2 rfl))
    clear hfew
    obtain ⟨w3, hw3⟩ : ∃ w3, w3 = w2.alloc (.cells #[.slice none 0 0, .map none] 32) := ⟨_, rfl⟩
    have hbk := new_book w2 w2.heap.size (Nat.le_refl _)
    rw [← hw3] at hbk
    have hb23 : Below w2.heap.size w2 w3 := by rw [hw3]; exact (Below.refl _ _).alloc (Nat.le_refl _) _
    have HBK : Hid (∃ F, Bk w3 w2.heap.size (.pointer (some ⟨w2.heap.size, 0, none⟩)) F (tItems (min 0 1024)) ∧ Below w2.heap.size w2 w3) := ⟨_, hbk, hb23⟩
    have HW3 := Lib.hid hw3
    clear hw3 hbk hb23
    go_wp2_with fail
    rw [← HW3.out]
    go_loopw [28] (fun iv wr => ∃ k : Nat, k ≤ cN ∧ iv = .int .i64 k ∧ ∃ F, Bk wr w2.heap.size (.pointer (some ⟨w2.heap.size, 0, none⟩)) F (tItems (min k 1024)) ∧ Below w2.heap.size w2 wr) (fun iv _ => cN - (intOf iv).toNat)
    case atStart => exact ⟨0, Nat.zero_le _, rfl, HBK.out⟩
    case round =>
      clear HBK
      obtain ⟨k, hk, rfl, F, hbk, hbel⟩ := hrel
      have HBK := Lib.hid hbk
      have HBEL := Lib.hid hbel
      clear hbk hbel
      by_cases hlt : k < cN
      · have HTN := Lib.hid (tName_any k (by omega) wr)
        have HE := Lib.hid (t_ent (i := k) (by omega))
        go_wp2_with (go_at_call 17; refine HTN.out.mono ?_; rintro e w4 ⟨rfl, hb4⟩; have HBK4 := Lib.hid (HBK.out.below hb4); have HBEL4 := Lib.hid (HBEL.out.trans (hb4.mono HBEL.out.size)); clear hb4)
        refine (enter_any _ (.slice none 0 0) _ F (fun _ => False) (tItems (min k 1024)) (tItem k) w4 HBK4.out ⟨[], Rd.none_ _ _ _, rfl, by simp [tItem]⟩ (fun k h => h.elim) (show (tName k).size ≤ maxLen by unfold maxLen; exact (show (5 : Nat) ≤ 9223372036854775807 by decide)) (by simp [tItem]) HBEL4.out.size (by rw [tItems_len]; omega)).mono ?_
        rintro e w5 ⟨rfl, F5, hbk5, hk5, -⟩
        rw [HE.out.2] at hbk5
        rw [HE.out.1]
        have hf4 := HBK4.out.foot
        have HBEL5 := Lib.hid (HBEL4.out.trans (Keep.below (hk5.mono fun k hk => ⟨by have := HBEL4.out.size; omega, fun h => by have := (hf4 k h).1; omega⟩)))
        have HBK5 := Lib.hid hbk5
        clear hbk5 hk5 hf4
        by_cases h1024 : k < 1024
        · rw [if_pos h1024]
          have hk1024 : (k : Int) < 1024 := by omega
          go_wp2_with fail
          go_roundw
          case rel => exact ⟨k + 1, by omega, by go_num, F5, HBK5.out, HBEL5.out⟩
          case measure => simp [intOf]; omega
        · rw [if_neg h1024]
          have hk1024 : ¬ (k : Int) < 1024 := by omega
          go_wp2_with fail
          go_roundw
          case rel => exact ⟨k + 1, by omega, by go_num, F5, HBK5.out, HBEL5.out⟩
          case measure => simp [intOf]; omega
      · have hkc : k = cN := by omega
        subst hkc
        have HRD := Lib.hid (HV.out.lt.below HX2.out.2)
        have HBEL' := HBEL
        have HX4 : Hid (wr.heap[w.heap.size]? = some (.cells #[.string nm, .int .i64 kd, .int .i64 a, .slice Af nf cf] 25) ∧ Below w.heap.size w wr) := ⟨(HBEL.out.block _ (Array.getElem?_eq_some_iff.1 HX2.out.1).1).trans HX2.out.1, HX2.out.2.trans (HBEL.out.mono HX2.out.2.size)⟩
        obtain ⟨hN, hmin⟩ : ∃ hN, hN = min k 1024 := ⟨_, rfl⟩
        have hN1 : 1 ≤ hN ∧ hN ≤ 1024 := by omega
        rw [← hmin] at HBK
        have HI1 := Lib.hid (t_idx (k := hN) (i := hN - 1) (by omega) (by omega))
        have HI2 := Lib.hid (t_idx_none (k := hN) (i := hN) (Nat.le_refl _) (by omega))
        have HG1 : Hid (∀ w', Below wr.heap.size wr w' → Calls Try.prog 19 #[.pointer (some ⟨w2.heap.size, 0, none⟩), .string (tName (hN - 1))] w' (GetPost w' (tItems hN) (tName (hN - 1)))) := fun w' h => Get_any _ _ F (tItems hN) (tName (hN - 1)) w' (HBK.out.below h) (fun x hx => by obtain ⟨j, _, rfl⟩ := List.mem_map.1 hx; exact ⟨show (5 : Nat) ≤ 60 by decide, by simp [tItem], by simp [tItem], by simp [tItem]⟩) (show (5 : Nat) ≤ 9223372036854775807 by decide)
        have HG2 : Hid (∀ w', Below wr.heap.size wr w' → Calls Try.prog 19 #[.pointer (some ⟨w2.heap.size, 0, none⟩), .string (tName hN)] w' (GetPost w' (tItems hN) (tName hN))) := fun w' h => Get_any _ _ F (tItems hN) (tName hN) w' (HBK.out.below h) (fun x hx => by obtain ⟨j, _, rfl⟩ := List.mem_map.1 hx; exact ⟨show (5 : Nat) ≤ 60 by decide, by simp [tItem], by simp [tItem], by simp [tItem]⟩) (show (5 : Nat) ≤ 9223372036854775807 by decide)
        have HT1 : Hid (∀ w', Calls Try.prog 17 #[.int .i64 ((hN : Int) - 1)] w' fun e w'' => e = .returned (.string (tName (hN - 1))) ∧ Below w'.heap.size w' w'') := fun w' => by
          have := tName_any (hN - 1) (by omega) w'
          rw [show ((hN - 1 : Nat) : Int) = (hN : Int) - 1 by omega] at this
          exact this
        have HT2 : Hid (∀ w', Calls Try.prog 17 #[.int .i64 (hN : Int)] w' fun e w'' => e = .returned (.string (tName hN)) ∧ Below w'.heap.size w' w'') := fun w' => tName_any hN (by omega) w'
        have hge : (1024 < (k : Int) ∧ hN = 1024) ∨ ((k : Int) = 1024 ∧ hN = 1024) ∨ ((k : Int) < 1024 ∧ hN = k) := by omega
        obtain ⟨g0, hg0⟩ : ∃ g0, g0 = entErr [] ⟨nm, kd, a, fs⟩ := ⟨_, rfl⟩
        obtain ⟨gg, hgg⟩ : ∃ gg, gg = if g0 = 0 ∧ hN = 1024 then 9 else g0 := ⟨_, rfl⟩
        obtain ⟨eh, heh⟩ : ∃ eh, eh = entErr (tItems hN) ⟨nm, kd, a, fs⟩ := ⟨_, rfl⟩
        have HFL : Hid (nm.data.toList.head? ≠ some 116 → gg ≠ 5 → eh = gg) := fun h1 h2 => heh.trans (full_law (k := hN) (x := ⟨nm, kd, a, fs⟩) hN1.2 (by rw [hgg, hg0]) h1 h2)
        have HGG := Lib.hid hgg
        have HG0 := Lib.hid hg0
        have HENT : Hid (∀ w', Below wr.heap.size wr w' → Calls Try.prog 18 #[.pointer (some ⟨w2.heap.size, 0, none⟩), .agg #[.string nm, .int .i64 kd, .int .i64 a, .slice Af nf cf]] w' fun e w'' => e = .returned (.int .i64 eh) ∧ Below w2.heap.size w' w'') := fun w' h => by
          rw [heh]
          have hbk' := HBK.out.below h
          have hft := hbk'.foot
          refine (enter_any _ (.slice Af nf cf) _ F (fun b => True ∧ b < w.heap.size) (tItems hN) ⟨nm, kd, a, fs⟩ w' hbk' ((HV.out.lt.below HX4.out.2).below h) (fun k hk hF => by have := (hft k hF).1; have := HX2.out.2.size; omega) hnm HNS.out (by have := HBEL.out.size; have := h.size; omega) (by rw [tItems_len]; omega)).mono ?_
          rintro e w'' ⟨rfl, F13, -, hk13, -⟩
          exact ⟨rfl, Keep.below (hk13.mono fun k hk => ⟨by have := HBEL.out.size; have := h.size; omega, fun hF => by have := (hft k hF).1; omega⟩)⟩
        clear hgg hg0 heh
        obtain ⟨t1, ht1⟩ : ∃ t1, t1 = tName (hN - 1) := ⟨_, rfl⟩
        obtain ⟨t2, ht2⟩ : ∃ t2, t2 = tName hN := ⟨_, rfl⟩
        rw [← ht1] at HG1 HT1 HI1
        rw [← ht2] at HG2 HT2 HI2
        have HN1 := Lib.hid ht1
        clear hmin ht1 ht2 HBEL hlt hk
        rcases hge with ⟨hge, rfl⟩ | ⟨hge, rfl⟩ | ⟨hge, rfl⟩
        all_goals
          go_wp2_with fail
          try have hx3 : ((hN : Int) == 1024) = false := by simp; omega
          obtain ⟨hN1a, hN1b⟩ := hN1
          try have hwr : IntKind.i64.wrap ((hN : Int) - 1) = (hN : Int) - 1 := IntWalk.i64_in _ (by omega)
          try have hx4 : hN ≠ 1024 := by omega
          try have hi1 : (1 : Int) ≤ (hN : Int) := by omega
          try have hi2 : (hN : Int) ≤ 1024 := by omega
          clear hge hcn hc1 hc2 hm1 hm2
          refine (HT1.out _).mono ?_
          rintro e w5 ⟨rfl, hb5⟩
          have HB5 := Lib.hid hb5
          clear hb5
          go_wp2_with fail
          refine (HG1.out _ HB5.out).mono ?_
          rintro e w6 ⟨⟨hi, -⟩ | ⟨i, x, v6, hi, hx, rfl, ho⟩, hb6⟩
          · exact absurd (hi.symm.trans HI1.out) (by simp)
          · rw [HI1.out] at hi
            obtain rfl : i = _ := (Option.some.inj hi).symm
            have hxn : x = ⟨t1, 0, 0, []⟩ := by
              unfold tItems at hx
              rw [List.getElem?_map, List.getElem?_range (by omega)] at hx
              simp only [Option.map_some, Option.some.injEq] at hx
              rw [← hx, HN1.out]; rfl
            subst hxn
            obtain ⟨vs, ho1, -⟩ := ho
            obtain ⟨A6, c6, rfl⟩ := ownsRow_slice ho1
            have HB6 := Lib.hid (HB5.out.trans (hb6.mono HB5.out.size))
            simp only
            clear hi hx ho1 hb6
            go_wp2_with fail
            obtain ⟨w7, hw7⟩ : ∃ w7, w7 = w6.alloc (.cells #[.string t1, .int .i64 0, .int .i64 0, .slice A6 0 c6] 37) := ⟨_, rfl⟩
            have hm7 := heap_alloc_new w6 (.cells #[.string t1, .int .i64 0, .int .i64 0, .slice A6 0 c6] 37)
            rw [← hw7] at hm7
            have hb67 : Below w6.heap.size w6 w7 := by rw [hw7]; exact (Below.refl _ _).alloc (Nat.le_refl _) _
            have HW7 := Lib.hid hw7
            clear hw7
            go_wp2_with fail
            rw [← HW7.out]
            refine (HT2.out _).mono ?_
            rintro e w8 ⟨rfl, hb8⟩
            have HM8 := Lib.hid ((hb8.block _ (Array.getElem?_eq_some_iff.1 hm7).1).trans hm7)
            have HB8 := Lib.hid (HB6.out.trans ((hb67.trans (hb8.mono hb67.size)).mono HB6.out.size))
            clear hm7 hb67 hb8
            go_wp2_with fail
            refine (HG2.out _ HB8.out).mono ?_
            rintro e w9 ⟨⟨-, rfl⟩ | ⟨i, x, v9, hi, -⟩, hb9⟩
            · have HM9 := Lib.hid ((hb9.block _ (Array.getElem?_eq_some_iff.1 HM8.out).1).trans HM8.out)
              have HB9 := Lib.hid (HB8.out.trans (hb9.mono HB8.out.size))
              obtain ⟨w10, hw10⟩ : ∃ w10, w10 = w9.alloc (.cells #[.string ⟨#[]⟩, .int .i64 0, .int .i64 0, .slice none 0 0] 37) := ⟨_, rfl⟩
              have hb10 : Below w9.heap.size w9 w10 := by rw [hw10]; exact (Below.refl _ _).alloc (Nat.le_refl _) _
              have HM10 := Lib.hid ((hb10.block _ (Array.getElem?_eq_some_iff.1 HM9.out).1).trans HM9.out)
              have HB10 := Lib.hid (HB9.out.trans (hb10.mono HB9.out.size))
              have HW10 := Lib.hid hw10
              clear hb9 hw10 hb10
              go_wp2_with fail
              rw [← HW10.out]
              have q0 : w10.cell? ⟨w6.heap.size, 0, none⟩ = some (.string t1) := cell_of_row w10 _ 0 _ _ _ HM10.out
              have q6 := (Array.getElem?_eq_some_iff.1 HM10.out).1
              go_region_held3 (fun w' => w'.cell? ⟨w6.heap.size, 0, none⟩ = some (.string t1)) (first | exact q0 | exact q1)
                (first | (go_at_call 17; refine (HT1.out _).mono ?_; rintro e w11 ⟨rfl, hb11⟩; have q1 : w11.cell? ⟨w6.heap.size, 0, none⟩ = some (.string t1) := (hb11.cell (p := ⟨w6.heap.size, 0, none⟩) q6).trans q0))
              all_goals
                have HB11 := Lib.hid (HB10.out.trans (((Below.refl _ w10).drew).trans (hb11.mono HB10.out.size)))
                have HX11 := Lib.hid ((HB11.out.block _ (Array.getElem?_eq_some_iff.1 HX4.out.1).1).trans HX4.out.1)
                have d0 : w11.cell? ⟨w.heap.size, 0, none⟩ = some (.string nm) := cell_of_row w11 _ 0 _ _ _ HX11.out
                have d1 : w11.cell? ⟨w.heap.size, 1, none⟩ = some (.int .i64 kd) := cell_of_row w11 _ 1 _ _ _ HX11.out
                have d2 : w11.cell? ⟨w.heap.size, 2, none⟩ = some (.int .i64 a) := cell_of_row w11 _ 2 _ _ _ HX11.out
                have d3 : w11.cell? ⟨w.heap.size, 3, none⟩ = some (.slice Af nf cf) := cell_of_row w11 _ 3 _ _ _ HX11.out
                clear q0 q1 q6 hb11
                go_wp2_with fail
                refine (refEnter_any (.slice none 0 0) (.slice Af nf cf) [] ⟨nm, kd, a, fs⟩ (fun _ => True) _ w11 ⟨none, 0, rfl, Nat.le_refl _, by simp [maxLen], fun h => absurd rfl h⟩ ((HRD.out.below HBEL'.out).below HB11.out) (by simp)).mono ?_
                rintro e w12 ⟨⟨v', rfl, -⟩, hb12⟩
                rw [← HG0.out]
                have HB12 := Lib.hid (HB11.out.trans (hb12.mono HB11.out.size))
                have HX12 := Lib.hid ((HB12.out.block _ (Array.getElem?_eq_some_iff.1 HX4.out.1).1).trans HX4.out.1)
                have f0 : w12.cell? ⟨w.heap.size, 0, none⟩ = some (.string nm) := cell_of_row w12 _ 0 _ _ _ HX12.out
                have f1 : w12.cell? ⟨w.heap.size, 1, none⟩ = some (.int .i64 kd) := cell_of_row w12 _ 1 _ _ _ HX12.out
                have f2 : w12.cell? ⟨w.heap.size, 2, none⟩ = some (.int .i64 a) := cell_of_row w12 _ 2 _ _ _ HX12.out
                have f3 : w12.cell? ⟨w.heap.size, 3, none⟩ = some (.slice Af nf cf) := cell_of_row w12 _ 3 _ _ _ HX12.out
                clear d0 d1 d2 d3 hb12
                have hg00 : ((g0 == 0) = true ∧ g0 = 0) ∨ ((g0 == 0) = false ∧ g0 ≠ 0) := by
                  by_cases h : g0 = 0
                  · exact .inl ⟨by simp [h], h⟩
                  · exact .inr ⟨by simp [h], h⟩
                rcases hg00 with ⟨hgz, hg0⟩ | ⟨hgz, hg0⟩
                all_goals
                  go_wp2_with fail
                  refine (HENT.out w12 HB12.out).mono ?_
                  rintro e w13 ⟨rfl, hb13⟩
                  have hlt2 := (Array.getElem?_eq_some_iff.1 HX2.out.1).1
                  have HB13 := Lib.hid ((HX4.out.2.trans (HB12.out.mono HX4.out.2.size)).trans (hb13.mono (by omega)))
                  have j0 : w13.cell? ⟨w.heap.size, 0, none⟩ = some (.string nm) := (hb13.cell (p := ⟨w.heap.size, 0, none⟩) hlt2).trans f0
                  clear f0 f1 f2 f3 hb13 hlt2
                  have hgx := HGG.out
                  first | simp [hg0, hx4] at hgx | simp [hg0] at hgx
                  have HGX := Lib.hid hgx
                  have HG00 := Lib.hid hg0
                  clear hgx
                  rcases Nat.lt_or_ge 0 nm.size with hsz | hsz
                  · have HSZ := Lib.hid hsz
                    go_wp2_with fail
                    all_goals
                      first
                      | (refine (awake_any _).mono ?_
                         rintro e w14 ⟨rfl, hb14⟩
                         go_wp2_with fail
                         go_ret
                         exact ⟨rfl, HB13.out.trans (hb14.mono HB13.out.size)⟩)
                      | (exfalso
                         have hx := HGX.out
                         have hz := HG00.out
                         have hy := HFL.out (head_ne HSZ.out (by assumption)) (by first | omega | exact ne5 hx (by assumption) | exact ne5' hx (by assumption))
                         omega)
                  · have HSZ := Lib.hid hsz
                    go_wp2_with fail
                    all_goals
                      first
                      | (refine (awake_any _).mono ?_
                         rintro e w14 ⟨rfl, hb14⟩
                         go_wp2_with fail
                         go_ret
                         exact ⟨rfl, HB13.out.trans (hb14.mono HB13.out.size)⟩)
                      | (exfalso
                         have hx := HGX.out
                         have hz := HG00.out
                         have hy := HFL.out (head_none (by have := HSZ.out; omega)) (by first | omega | exact ne5 hx (by assumption) | exact ne5' hx (by assumption))
                         omega)
            · exact absurd (hi.symm.trans HI2.out) (by simp)
end Go.Proofs.Ytlanephpmoajiaa
