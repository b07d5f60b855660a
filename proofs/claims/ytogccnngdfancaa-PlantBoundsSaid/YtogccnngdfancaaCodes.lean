/- The walks of plant's and the reference's functions on barcodes. -/
import Derived.Test.YtogccnngdfancaaBase
import Derived.Test.YtogccnngdfancaaCodePlain
import Derived.Lib.Bytealg
namespace Go.Proofs.Ytogccnngdfancaa
open Go.RowKit Pl

theorem wrap_sum {s x m : Int} (h1 : 0 ≤ s) (h2 : s ≤ 147456) (h3 : 0 ≤ m * max x 0) (h4 : m * max x 0 ≤ 64 * 36) :
    wrap64 (s + wrap64 (m * if x < 0 then 0 else x)) = s + m * max x 0 := by
  have e : (if x < 0 then 0 else x) = max x 0 := by rw [Int.max_def]; split <;> split <;> omega
  rw [e, IntWalk.wrap64_in (m * max x 0) ⟨by omega, by omega⟩, IntWalk.wrap64_in _ ⟨by omega, by omega⟩]

set_option maxHeartbeats 400000 in
theorem sum_any (v : Value) (xs : List Int) (S : Nat → Prop) (w : World) (hv : Rd (.int .i64) w S v xs) (hl : xs.length ≤ 64) (hb : ∀ x ∈ xs, -1 ≤ x ∧ x ≤ 36) :
    Calls Try.prog 31 #[v] w fun e w' => e = .returned (.int .i64 (wsum 0 xs % 37)) ∧ w = w' := by
  obtain ⟨A, n, cap, rfl, hn, hcap, hmax, hc⟩ := hv.open_
  have HN := Lib.hid hn; clear hn
  have hn64 : n ≤ 64 := by have := HN.out; omega
  go_enter Try.func31, Try.ntmps31
  go_wp2
  go_loop [3, 8] (fun t i => ∃ k : Nat, k ≤ n ∧ i = .int .i64 k ∧ t = .int .i64 (wsum 0 (xs.take k)))
    (fun _ i => n - (intOf i).toNat)
  case atStart => exact ⟨0, Nat.zero_le _, rfl, rfl⟩
  case round =>
    obtain ⟨k, hk, rfl, rfl⟩ := hrel
    by_cases hlt : k < n
    · obtain ⟨b, off, x, rfl, _, hx, hcell⟩ := hc k hlt
      clear hc
      have hx1 := hb x (mem_of_get? hx)
      have hs := wsum_bd (xs.take k) (fun y hy => hb y (List.mem_of_mem_take hy)) 0
      have hlk : (xs.take k).length = k := by rw [List.length_take, HN.out]; omega
      have hsn := wsum_snoc (xs.take k) x 0
      rw [← take_snoc? hx, hlk] at hsn
      rw [hlk] at hs
      obtain ⟨s, hS⟩ : ∃ s, s = wsum 0 (xs.take k) := ⟨_, rfl⟩
      rw [← hS] at hs hsn ⊢
      have hs1 : 0 ≤ s := hs.1
      have hk2 : (k : Int) * k ≤ 64 * 64 := Int.mul_le_mul (by omega) (by omega) (by omega) (by omega)
      have hs2 : s ≤ 147456 := by have := hs.2; push_cast at this; rw [Int.zero_add] at this; omega
      have hm : 0 ≤ max x 0 ∧ max x 0 ≤ 36 := by omega
      have hp0 : 0 ≤ ((k : Int) + 1) * max x 0 := Int.mul_nonneg (by omega) hm.1
      have hp1 : ((k : Int) + 1) * max x 0 ≤ 64 * 36 := Int.mul_le_mul (by omega) hm.2 hm.1 (by omega)
      have HSN := Lib.hid hsn
      clear hs hk2 hsn hS hx hlk
      go_wp2
      go_round
      case rel => exact ⟨k + 1, by omega, by go_num, by rw [HSN.out, wrap_sum hs1 hs2 hp0 hp1]; simp⟩
      case measure => simp [intOf]; omega
    · have hw := wsum_bd xs hb 0
      have hs1 : 0 ≤ wsum 0 (xs.take k) := (wsum_bd (xs.take k) (fun y hy => hb y (List.mem_of_mem_take hy)) 0).1
      have HT := Lib.hid (show xs.take k = xs from List.take_of_length_le (by rw [HN.out]; omega))
      clear hw hc
      go_wp2
      go_ret
      exact ⟨ret_int (by rw [HT.out]), rfl⟩

set_option maxHeartbeats 400000 in
theorem count_any (v : Value) (xs : List Int) (S : Nat → Prop) (w : World) (hv : Rd (.int .i64) w S v xs) :
    Calls Try.prog 29 #[v] w fun e w' => e = .returned (.int .i64 (below0 xs)) ∧ w = w' := by
  obtain ⟨A, n, cap, rfl, hn, hcap, hmax, hc⟩ := hv.open_
  have HN := Lib.hid hn; clear hn
  go_enter Try.func29, Try.ntmps29
  go_wp2
  go_loop [3, 8] (fun t i => ∃ k c : Nat, k ≤ n ∧ c ≤ k ∧ Hid (c = below0 (xs.take k)) ∧ i = .int .i64 k ∧ t = .int .i64 c)
    (fun _ i => n - (intOf i).toNat)
  case atStart => exact ⟨0, 0, Nat.zero_le _, Nat.zero_le _, rfl, rfl, rfl⟩
  case round =>
    obtain ⟨k, c, hk, hck, HC, rfl, rfl⟩ := hrel
    by_cases hlt : k < n
    · obtain ⟨b, off, x, rfl, _, hx, hcell⟩ := hc k hlt
      clear hc
      have HS : Hid (below0 (xs.take (k + 1)) = below0 (xs.take k) + if x < 0 then 1 else 0) := by
        rw [take_snoc? hx]; unfold below0 Hid; rw [List.filter_append]; by_cases h : x < 0 <;> simp [h]
      clear hx
      go_wp2
      · go_round
        case rel => exact ⟨k + 1, c + 1, by omega, by omega, by have := HS.out; rw [if_pos ‹_›, ← HC.out] at this; exact this.symm, by go_num, by go_num⟩
        case measure => simp [intOf]; omega
      · go_round
        case rel => exact ⟨k + 1, c, by omega, by omega, by have := HS.out; rw [if_neg (by omega), ← HC.out] at this; exact this.symm, by go_num, by go_num⟩
        case measure => simp [intOf]; omega
    · have HT := Lib.hid (show xs.take k = xs from List.take_of_length_le (by rw [HN.out]; omega))
      clear hc
      go_wp2
      go_ret
      exact ⟨ret_int (by rw [HC.out, HT.out]), rfl⟩

theorem solve_ex (f n : Int) (h1 : 1 ≤ f) (h2 : f ≤ 36) : ∃ x : Nat, x < 37 ∧ (f * x + n) % 37 = 0 := by
  have h : ∀ a b : Fin 37, 1 ≤ a.val → ∃ x : Fin 37, ((a.val : Int) * x.val + b.val) % 37 = 0 := by decide +kernel
  obtain ⟨x, hx⟩ := h ⟨f.toNat, by omega⟩ ⟨(n % 37).toNat, by omega⟩ (by simp; omega)
  refine ⟨x.val, x.isLt, ?_⟩
  simp only at hx
  rw [Int.toNat_of_nonneg (by omega), Int.toNat_of_nonneg (by omega)] at hx
  omega

set_option maxHeartbeats 400000 in
theorem solve_any (f n : Int) (w : World) (h1 : 1 ≤ f) (h2 : f ≤ 36) (h3 : 0 ≤ n) (h4 : n ≤ 36) :
    Calls Try.prog 30 #[.int .i64 f, .int .i64 n] w fun e w' => (∃ x : Nat, x < 37 ∧ (f * x + n) % 37 = 0 ∧ e = .returned (.int .i64 x)) ∧ w = w' := by
  have HEX := Lib.hid (solve_ex f n h1 h2)
  go_enter Try.func30, Try.ntmps30
  go_wp2
  go_loop [5] (fun i => ∃ k : Nat, k < 37 ∧ Hid (∀ j : Nat, j < k → (f * j + n) % 37 ≠ 0) ∧ i = .int .i64 k) (fun i => 37 - (intOf i).toNat)
  case atStart => exact ⟨0, by omega, fun j hj => absurd hj (by omega), rfl⟩
  case round =>
    obtain ⟨k, hk, HK, rfl⟩ := hrel
    have b1 : 0 ≤ f * k := Int.mul_nonneg (by omega) (by omega)
    have b2 : f * k ≤ 36 * 36 := Int.mul_le_mul h2 (by omega) (by omega) (by omega)
    by_cases hz : (f * k + n) % 37 = 0
    · have hz' : ((f * k + n) % 37 != 0) = false := by simpa using hz
      have HZ := Lib.hid hz; clear hz
      go_wp2
      go_ret
      exact ⟨⟨k, hk, HZ.out, rfl⟩, rfl⟩
    · have hz' : ((f * k + n) % 37 != 0) = true := by simpa using hz
      have hk36 : k < 36 := by
        obtain ⟨x, hx, hx0⟩ := HEX.out
        rcases Nat.lt_trichotomy x k with h | h | h
        · exact absurd hx0 (HK.out x h)
        · subst h; exact absurd hx0 hz
        · omega
      have HK1 : Hid (∀ j : Nat, j < k + 1 → (f * j + n) % 37 ≠ 0) := fun j hj => by
        rcases Nat.lt_or_ge j k with h | h
        · exact HK.out j h
        · obtain rfl : j = k := by omega
          exact hz
      clear hz
      go_wp2
      go_round
      case rel => exact ⟨k + 1, by omega, HK1, by go_num⟩
      case measure => simp [intOf]; omega

set_option maxHeartbeats 400000 in
set_option maxRecDepth 100000 in
theorem strliteIndexByte_any (s : ByteArray) (c : Int) (w : World) :
    Calls Try.prog 62 #[.string s, .int .u8 c] w fun e w' => e = .returned (.int .i64 (Lib.indexByte s.data.toList c.toNat.toUInt8)) ∧ w = w' := by
  go_enter Try.func62, Try.ntmps62
  go_wp2
  rw [run_callFunc_extern Try.func83 (by kernel_rfl) (by kernel_rfl) (by kernel_rfl) (e := Extern.BytealgIndexByte.indexByte) (by kernel_rfl), Lib.run_indexByteString]
  simp only [Result.andThen]
  rw [Oper.upon_value]
  go_wp2
  go_ret
  exact ⟨rfl, rfl⟩

set_option maxHeartbeats 400000 in
theorem indexByte_any (s : ByteArray) (c : Int) (w : World) :
    Calls Try.prog 46 #[.string s, .int .u8 c] w fun e w' => e = .returned (.int .i64 (Lib.indexByte s.data.toList c.toNat.toUInt8)) ∧ w = w' := by
  go_enter Try.func46, Try.ntmps46
  go_wp2_with (go_at_call 62; refine (strliteIndexByte_any _ _ _).mono ?_; rintro e w' ⟨rfl, rfl⟩)
  go_ret
  exact ⟨rfl, rfl⟩
/-- strings.IndexByte in the symbols. -/
theorem symbol_any (x : UInt8) (w : World) : Calls Try.prog 46 #[.string ⟨#[48, 49, 50, 51, 52, 53, 54, 55, 56, 57, 65, 66, 67, 68, 69, 70, 71, 72, 73, 74, 75, 76, 77, 78, 79, 80, 81, 82, 83, 84, 85, 86, 87, 88, 89, 90, 45]⟩, .int .u8 x.toNat] w
    fun e w' => e = .returned (.int .i64 (val x)) ∧ w = w' :=
  (indexByte_any _ _ _).mono fun e w' ⟨he, hw⟩ => ⟨by rw [he]; exact ret_int (by show Lib.indexByte symbols _ = Lib.indexByte symbols x; simp), hw⟩

set_option maxRecDepth 100000 in
set_option maxHeartbeats 400000 in
theorem values_any (s : ByteArray) (w : World) (hs : s.size ≤ 1000) :
    Calls Try.prog 28 #[.string s] w fun e w' => (∃ v, e = .returned v ∧ Rd (.int .i64) w' (w.heap.size ≤ ·) v (s.data.toList.map val)) ∧ Below w.heap.size w w' := by
  obtain ⟨i0, hi, hz0, hz1, hz2⟩ := info_parts info3
  obtain ⟨cap, C, m, hconv, hcap, hmax, hC, hm, hcell⟩ := bytes_of s w (by unfold maxLen; omega)
  have HC := Lib.hid hC; clear hC
  have HM := Lib.hid hm; clear hm
  have hlen : s.data.toList.length = s.size := by simp
  have hc1 : ∀ i x, s.data.toList[i]? = some x → (w.drew.alloc (.cells C 5 m)).cell? ⟨w.heap.size, i, none⟩ = some (.int .u8 x.toNat) := fun i x hx => by
    obtain ⟨hk, rfl⟩ := List.getElem?_eq_some_iff.1 hx
    exact (cell?_alloc_mark' w.drew C 5 m i).trans (hcell i hk)
  obtain ⟨l, hl⟩ : ∃ l, l = s.data.toList := ⟨_, rfl⟩
  have HL := Lib.hid hl
  rw [← hl] at hlen hc1 
  have HN := Lib.hid hlen
  have b1 : Below w.heap.size w (w.drew.alloc (.cells C 5 m)) := ((Below.refl _ _).drew).alloc (Nat.le_refl _) _
  have sz1 : (w.drew.alloc (.cells C 5 m)).heap.size = w.heap.size + 1 := by simp
  clear hl hlen hcell
  go_enter Try.func28, Try.ntmps28
  go_wp2_with fail
  clear hconv
  go_loopw [3, 9] (fun v i wr => ∃ k : Nat, k ≤ s.size ∧ i = .int .i64 k ∧ wr.ownsRow (w.heap.size + 1) 3 1 v k ((l.take k).map fun c => .int .i64 (val c)) ∧
      Hid (∀ i x, l[i]? = some x → wr.cell? ⟨w.heap.size, i, none⟩ = some (.int .u8 x.toNat)) ∧ Below w.heap.size w wr ∧ w.heap.size + 1 ≤ wr.heap.size) (fun _ i _ => s.size - (intOf i).toNat)
  case atStart => exact ⟨0, Nat.zero_le _, rfl, World.ownsRow_nil _ _ _ _, hc1, b1, by simp⟩
  case round =>
    clear hc1 b1 sz1
    obtain ⟨k, hk, rfl, hown, HCL, hbel, hsz⟩ := hrel
    by_cases hlt : k < s.size
    · obtain ⟨x, hx⟩ : ∃ x, l[k]? = some x := ⟨l[k]'(by have := HN.out; omega), List.getElem?_eq_getElem (by have := HN.out; omega)⟩
      have hcx := HCL.out k x hx
      have HX := Lib.hid hx; clear hx
      have hvb := val_bd x
      go_wp2_with (first
        | (go_at_call 46; refine (symbol_any _ _).mono ?_; rintro e w' ⟨rfl, rfl⟩)
        | (at_builtin; refine wpList_append_own _ rfl _ _ 22 rfl (w.heap.size + 1) 3 i0 (.int .i64 0) 1 8 Try.underlying22 hi hz0 hz1 hz2 rfl (by decide) _ _ _ rfl (hown.alloc _) ⟨wr.heap.size, 0, none⟩ 1 1 [.int .i64 (val x)] rfl rfl (cell_one_new _ _ _) (fun u hu => by simp at hu; subst hu; rfl) (by unfold maxLen; omega) (by omega) (by simp; omega) ?_; intro v' w1 hown' hgrow _))
      have hown'' : w1.ownsRow (w.heap.size + 1) 3 1 v' (k + 1) ((l.take (k + 1)).map fun c => .int .i64 (val c)) := by
        rw [take_snoc? HX.out, List.map_append]; exact hown'
      obtain ⟨hb1, hs1⟩ := grown_below hown hgrow hsz
      have HCL1 : Hid (∀ i x, l[i]? = some x → w1.cell? ⟨w.heap.size, i, none⟩ = some (.int .u8 x.toNat)) := fun i x h => (hb1.cell (p := ⟨w.heap.size, i, none⟩) (by simp)).trans (HCL.out i x h)
      go_roundw
      case rel => exact ⟨k + 1, by omega, by go_num, hown'', HCL1, hbel.trans (hb1.mono (by omega)), by omega⟩
      case measure => simp [intOf]; omega
    · have hk' : k = s.size := by omega
      have hr : Rd (.int .i64) wr (w.heap.size ≤ ·) u3 (s.data.toList.map val) := by
        refine (Rd.of_own (xs := s.data.toList.map val) (by rw [List.map_map]; rw [← HL.out]; rw [List.take_of_length_le (by rw [HN.out]; omega)] at hown; exact hown)).mono (fun b hb => by omega)
      go_wp2
      go_ret
      exact ⟨⟨_, rfl, hr⟩, hbel⟩
theorem ba_len (s : ByteArray) : s.data.toList.length = s.size := by simp
theorem sym_slice (x : Nat) (hx : x < 37) (k : Nat) (hk : x < k) : ((symbols.drop x).take (k - x)).take 1 = [symbols.getD x 0] := by
  rw [List.take_take, show min 1 (k - x) = 1 from by omega]
  have : x < symbols.length := by simpa [symbols] using hx
  rw [List.drop_eq_getElem_cons this]
  simp only [List.take_succ_cons, List.take_zero, List.getD, List.getElem?_eq_getElem this, Option.getD_some]
theorem seal_res (s : ByteArray) (x : Nat) (hx : x < 37) : (s ++ ((⟨#[48, 49, 50, 51, 52, 53, 54, 55, 56, 57, 65, 66, 67, 68, 69, 70, 71, 72, 73, 74, 75, 76, 77, 78, 79, 80, 81, 82, 83, 84, 85, 86, 87, 88, 89, 90, 45]⟩ : ByteArray).extract x 37).extract 0 1).data.toList = s.data.toList ++ [symbols.getD x 0] := by
  rw [ByteArray.data_append, Array.toList_append, Lib.extract_data, Lib.extract_data, List.drop_zero]
  exact congrArg _ (sym_slice x hx 37 (by omega))
theorem ck_put {l : List UInt8} {x : Nat} {c : UInt8} (hc : val c = x) (h : ((l.length + 1 : Int) * x + ck l) % 37 = 0) : ck (l ++ [c]) = 0 := by
  unfold ck at *
  simp only [List.map_append, List.map_cons, List.map_nil, wsum_app, wsum, List.length_map, hc]
  rw [Int.max_eq_left (by omega)]
  push_cast
  simp only [Int.zero_add, Int.add_zero]
  omega

def SealPost (s : ByteArray) (B : Nat) (w : World) (e : Ending) (w' : World) : Prop :=
  ∃ (r : ByteArray) (c : Int), e = .returned (.tuple #[.string r, .int .i64 c]) ∧ SealOut s.data.toList r.data.toList c ∧ r.size ≤ 24 ∧ Below B w w'

set_option maxRecDepth 100000 in
set_option maxHeartbeats 400000 in
theorem seal_any (s : ByteArray) (w : World) : Calls Try.prog 13 #[.string s] w (SealPost s w.heap.size w) := by
  have hlen := ba_len s
  by_cases h0 : s.size = 0
  · have he : s.toList.isEmpty = true := by rw [Lib.toList_data, List.isEmpty_iff, ← List.length_eq_zero_iff, hlen]; exact h0
    have HF : Hid (SealOut s.data.toList [] 4) := .inl ⟨rfl, rfl, .inl (hlen.trans h0)⟩
    clear h0 hlen
    go_enter Try.func13, Try.ntmps13
    go_wp2_with fail
    go_ret2
    exact ⟨⟨#[]⟩, 4, rfl, HF.out, by decide, Below.refl _ _⟩
  · have he : s.toList.isEmpty = false := by rw [Lib.toList_data, List.isEmpty_eq_false_iff, ← List.length_pos_iff, hlen]; omega
    by_cases h1 : 23 < s.size
    · have HF : Hid (SealOut s.data.toList [] 4) := .inl ⟨rfl, rfl, .inr (by omega)⟩
      clear h0 hlen
      go_enter Try.func13, Try.ntmps13
      go_wp2_with fail
      go_ret2
      exact ⟨⟨#[]⟩, 4, rfl, HF.out, by decide, Below.refl _ _⟩
    · have hl : (s.data.toList.map val).length ≤ 64 := by rw [List.length_map, hlen]; omega
      have hm : 0 ≤ wsum 0 (s.data.toList.map val) % 37 ∧ wsum 0 (s.data.toList.map val) % 37 ≤ 36 := by omega
      obtain ⟨xs, hxs⟩ : ∃ xs, xs = s.data.toList.map val := ⟨_, rfl⟩
      have HX := Lib.hid hxs
      have HB := Lib.hid (vals_bd s.data.toList)
      have HL := Lib.hid hlen
      rw [← hxs] at hl hm HB
      clear hxs hlen
      have h1' : s.size ≤ 23 := by omega
      go_enter Try.func13, Try.ntmps13
      go_wp2_with fail
      refine (values_any _ _ (by omega)).mono ?_
      rintro e w1 ⟨⟨v, rfl, hr⟩, hbel⟩
      rw [← HX.out] at hr
      go_wp2_with (first
        | (go_at_call 29; refine (count_any _ _ _ _ hr).mono ?_; rintro e w' ⟨rfl, rfl⟩)
        | (go_at_call 31; refine (sum_any _ _ _ _ hr hl HB.out).mono ?_; rintro e w' ⟨rfl, rfl⟩)
        | (go_at_call 30; refine (solve_any _ _ _ (by omega) (by omega) hm.1 hm.2).mono ?_; rintro e w' ⟨⟨x, hx1, hx2, rfl⟩, rfl⟩))
      all_goals go_ret2
      · have h0 : 0 < below0 xs := by assumption
        exact ⟨⟨#[]⟩, 2, rfl, .inr ⟨by rw [HL.out]; omega, by rw [HL.out]; omega, .inl ⟨rfl, rfl, fun hc => by have := (below0_code _).2 hc; rw [← HX.out] at this; omega⟩⟩, by decide, hbel⟩
      · have h0 : ¬ 0 < below0 xs := by assumption
        have hcode : isCode s.data.toList := (below0_code _).1 (by rw [← HX.out]; omega)
        have hck : ck (s.data.toList ++ [symbols.getD x 0]) = 0 := ck_put (x := x) (sym_at x hx1) (by unfold ck; rw [HL.out, ← HX.out]; exact hx2)
        have hres := seal_res s x hx1
        refine ⟨_, 0, rfl, .inr ⟨by rw [HL.out]; omega, by rw [HL.out]; omega, .inr ⟨rfl, hcode, symbols.getD x 0, hres, by rw [sym_at x hx1]; omega, ?_⟩⟩, ?_, hbel⟩
        · rw [hres]; exact hck
        · rw [← ba_len, hres, List.length_append, HL.out]; simp; omega
end Go.Proofs.Ytogccnngdfancaa
