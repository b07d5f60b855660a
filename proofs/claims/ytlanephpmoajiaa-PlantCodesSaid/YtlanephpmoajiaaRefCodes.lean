/- The walks of the reference's functions on barcodes. -/
import Derived.Test.YtlanephpmoajiaaCodes2
namespace Go.Proofs.Ytlanephpmoajiaa
open Go.RowKit Pl

theorem sym_get (k : Nat) (hk : k < 37) (h) : ((⟨#[48, 49, 50, 51, 52, 53, 54, 55, 56, 57, 65, 66, 67, 68, 69, 70, 71, 72, 73, 74, 75, 76, 77, 78, 79, 80, 81, 82, 83, 84, 85, 86, 87, 88, 89, 90, 45]⟩ : ByteArray)[k]'h) = symbols.getD k 0 := by
  have hk' : k < symbols.length := by simpa [symbols] using hk
  have e : symbols.getD k 0 = symbols[k] := by simp only [List.getD, List.getElem?_eq_getElem hk', Option.getD_some]
  rw [e]; rfl

set_option maxRecDepth 100000 in
set_option maxHeartbeats 400000 in
theorem refValue_any (c : UInt8) (w : World) : Calls Try.prog 70 #[.int .u8 c.toNat] w fun e w' => e = .returned (.int .i64 (val c)) ∧ w = w' := by
  go_enter Try.func70, Try.ntmps70
  go_wp2
  go_loop [3] (fun i => ∃ k : Nat, k ≤ 37 ∧ Hid (∀ j, j < k → symbols.getD j 0 ≠ c) ∧ i = .int .i64 k) (fun i => 37 - (intOf i).toNat)
  case atStart => exact ⟨0, by omega, fun j hj => absurd hj (by omega), rfl⟩
  case round =>
    obtain ⟨k, hk, HK, rfl⟩ := hrel
    by_cases hlt : k < 37
    · go_wp2
      · rename_i h _
        rw [sym_get k hlt] at h
        go_ret
        exact ⟨ret_int (idx_first c symbols k hlt (by have := eq_of_beq h; exact UInt8.toNat_inj.1 (by omega)) HK.out).symm, rfl⟩
      · rename_i h
        rw [sym_get k hlt] at h
        have HK1 : Hid (∀ j, j < k + 1 → symbols.getD j 0 ≠ c) := fun j hj => by
          rcases Nat.lt_or_ge j k with h1 | h1
          · exact HK.out j h1
          · obtain rfl : j = k := by omega
            intro e; rw [e] at h; simp at h
        go_round
        case rel => exact ⟨k + 1, by omega, HK1, by go_num⟩
        case measure => simp [intOf]; omega
    · have hv : Hid (val c = -1) := idx_none c symbols (fun j hj => HK.out j (by have : symbols.length = 37 := rfl
                                                                                 omega))
      go_wp2
      go_ret
      exact ⟨ret_int hv.out.symm, rfl⟩

theorem ck_snoc {l : List UInt8} {c : UInt8} (hc : 0 ≤ val c) : (ck l + ((l.length : Int) + 1) * val c) % 37 = ck (l ++ [c]) := by
  unfold ck
  simp only [List.map_append, List.map_cons, List.map_nil, wsum_app, wsum, List.length_map]
  rw [Int.max_eq_left hc]
  push_cast
  simp only [Int.zero_add, Int.add_zero]
  omega
theorem isCode_snoc {l : List UInt8} {c : UInt8} (h : isCode l) (hc : 0 ≤ val c) : isCode (l ++ [c]) := fun x hx => by
  rcases List.mem_append.1 hx with h1 | h1
  · exact h x h1
  · simp at h1; subst h1; exact hc
def RefSum (l : List UInt8) (w : World) (e : Ending) (w' : World) : Prop :=
  w = w' ∧ ((isCode l ∧ e = .returned (.tuple #[.int .i64 (ck l), .bool true])) ∨ (¬ isCode l ∧ e = .returned (.tuple #[.int .i64 0, .bool false])))

set_option maxRecDepth 100000 in
set_option maxHeartbeats 400000 in
theorem refSum_any (s : ByteArray) (w : World) (hs : s.size ≤ 1000) : Calls Try.prog 68 #[.string s] w (RefSum s.data.toList w) := by
  have hlen := ba_len s
  obtain ⟨l, hl⟩ : ∃ l, l = s.data.toList := ⟨_, rfl⟩
  rw [← hl] at hlen ⊢
  have HL := Lib.hid hlen
  have HS := Lib.hid hl
  clear hlen hl
  go_enter Try.func68, Try.ntmps68
  go_wp2
  go_loop [4, 5] (fun n i => ∃ k : Nat, ∃ m : Int, k ≤ s.size ∧ Hid (isCode (l.take k)) ∧ 0 ≤ m ∧ m ≤ 36 ∧ Hid (m = ck (l.take k)) ∧ n = .int .i64 m ∧ i = .int .i64 k) (fun _ i => s.size - (intOf i).toNat)
  case atStart => exact ⟨0, 0, by omega, fun _ h => by simp at h, by omega, by omega, rfl, rfl, rfl⟩
  case round =>
    obtain ⟨k, m, hk, HK, hm0, hm1, HM, rfl, rfl⟩ := hrel
    by_cases hlt : k < s.size
    · obtain ⟨c, hc⟩ : ∃ c, l[k]? = some c := ⟨l[k]'(by have := HL.out; omega), List.getElem?_eq_getElem (by have := HL.out; omega)⟩
      have hcs : s[k] = c := by
        have := HS.out
        subst this
        rw [List.getElem?_eq_getElem (by rw [HL.out]; exact hlt)] at hc
        exact Option.some.inj hc
      have HC := Lib.hid hc
      clear hc
      have hvb := val_bd c
      by_cases hneg : val c < 0
      · have hno : ¬ isCode l := fun h => by have := h c (mem_of_get? HC.out); omega
        have HNO := Lib.hid hno
        clear hno
        go_wp2_with (go_at_call 70; refine (refValue_any _ _).mono ?_; rintro e w' ⟨rfl, rfl⟩)
        go_ret2
        exact ⟨rfl, .inr ⟨HNO.out, rfl⟩⟩
      · have b0 : 0 ≤ ((k : Int) + 1) * val c := Int.mul_nonneg (by omega) (by omega)
        have b1 : ((k : Int) + 1) * val c ≤ 1001 * 36 := Int.mul_le_mul (by omega) hvb.2 (by omega) (by omega)
        have hlk : (l.take k).length = k := by rw [List.length_take, HL.out]; omega
        have hcl : isCode (l.take (k + 1)) := by rw [take_snoc? HC.out]; exact isCode_snoc HK.out (by omega)
        have hck : (m + ((k : Int) + 1) * val c) % 37 = ck (l.take (k + 1)) := by
          have := ck_snoc (l := l.take k) (c := c) (by omega)
          rw [hlk, ← HM.out] at this
          rw [this, take_snoc? HC.out]
        have HCK := Lib.hid hck
        have HCL := Lib.hid hcl
        clear hlk hcl hck
        go_wp2_with (go_at_call 70; refine (refValue_any _ _).mono ?_; rintro e w' ⟨rfl, rfl⟩)
        go_round
        case rel => exact ⟨k + 1, (m + ((k : Int) + 1) * val c) % 37, by omega, HCL, by omega, by omega, HCK, rfl, by go_num⟩
        case measure => simp [intOf]; omega
    · have HT : Hid (l.take k = l) := List.take_of_length_le (by rw [HL.out]; omega)
      go_wp2
      go_ret2
      exact ⟨rfl, .inl ⟨by rw [← HT.out]; exact HK.out, by rw [← HT.out, ← HM.out]; rfl⟩⟩
end Go.Proofs.Ytlanephpmoajiaa
