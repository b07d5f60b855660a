/- The walks of the reference's Seal, Open and Mend. -/
import Derived.Test.YtlanephpmoajiaaRefCodes
import Derived.Deep.QuietTactic
import Derived.BigQuiet
namespace Go.Proofs.Ytlanephpmoajiaa
open Go.RowKit Pl

theorem refSum_code (s : ByteArray) (w : World) (hs : s.size ≤ 1000) (h : isCode s.data.toList) :
    Calls Try.prog 68 #[.string s] w fun e w' => e = .returned (.tuple #[.int .i64 (ck s.data.toList), .bool true]) ∧ w = w' :=
  (refSum_any s w hs).mono fun e w' ⟨hw, h'⟩ => by
    rcases h' with ⟨_, h'⟩ | ⟨h', _⟩
    · exact ⟨h', hw⟩
    · exact absurd h h'
theorem refSum_not (s : ByteArray) (w : World) (hs : s.size ≤ 1000) (h : ¬ isCode s.data.toList) :
    Calls Try.prog 68 #[.string s] w fun e w' => e = .returned (.tuple #[.int .i64 0, .bool false]) ∧ w = w' :=
  (refSum_any s w hs).mono fun e w' ⟨hw, h'⟩ => by
    rcases h' with ⟨h', _⟩ | ⟨_, h'⟩
    · exact absurd h' h
    · exact ⟨h', hw⟩
theorem ck_nn (l : List UInt8) : 0 ≤ ck l ∧ ck l ≤ 36 := by unfold ck; omega
theorem seal_ex (l : List UInt8) (h1 : l.length ≤ 35) : ∃ x : Nat, x < 37 ∧ ck (l ++ [symbols.getD x 0]) = 0 := by
  obtain ⟨x, hx, h⟩ := solve_ex (l.length + 1) (ck l) (by omega) (by omega)
  exact ⟨x, hx, ck_put (sym_at x hx) h⟩
theorem mend_ex (a b : List UInt8) (h1 : a.length ≤ 35) : ∃ x : Nat, x < 37 ∧ ck (a ++ [symbols.getD x 0] ++ b) = 0 := by
  obtain ⟨x, hx, h⟩ := solve_ex (a.length + 1) (ck (a ++ [63] ++ b)) (by omega) (by omega)
  exact ⟨x, hx, ck_mid (sym_at x hx) h⟩
theorem refSeal_res (s : ByteArray) (x : Nat) (hx : x < 37) : (s ++ (⟨#[48, 49, 50, 51, 52, 53, 54, 55, 56, 57, 65, 66, 67, 68, 69, 70, 71, 72, 73, 74, 75, 76, 77, 78, 79, 80, 81, 82, 83, 84, 85, 86, 87, 88, 89, 90, 45]⟩ : ByteArray).extract x (x + 1)).data.toList = s.data.toList ++ [symbols.getD x 0] := by
  rw [ByteArray.data_append, Array.toList_append, Lib.extract_data]
  refine congrArg _ ?_
  have := sym_slice x hx (x + 1) (by omega)
  rw [show x + 1 - x = 1 from by omega, List.take_take, Nat.min_self] at this
  rw [show x + 1 - x = 1 from by omega]; exact this

set_option maxRecDepth 100000 in
set_option maxHeartbeats 400000 in
theorem refSeal_any (s : ByteArray) (w : World) : Calls Try.prog 30 #[.string s] w (SealPost s w.heap.size w) := by
  have hlen := ba_len s
  by_cases h0 : s.size < 1
  · have HF : Hid (SealOut s.data.toList [] 4) := .inl ⟨rfl, rfl, .inl (by omega)⟩
    clear hlen
    go_enter Try.func30, Try.ntmps30
    go_wp2_with fail
    go_ret2
    exact ⟨⟨#[]⟩, 4, rfl, HF.out, by decide, Below.refl _ _⟩
  · by_cases h1 : 23 < s.size
    · have HF : Hid (SealOut s.data.toList [] 4) := .inl ⟨rfl, rfl, .inr (by omega)⟩
      clear hlen
      go_enter Try.func30, Try.ntmps30
      go_wp2_with fail
      go_ret2
      exact ⟨⟨#[]⟩, 4, rfl, HF.out, by decide, Below.refl _ _⟩
    · have HL := Lib.hid hlen
      clear hlen
      have h1' : s.size ≤ 23 := by omega
      by_cases hcode : isCode s.data.toList
      · have HC := Lib.hid hcode
        have HEX := Lib.hid (seal_ex s.data.toList (by rw [HL.out]; omega))
        clear hcode
        go_enter Try.func30, Try.ntmps30
        go_wp2_with (go_at_call 68; refine (refSum_code _ _ (by omega) HC.out).mono ?_; rintro e w' ⟨rfl, rfl⟩)
        go_loop [6] (fun i => ∃ k : Nat, k < 37 ∧ Hid (∀ j : Nat, j < k → ck (s.data.toList ++ [symbols.getD j 0]) ≠ 0) ∧ i = .int .i64 k) (fun i => 37 - (intOf i).toNat)
        case atStart => exact ⟨0, by omega, fun j hj => absurd hj (by omega), rfl⟩
        case round =>
          obtain ⟨k, hk, HK, rfl⟩ := hrel
          have hres := refSeal_res s k hk
          have hval := sym_at k hk
          have hcd : isCode (s.data.toList ++ [symbols.getD k 0]) := isCode_snoc HC.out (by omega)
          have HCON := Lib.hid (fun w => (refSum_code (s ++ (⟨#[48, 49, 50, 51, 52, 53, 54, 55, 56, 57, 65, 66, 67, 68, 69, 70, 71, 72, 73, 74, 75, 76, 77, 78, 79, 80, 81, 82, 83, 84, 85, 86, 87, 88, 89, 90, 45]⟩ : ByteArray).extract k (k + 1)) w (by rw [← ba_len, hres, List.length_append, HL.out]; simp; omega) (by rw [hres]; exact hcd)))
          rw [hres] at HCON
          have HRES := Lib.hid hres
          clear hres hval hcd
          obtain ⟨q, hq⟩ : ∃ q, q = ck (s.data.toList ++ [symbols.getD k 0]) := ⟨_, rfl⟩
          rw [← hq] at HCON
          have HQ := Lib.hid hq
          clear hq
          by_cases hz : q = 0
          · have hz' : (q == 0) = true := by simpa using hz
            have HZ := Lib.hid (HQ.out.symm.trans hz)
            clear hz
            go_wp2_with (go_at_call 68; refine (HCON.out _).mono ?_; rintro e w' ⟨rfl, rfl⟩)
            go_ret2
            refine ⟨_, 0, rfl, .inr ⟨by rw [HL.out]; omega, by rw [HL.out]; omega, .inr ⟨rfl, HC.out, symbols.getD k 0, HRES.out, by rw [sym_at k hk]; omega, by rw [HRES.out]; exact HZ.out⟩⟩, ?_, Below.refl _ _⟩
            rw [← ba_len, HRES.out, List.length_append, HL.out]; simp; omega
          · have hz' : (q == 0) = false := by simpa using hz
            rw [HQ.out] at hz
            have HK1 : Hid (∀ j : Nat, j < k + 1 → ck (s.data.toList ++ [symbols.getD j 0]) ≠ 0) := fun j hj => by
              rcases Nat.lt_or_ge j k with h | h
              · exact HK.out j h
              · obtain rfl : j = k := by omega
                exact hz
            have hk36 : k < 36 := by
              obtain ⟨x, hx, hx0⟩ := HEX.out
              rcases Nat.lt_or_ge x (k + 1) with h | h
              · exact absurd hx0 (HK1.out x h)
              · omega
            clear hz
            go_wp2_with (go_at_call 68; refine (HCON.out _).mono ?_; rintro e w' ⟨rfl, rfl⟩)
            go_round
            case rel => exact ⟨k + 1, by omega, HK1, by go_num⟩
            case measure => simp [intOf]; omega
      · have HC := Lib.hid hcode
        clear hcode
        go_enter Try.func30, Try.ntmps30
        go_wp2_with (go_at_call 68; refine (refSum_not _ _ (by omega) HC.out).mono ?_; rintro e w' ⟨rfl, rfl⟩)
        go_ret2
        exact ⟨⟨#[]⟩, 2, rfl, .inr ⟨by rw [HL.out]; omega, by rw [HL.out]; omega, .inl ⟨rfl, rfl, HC.out⟩⟩, by decide, Below.refl _ _⟩

set_option maxRecDepth 100000 in
set_option maxHeartbeats 400000 in
theorem refOpen_any (s : ByteArray) (w : World) : Calls Try.prog 32 #[.string s] w (OpenPost s w.heap.size w) := by
  have hlen := ba_len s
  by_cases h0 : s.size < 2
  · have HF : Hid (OpenOut s.data.toList [] 4) := .inl ⟨rfl, rfl, .inl (by omega)⟩
    clear hlen
    go_enter Try.func32, Try.ntmps32
    go_wp2_with fail
    go_ret2
    exact ⟨⟨#[]⟩, 4, rfl, HF.out, by decide, Below.refl _ _⟩
  · by_cases h1 : 24 < s.size
    · have HF : Hid (OpenOut s.data.toList [] 4) := .inl ⟨rfl, rfl, .inr (by omega)⟩
      clear hlen
      go_enter Try.func32, Try.ntmps32
      go_wp2_with fail
      go_ret2
      exact ⟨⟨#[]⟩, 4, rfl, HF.out, by decide, Below.refl _ _⟩
    · have HL := Lib.hid hlen
      clear hlen
      have h1' : s.size ≤ 24 := by omega
      by_cases hcode : isCode s.data.toList
      · have HC := Lib.hid hcode
        clear hcode
        go_enter Try.func32, Try.ntmps32
        go_wp2_with (go_at_call 68; refine (refSum_code _ _ (by omega) HC.out).mono ?_; rintro e w' ⟨rfl, rfl⟩)
        · go_ret2
          have hk : (ck s.data.toList != 0) = true := by assumption
          exact ⟨⟨#[]⟩, 90, rfl, .inr ⟨by rw [HL.out]; omega, by rw [HL.out]; omega, .inr (.inl ⟨rfl, rfl, HC.out, by simpa using hk⟩)⟩, by decide, Below.refl _ _⟩
        · go_ret2
          have hk : (ck s.data.toList != 0) = false := by assumption
          exact ⟨_, 0, rfl, .inr ⟨by rw [HL.out]; omega, by rw [HL.out]; omega, .inr (.inr ⟨rfl, HC.out, by simpa using hk, by rw [Lib.extract_data, HL.out]; simp⟩)⟩, by rw [extract_to_size _ _ (by omega)]; omega, Below.refl _ _⟩
      · have HC := Lib.hid hcode
        clear hcode
        go_enter Try.func32, Try.ntmps32
        go_wp2_with (go_at_call 68; refine (refSum_not _ _ (by omega) HC.out).mono ?_; rintro e w' ⟨rfl, rfl⟩)
        go_ret2
        exact ⟨⟨#[]⟩, 2, rfl, .inr ⟨by rw [HL.out]; omega, by rw [HL.out]; omega, .inl ⟨rfl, rfl, HC.out⟩⟩, by decide, Below.refl _ _⟩
end Go.Proofs.Ytlanephpmoajiaa
