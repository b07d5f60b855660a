/- The walks of plant.Open and plant.Mend. -/
import Derived.Test.YtlanephpmoajiaaCodes
import Derived.Deep.QuietTactic
import Derived.BigQuiet
namespace Go.Proofs.Ytlanephpmoajiaa
open Go.RowKit Pl

def OpenPost (s : ByteArray) (B : Nat) (w : World) (e : Ending) (w' : World) : Prop :=
  ∃ (r : ByteArray) (c : Int), e = .returned (.tuple #[.string r, .int .i64 c]) ∧ OpenOut s.data.toList r.data.toList c ∧ r.size ≤ 24 ∧ Below B w w'

theorem extract_to_size (s : ByteArray) (n : Nat) (h : n ≤ s.size) : (s.extract 0 n).size = n := by simp; omega

set_option maxRecDepth 100000 in
set_option maxHeartbeats 400000 in
theorem open_any (s : ByteArray) (w : World) : Calls Try.prog 31 #[.string s] w (OpenPost s w.heap.size w) := by
  have hlen := ba_len s
  by_cases h0 : s.size < 2
  · have HF : Hid (OpenOut s.data.toList [] 4) := .inl ⟨rfl, rfl, .inl (by omega)⟩
    clear hlen
    go_enter Try.func31, Try.ntmps31
    go_wp2_with fail
    go_ret2
    exact ⟨⟨#[]⟩, 4, rfl, HF.out, by decide, Below.refl _ _⟩
  · by_cases h1 : 24 < s.size
    · have HF : Hid (OpenOut s.data.toList [] 4) := .inl ⟨rfl, rfl, .inr (by omega)⟩
      clear hlen
      go_enter Try.func31, Try.ntmps31
      go_wp2_with fail
      go_ret2
      exact ⟨⟨#[]⟩, 4, rfl, HF.out, by decide, Below.refl _ _⟩
    · have hl : (s.data.toList.map val).length ≤ 64 := by rw [List.length_map, hlen]; omega
      obtain ⟨xs, hxs⟩ : ∃ xs, xs = s.data.toList.map val := ⟨_, rfl⟩
      have HX := Lib.hid hxs
      have HB := Lib.hid (vals_bd s.data.toList)
      have HL := Lib.hid hlen
      rw [← hxs] at hl HB
      clear hxs hlen
      have h1' : s.size ≤ 24 := by omega
      go_enter Try.func31, Try.ntmps31
      go_wp2_with fail
      refine (values_any _ _ (by omega)).mono ?_
      rintro e w1 ⟨⟨v, rfl, hr⟩, hbel⟩
      rw [← HX.out] at hr
      go_wp2_with (first
        | (go_at_call 65; refine (count_any _ _ _ _ hr).mono ?_; rintro e w' ⟨rfl, rfl⟩)
        | (go_at_call 67; refine (sum_any _ _ _ _ hr hl HB.out).mono ?_; rintro e w' ⟨rfl, rfl⟩))
      all_goals go_ret2
      · have hz : 0 < below0 xs := by assumption
        exact ⟨⟨#[]⟩, 2, rfl, .inr ⟨by rw [HL.out]; omega, by rw [HL.out]; omega, .inl ⟨rfl, rfl, fun hc => by have := (below0_code _).2 hc; rw [← HX.out] at this; omega⟩⟩, by decide, hbel⟩
      · have hz : ¬ 0 < below0 xs := by assumption
        have hk : (wsum 0 xs % 37 != 0) = true := by assumption
        have hcode : isCode s.data.toList := (below0_code _).1 (by rw [← HX.out]; omega)
        exact ⟨⟨#[]⟩, 90, rfl, .inr ⟨by rw [HL.out]; omega, by rw [HL.out]; omega, .inr (.inl ⟨rfl, rfl, hcode, by unfold ck; rw [← HX.out]; simpa using hk⟩)⟩, by decide, hbel⟩
      · have hz : ¬ 0 < below0 xs := by assumption
        have hk : (wsum 0 xs % 37 != 0) = false := by assumption
        have hcode : isCode s.data.toList := (below0_code _).1 (by rw [← HX.out]; omega)
        exact ⟨_, 0, rfl, .inr ⟨by rw [HL.out]; omega, by rw [HL.out]; omega, .inr (.inr ⟨rfl, hcode, by unfold ck; rw [← HX.out]; simpa using hk, by rw [Lib.extract_data, HL.out]; simp⟩)⟩, by rw [extract_to_size _ _ (by omega)]; omega, hbel⟩

theorem mend_res (s : ByteArray) (x n : Nat) (a b : List UInt8) (hx : x < 37) (h : s.data.toList = a ++ [63] ++ b) (hn : n = a.length) :
    (s.extract 0 n ++ (⟨#[48, 49, 50, 51, 52, 53, 54, 55, 56, 57, 65, 66, 67, 68, 69, 70, 71, 72, 73, 74, 75, 76, 77, 78, 79, 80, 81, 82, 83, 84, 85, 86, 87, 88, 89, 90, 45]⟩ : ByteArray).extract x (x + 1) ++ s.extract (n + 1) s.size).data.toList = a ++ [symbols.getD x 0] ++ b := by
  have e1 : s.size = a.length + 1 + b.length := by rw [← ba_len, h]; simp; omega
  rw [ByteArray.data_append, Array.toList_append, ByteArray.data_append, Array.toList_append, Lib.extract_data, Lib.extract_data, Lib.extract_data, h, hn, e1]
  have e2 : ((⟨#[48, 49, 50, 51, 52, 53, 54, 55, 56, 57, 65, 66, 67, 68, 69, 70, 71, 72, 73, 74, 75, 76, 77, 78, 79, 80, 81, 82, 83, 84, 85, 86, 87, 88, 89, 90, 45]⟩ : ByteArray).data.toList.drop x).take (x + 1 - x) = [symbols.getD x 0] := by
    have := sym_slice x hx (x + 1) (by omega)
    rw [show x + 1 - x = 1 from by omega, List.take_take, Nat.min_self] at this
    rw [show x + 1 - x = 1 from by omega]; exact this
  rw [e2]
  simp

def MendPost (s : ByteArray) (B : Nat) (w : World) (e : Ending) (w' : World) : Prop :=
  ∃ (r : ByteArray) (c : Int), e = .returned (.tuple #[.string r, .int .i64 c]) ∧ MendOut s.data.toList r.data.toList c ∧ r.size ≤ 24 ∧ Below B w w'

set_option maxRecDepth 100000 in
set_option maxHeartbeats 400000 in
theorem mend_any (s : ByteArray) (w : World) : Calls Try.prog 33 #[.string s] w (MendPost s w.heap.size w) := by
  have hlen := ba_len s
  by_cases h0 : s.size < 2
  · have HF : Hid (MendOut s.data.toList [] 4) := .inl ⟨rfl, rfl, .inl (by omega)⟩
    clear hlen
    go_enter Try.func33, Try.ntmps33
    go_wp2_with fail
    go_ret2
    exact ⟨⟨#[]⟩, 4, rfl, HF.out, by decide, Below.refl _ _⟩
  · by_cases h1 : 24 < s.size
    · have HF : Hid (MendOut s.data.toList [] 4) := .inl ⟨rfl, rfl, .inr (by omega)⟩
      clear hlen
      go_enter Try.func33, Try.ntmps33
      go_wp2_with fail
      go_ret2
      exact ⟨⟨#[]⟩, 4, rfl, HF.out, by decide, Below.refl _ _⟩
    · have hl : (s.data.toList.map val).length ≤ 64 := by rw [List.length_map, hlen]; omega
      have hm : 0 ≤ wsum 0 (s.data.toList.map val) % 37 ∧ wsum 0 (s.data.toList.map val) % 37 ≤ 36 := by omega
      obtain ⟨xs, hxs⟩ : ∃ xs, xs = s.data.toList.map val := ⟨_, rfl⟩
      have HX := Lib.hid hxs
      have HB := Lib.hid (vals_bd s.data.toList)
      have HL := Lib.hid hlen
      rw [← hxs] at hl hm HB
      clear hxs hlen
      have h1' : s.size ≤ 24 := by omega
      rcases idx_spec 63 s.data.toList with ⟨hi, hno⟩ | ⟨a, b, hab, hno, hi⟩
      · have hidx := fun w => (indexByte_any s 63 w).mono (R' := fun e w' => e = .returned (.int .i64 (-1)) ∧ w = w') fun e w' ⟨he, hw⟩ => ⟨by rw [he]; exact ret_int hi, hw⟩
        have HI := Lib.hid hidx
        have HNO := Lib.hid hno
        clear hidx hi hno
        go_enter Try.func33, Try.ntmps33
        go_wp2_with fail
        refine (values_any _ _ (by omega)).mono ?_
        rintro e w1 ⟨⟨v, rfl, hr⟩, hbel⟩
        go_wp2_with (first
          | (go_at_call 69; refine (HI.out _).mono ?_; rintro e w' ⟨rfl, rfl⟩))
        go_ret2
        exact ⟨⟨#[]⟩, 2, rfl, .inr ⟨by rw [HL.out]; omega, by rw [HL.out]; omega, .inl ⟨rfl, rfl, fun ⟨a, b, hc⟩ => HNO.out (below0_holed hc).1⟩⟩, by decide, hbel⟩
      · have hidx := fun w => (indexByte_any s 63 w).mono (R' := fun e w' => e = .returned (.int .i64 a.length) ∧ w = w') fun e w' ⟨he, hw⟩ => ⟨by rw [he]; exact ret_int hi, hw⟩
        have HI := Lib.hid hidx
        have hal : a.length + 1 ≤ s.size := by rw [← HL.out, hab]; simp
        obtain ⟨n, hn⟩ : ∃ n, n = a.length := ⟨_, rfl⟩
        rw [← hn] at HI hal
        have HN := Lib.hid hn
        have HAB := Lib.hid hab
        clear hidx hi hno hn hab
        have hn0 : decide ((n : Int) < 0) = false := by simp
        go_enter Try.func33, Try.ntmps33
        go_wp2_with fail
        refine (values_any _ _ (by omega)).mono ?_
        rintro e w1 ⟨⟨v, rfl, hr⟩, hbel⟩
        rw [← HX.out] at hr
        go_wp2_with (first
          | (go_at_call 69; refine (HI.out _).mono ?_; rintro e w' ⟨rfl, rfl⟩)
          | (go_at_call 65; refine (count_any _ _ _ _ hr).mono ?_; rintro e w' ⟨rfl, rfl⟩)
          | (go_at_call 67; refine (sum_any _ _ _ _ hr hl HB.out).mono ?_; rintro e w' ⟨rfl, rfl⟩)
          | (go_at_call 66; refine (solve_any _ _ _ (by omega) (by omega) hm.1 hm.2).mono ?_; rintro e w' ⟨⟨x, hx1, hx2, rfl⟩, rfl⟩))
        rotate_left
        have w1n : IntKind.i64.wrap ((n : Int) + 1) = (n : Int) + 1 := IntWalk.i64_in _ (by omega)
        have w1x : IntKind.i64.wrap ((x : Int) + 1) = (x : Int) + 1 := IntWalk.i64_in _ (by omega)
        have n1n : 0 ≤ (n : Int) + 1 := by omega
        have n1x : 0 ≤ (x : Int) + 1 := by omega
        have t1n : ((n : Int) + 1).toNat = n + 1 := by omega
        have t1x : ((x : Int) + 1).toNat = x + 1 := by omega
        go_quiet (fail)
        go_wp2
        · go_ret2
          have hb1 : ((below0 xs : Int) != 1) = false := by assumption
          have hb1' : below0 (s.data.toList.map val) = 1 := by rw [← HX.out]; simp at hb1; omega
          have hho : Holed a b s.data.toList := by rw [HAB.out] at hb1' ⊢; exact holed_of hb1'
          have hres := mend_res s x n a b hx1 HAB.out HN.out
          have hck : ck (a ++ [symbols.getD x 0] ++ b) = 0 := ck_mid (x := x) (sym_at x hx1) (by rw [← HAB.out]; unfold ck; rw [← HX.out, ← HN.out]; exact hx2)
          refine ⟨_, 0, rfl, .inr ⟨by rw [HL.out]; omega, by rw [HL.out]; omega, .inr ⟨rfl, a, b, symbols.getD x 0, hho, hres, by rw [sym_at x hx1]; omega, by rw [hres]; exact hck⟩⟩, ?_, below_drewN hbel nq⟩
          have hle : s.data.toList.length = a.length + 1 + b.length := by rw [HAB.out]; simp; omega
          rw [← ba_len, hres]; simp; rw [HL.out] at hle; omega
        · go_ret2
          have hb1 : ((below0 xs : Int) != 1) = true := by assumption
          exact ⟨⟨#[]⟩, 2, rfl, .inr ⟨by rw [HL.out]; omega, by rw [HL.out]; omega, .inl ⟨rfl, rfl, fun ⟨a, b, hc⟩ => by have := (below0_holed hc).2; rw [← HX.out] at this; simp [this] at hb1⟩⟩, by decide, hbel⟩
end Go.Proofs.Ytlanephpmoajiaa
