/- The walks of slices.Index and slices.Contains on strings. -/
import Derived.Test.YtogccnngdfancaaFuncs
import Derived.Lib.Strings
namespace Go.Proofs.Ytogccnngdfancaa
open Go.RowKit

theorem str_eq (a b : ByteArray) : (a.toList == b.toList) = decide (a = b) := by
  rw [Bool.eq_iff_iff, beq_iff_eq, decide_eq_true_iff, Lib.toList_data, Lib.toList_data]
  refine ⟨fun h => ?_, fun h => by rw [h]⟩
  cases a with | mk a => cases b with | mk b =>
    congr 1
    exact Array.toList_inj.1 h

set_option maxHeartbeats 400000 in
theorem index106_any (v : Value) (xs : List ByteArray) (S : Nat → Prop) (nm : ByteArray) (w : World) (hv : Rd .string w S v xs) :
    Calls Try.prog 64 #[v, .string nm] w fun e w' => e = .returned (.int .i64 (firstIdx (fun i => decide (nm = xs.getD i ⟨#[]⟩)) xs.length)) ∧ w = w' := by
  obtain ⟨A, n, cap, rfl, hn, hcap, hmax, hc⟩ := hv.lt.open_
  rw [hn]
  obtain ⟨p, hp⟩ : ∃ p, p = (fun i => decide (nm = xs.getD i ⟨#[]⟩)) := ⟨_, rfl⟩
  rw [← hp]
  have HP := Lib.hid hp
  have HN := Lib.hid hn
  clear hn hp
  go_enter Try.func64, Try.ntmps64
  go_wp2_with fail
  go_loop [8] (fun i => ∃ k : Nat, k ≤ n ∧ i = .int .i64 k ∧ Hid (∀ j, j < k → p j = false)) (fun i => n - (intOf i).toNat)
  case atStart => exact ⟨0, by omega, rfl, fun j hj => absurd hj (by omega)⟩
  case round =>
    obtain ⟨k, hk, rfl, HK⟩ := hrel
    by_cases hlt : k < n
    · obtain ⟨b, off, u, rfl, _, hu, hcell⟩ := hc k hlt
      have hpk : p k = decide (nm = u) := by rw [HP.out]; simp [List.getD, hu]
      have heq := str_eq nm u
      clear hc hu
      cases hp : p k with
      | true =>
        have HR := Lib.hid (firstIdx_hit hlt hp HK.out)
        have he : (nm.toList == u.toList) = true := by rw [heq, ← hpk, hp]
        clear hp hpk heq
        go_wp2_with fail
        go_ret
        exact ⟨ret_int HR.out.symm, rfl⟩
      | false =>
        have HK1 : Hid (∀ j, j < k + 1 → p j = false) := fun j hj => by
          rcases Nat.lt_or_ge j k with h | h
          · exact HK.out j h
          · obtain rfl : j = k := by omega
            exact hp
        have he : (nm.toList == u.toList) = false := by rw [heq, ← hpk, hp]
        clear hp hpk heq
        go_wp2_with fail
        go_round
        case rel => exact ⟨k + 1, by omega, by go_num, HK1⟩
        case measure => simp [intOf]; omega
    · have HR := Lib.hid (firstIdx_miss (n := n) (fun j hj => HK.out j (by omega)))
      clear hc
      go_wp2_with fail
      go_ret
      exact ⟨ret_int HR.out.symm, rfl⟩

/-- A list has a name. -/
def hasN (xs : List ByteArray) (nm : ByteArray) : Bool := xs.any (fun x => decide (x = nm))
theorem anyIdx_hasN (xs : List ByteArray) (nm : ByteArray) : anyIdx (fun i => decide (nm = xs.getD i ⟨#[]⟩)) xs.length = hasN xs nm := by
  unfold anyIdx hasN
  rw [Bool.eq_iff_iff, List.any_eq_true, List.any_eq_true]
  constructor
  · rintro ⟨i, hi, h⟩
    have hi := List.mem_range.1 hi
    refine ⟨xs[i], List.getElem_mem hi, ?_⟩
    simpa [List.getD, List.getElem?_eq_getElem hi, eq_comm] using h
  · rintro ⟨x, hx, h⟩
    obtain ⟨i, hi, rfl⟩ := List.mem_iff_getElem.1 hx
    refine ⟨i, List.mem_range.2 hi, ?_⟩
    simpa [List.getD, List.getElem?_eq_getElem hi, eq_comm] using h

set_option maxHeartbeats 400000 in
theorem contains94_any (v : Value) (xs : List ByteArray) (S : Nat → Prop) (nm : ByteArray) (w : World) (hv : Rd .string w S v xs) :
    Calls Try.prog 50 #[v, .string nm] w fun e w' => e = .returned (.bool (hasN xs nm)) ∧ w = w' := by
  have HC := Lib.hid (index106_any v xs S nm w hv)
  have HA := Lib.hid (anyIdx_first (fun i => decide (nm = xs.getD i ⟨#[]⟩)) xs.length)
  rw [anyIdx_hasN] at HA
  obtain ⟨q, hq⟩ : ∃ q, q = firstIdx (fun i => decide (nm = xs.getD i ⟨#[]⟩)) xs.length := ⟨_, rfl⟩
  rw [← hq] at HC HA
  clear hv hq
  go_enter Try.func50, Try.ntmps50
  go_wp2_with (go_at_call 64; refine HC.out.mono ?_; rintro e w1 ⟨rfl, rfl⟩)
  go_ret
  exact ⟨ret_bool HA.out, rfl⟩
end Go.Proofs.Ytogccnngdfancaa
