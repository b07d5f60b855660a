/- The walk of the reference's Name. -/
import Derived.Test.YtlanephpmoajiaaFew
import Derived.Test.YtlanephpmoajiaaNames
namespace Go.Proofs.Ytlanephpmoajiaa
open Go.RowKit
set_option maxRecDepth 100000 in
set_option maxHeartbeats 2000000 in
theorem refName_any (s : ByteArray) (w : World) : Calls Try.prog 57 #[.string s] w fun e w' => e = .returned (.bool (nameB s.data.toList)) ∧ w = w' := by
  have hlen : s.data.toList.length = s.size := by simp
  by_cases h0 : s.size < 1
  · have HF := Lib.hid (nameB_long (l := s.data.toList) (.inl (by omega)))
    clear hlen
    go_enter Try.func57, Try.ntmps57
    go_wp2_with fail
    go_ret
    exact ⟨ret_bool HF.out.symm, rfl⟩
  · by_cases h1 : 24 < s.size
    · have HF := Lib.hid (nameB_long (l := s.data.toList) (.inr (by omega)))
      clear hlen
      go_enter Try.func57, Try.ntmps57
      go_wp2_with fail
      go_ret
      exact ⟨ret_bool HF.out.symm, rfl⟩
    · obtain ⟨l, hl⟩ : ∃ l, l = s.data.toList := ⟨_, rfl⟩
      rw [← hl] at hlen ⊢
      have HN := Lib.hid hlen
      have HS := Lib.hid hl
      clear hl hlen
      go_enter Try.func57, Try.ntmps57
      go_wp2_with fail
      go_loop [3] (fun i => ∃ k : Nat, k ≤ s.size ∧ i = .int .i64 k ∧ Hid (∀ c ∈ l.take k, nameByte c = true)) (fun i => s.size - (intOf i).toNat)
      case atStart => exact ⟨0, Nat.zero_le _, rfl, fun _ h => by simp at h⟩
      case round =>
        obtain ⟨k, hk, rfl, HK⟩ := hrel
        by_cases hlt : k < s.size
        · obtain ⟨c, hx⟩ : ∃ c, l[k]? = some c := ⟨l[k]'(by have := HN.out; omega), List.getElem?_eq_getElem (by have := HN.out; omega)⟩
          have hcs : s[k] = c := by
            have := HS.out
            subst this
            rw [List.getElem?_eq_getElem (by rw [HN.out]; exact hlt)] at hx
            exact Option.some.inj hx
          have HX := Lib.hid hx; clear hx
          obtain ⟨n, hn, hn0, hn1, hcase⟩ := byteCase c
          have hcs' : ((s[k]).toNat : Int) = n := by rw [hcs, hn]
          clear hn hcs
          have HK1 : nameByte c = true → Hid (∀ x ∈ l.take (k + 1), nameByte x = true) := fun hg x hx => by
            rw [take_snoc? HX.out] at hx
            rcases List.mem_append.1 hx with h | h
            · exact HK.out x h
            · simp at h; rw [h]; exact hg
          rcases hcase with ⟨a1, a2, hg⟩ | ⟨a1, a2, hg⟩ | ⟨a1, a2, hg⟩ | ⟨rfl, hg⟩ | ⟨rfl, hg⟩ | ⟨rfl, hg⟩ | ⟨a1, a2, a3, a4, hg⟩
          case inr.inr.inr.inr.inr.inr =>
            have HB := Lib.hid (nameB_bad (mem_of_get? HX.out) hg)
            have b2 : (n == 45) = false := by simpa using a2
            have b3 : (n == 95) = false := by simpa using a3
            have b4 : (n == 46) = false := by simpa using a4
            clear hg HK1 a2 a3 a4
            rcases a1 with a1 | ⟨a1, a5⟩ | ⟨a1, a5⟩ | a1
            all_goals
              go_wp2_with fail
              all_goals first
                | (go_ret; exact ⟨ret_bool HB.out.symm, rfl⟩)
                | (rename_i h; exfalso; simp at h; omega)
                | (rename_i h _; exfalso; simp at h; omega)
          all_goals
            have HG := HK1 hg
            clear HK1 hg
            go_wp2_with fail
            go_round
            case rel => exact ⟨k + 1, by omega, by go_num, HG⟩
            case measure => simp [intOf]; omega
        · have HT : Hid (l.take k = l) := List.take_of_length_le (by rw [HN.out]; omega)
          have HB := Lib.hid (nameB_good (l := l) (by rw [HN.out]; omega) (by rw [HN.out]; omega) (by have := HK.out; rwa [HT.out] at this))
          go_wp2_with fail
          go_ret
          exact ⟨ret_bool HB.out.symm, rfl⟩
end Go.Proofs.Ytlanephpmoajiaa
