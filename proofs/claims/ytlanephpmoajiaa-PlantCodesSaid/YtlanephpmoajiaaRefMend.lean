/- The walk of the reference's Mend. -/
import Derived.Test.YtlanephpmoajiaaRefCodes2
namespace Go.Proofs.Ytlanephpmoajiaa
open Go.RowKit Pl

/-- What the first loop of Mend has seen: every byte is a symbol or a question mark; n of them are question marks, the last at place p. -/
def Seen (l : List UInt8) (p n : Nat) : Prop := (∀ c ∈ l, 0 ≤ val c ∨ c = 63) ∧ n = below0 (l.map val) ∧ (0 < n → l[p]? = some 63) ∧ (n = 0 → p = 0)
theorem Seen.nil : Seen [] 0 0 := ⟨by simp, rfl, by simp, by simp⟩
theorem Seen.sym {l : List UInt8} {p n : Nat} {c : UInt8} (h : Seen l p n) (hc : 0 ≤ val c) : Seen (l ++ [c]) p n := by
  refine ⟨fun x hx => ?_, ?_, fun hn => ?_, h.2.2.2⟩
  · rcases List.mem_append.1 hx with h1 | h1
    · exact h.1 x h1
    · simp at h1; subst h1; exact .inl hc
  · rw [List.map_append, below0_app, ← h.2.1]
    have : below0 [val c] = 0 := by simp [below0]; exact hc
    simp [this]
  · have := h.2.2.1 hn
    rw [List.getElem?_append_left (List.getElem?_eq_some_iff.1 this).1, this]
theorem Seen.hole {l : List UInt8} {p n : Nat} (h : Seen l p n) : Seen (l ++ [63]) l.length (n + 1) := by
  refine ⟨fun x hx => ?_, ?_, fun _ => by simp, fun h0 => by omega⟩
  · rcases List.mem_append.1 hx with h1 | h1
    · exact h.1 x h1
    · simp at h1; subst h1; exact .inr rfl
  · rw [List.map_append, below0_app, ← h.2.1]
    have : below0 [val 63] = 1 := by rw [val63]; decide
    simp [this]
theorem Seen.holed {l : List UInt8} {p : Nat} (h : Seen l p 1) : ∃ a b, a.length = p ∧ l = a ++ [63] ++ b ∧ Holed a b l := by
  obtain ⟨hp, he⟩ := List.getElem?_eq_some_iff.1 (h.2.2.1 (by omega))
  have hl : l = l.take p ++ [63] ++ l.drop (p + 1) := by
    rw [← he, List.append_assoc]
    have := (List.take_append_drop p l).symm
    rw [List.drop_eq_getElem_cons hp] at this
    exact this
  refine ⟨l.take p, l.drop (p + 1), by rw [List.length_take]; omega, hl, ?_⟩
  have hb : below0 ((l.take p ++ [63] ++ l.drop (p + 1)).map val) = 1 := by rw [← hl]; exact h.2.1.symm
  have := holed_of hb
  rw [← hl] at this
  exact this

set_option maxRecDepth 100000 in
set_option maxHeartbeats 400000 in
theorem refMend_any (s : ByteArray) (w : World) : Calls Try.prog 34 #[.string s] w (MendPost s w.heap.size w) := by
  have hlen := ba_len s
  by_cases h0 : s.size < 2
  · have HF : Hid (MendOut s.data.toList [] 4) := .inl ⟨rfl, rfl, .inl (by omega)⟩
    clear hlen
    go_enter Try.func34, Try.ntmps34
    go_wp2_with fail
    go_ret2
    exact ⟨⟨#[]⟩, 4, rfl, HF.out, by decide, Below.refl _ _⟩
  · by_cases h1 : 24 < s.size
    · have HF : Hid (MendOut s.data.toList [] 4) := .inl ⟨rfl, rfl, .inr (by omega)⟩
      clear hlen
      go_enter Try.func34, Try.ntmps34
      go_wp2_with fail
      go_ret2
      exact ⟨⟨#[]⟩, 4, rfl, HF.out, by decide, Below.refl _ _⟩
    · obtain ⟨l, hl⟩ : ∃ l, l = s.data.toList := ⟨_, rfl⟩
      have HS := Lib.hid hl
      rw [← hl] at hlen
      have HL := Lib.hid hlen
      clear hlen hl
      have h1' : s.size ≤ 24 := by omega
      go_enter Try.func34, Try.ntmps34
      go_wp2_with fail
      go_loop [4, 5, 6] (fun p n i => ∃ k at_ m : Nat, k ≤ s.size ∧ m ≤ k ∧ at_ ≤ k ∧ Hid (Seen (l.take k) at_ m) ∧ p = .int .i64 at_ ∧ n = .int .i64 m ∧ i = .int .i64 k) (fun _ _ i => s.size - (intOf i).toNat)
      case atStart => exact ⟨0, 0, 0, by omega, by omega, by omega, Seen.nil, rfl, rfl, rfl⟩
      case round =>
        obtain ⟨k, p, m, hk, hm, hp, HK, rfl, rfl, rfl⟩ := hrel
        by_cases hlt : k < s.size
        · obtain ⟨c, hc⟩ : ∃ c, l[k]? = some c := ⟨l[k]'(by have := HL.out; omega), List.getElem?_eq_getElem (by have := HL.out; omega)⟩
          have hcs : s[k] = c := by
            have := HS.out
            subst this
            rw [List.getElem?_eq_getElem (by rw [HL.out]; exact hlt)] at hc
            exact Option.some.inj hc
          have hlk : (l.take k).length = k := by rw [List.length_take, HL.out]; omega
          have hsn := take_snoc? hc
          have hmem : c ∈ l := mem_of_get? hc
          by_cases h63 : c = 63
          · have hb : ((c.toNat : Int) == 63) = true := by subst h63; decide
            have HK1 : Hid (Seen (l.take (k + 1)) k (m + 1)) := by rw [hsn, h63]; have := HK.out.hole; rw [hlk] at this; exact this
            clear hc hlk hsn hmem h63
            go_wp2_with fail
            go_round
            case rel => exact ⟨k + 1, k, m + 1, by omega, by omega, by omega, HK1, rfl, by go_num, by go_num⟩
            case measure => simp [intOf]; omega
          · have hb : ((c.toNat : Int) == 63) = false := by
              have : c.toNat ≠ 63 := fun e => h63 (UInt8.toNat_inj.1 e)
              simp; omega
            by_cases hneg : val c < 0
            · have HNO : Hid (¬ ∃ a b, Holed a b l) := fun ⟨a, b, he, ha, hb⟩ => by
                rw [he] at hmem
                rcases List.mem_append.1 hmem with h | h
                · rcases List.mem_append.1 h with h | h
                  · have := ha c h; omega
                  · simp at h; exact h63 h
                · have := hb c h; omega
              clear hc hlk hsn hmem h63
              go_wp2_with (go_at_call 70; refine (refValue_any _ _).mono ?_; rintro e w' ⟨rfl, rfl⟩)
              go_ret2
              exact ⟨⟨#[]⟩, 2, rfl, .inr ⟨by rw [← HS.out, HL.out]; omega, by rw [← HS.out, HL.out]; omega, .inl ⟨rfl, rfl, by rw [← HS.out]; exact HNO.out⟩⟩, by decide, Below.refl _ _⟩
            · have HK1 : Hid (Seen (l.take (k + 1)) p m) := by rw [hsn]; exact HK.out.sym (by omega)
              clear hc hlk hsn hmem h63
              go_wp2_with (go_at_call 70; refine (refValue_any _ _).mono ?_; rintro e w' ⟨rfl, rfl⟩)
              go_round
              case rel => exact ⟨k + 1, p, m, by omega, by omega, by omega, HK1, rfl, rfl, by go_num⟩
              case measure => simp [intOf]; omega
        · have HT : Hid (l.take k = l) := List.take_of_length_le (by rw [HL.out]; omega)
          rw [HT.out] at HK
          by_cases hm1 : m = 1
          · obtain ⟨a, b, hal, hab, hho⟩ := (hm1 ▸ HK.out : Seen l p 1).holed
            have hps : p + 1 ≤ s.size := by rw [← HL.out, hab]; simp; omega
            have HAB := Lib.hid hab
            have HAL := Lib.hid hal
            have HHO := Lib.hid hho
            have HEX := Lib.hid (mend_ex a b (by omega))
            subst hm1
            clear hab hal hho HK HT
            go_wp2_with fail
            go_loopw [7] (fun i wr => ∃ x : Nat, x < 37 ∧ Hid (∀ j : Nat, j < x → ck (a ++ [symbols.getD j 0] ++ b) ≠ 0) ∧ i = .int .i64 x ∧ Below w.heap.size w wr) (fun i _ => 37 - (intOf i).toNat)
            case atStart => exact ⟨0, by omega, fun j hj => absurd hj (by omega), rfl, Below.refl _ _⟩
            case round =>
              obtain ⟨x, hx, HK, rfl, hbel⟩ := hrel
              have hres := mend_res s x p a b hx (HS.out.symm.trans HAB.out) HAL.out.symm
              have hval := sym_at x hx
              have hcd : isCode (a ++ [symbols.getD x 0] ++ b) := fun y hy => by
                rcases List.mem_append.1 hy with h | h
                · exact isCode_snoc HHO.out.2.1 (by omega) y h
                · exact HHO.out.2.2 y h
              have hsz : (a ++ [symbols.getD x 0] ++ b).length = s.size := by rw [← HL.out, HAB.out]; simp
              have HCON := Lib.hid (fun w => (refSum_code (s.extract 0 p ++ (⟨#[48, 49, 50, 51, 52, 53, 54, 55, 56, 57, 65, 66, 67, 68, 69, 70, 71, 72, 73, 74, 75, 76, 77, 78, 79, 80, 81, 82, 83, 84, 85, 86, 87, 88, 89, 90, 45]⟩ : ByteArray).extract x (x + 1) ++ s.extract (p + 1) s.size) w (by rw [← ba_len, hres, hsz]; omega) (by rw [hres]; exact hcd)))
              rw [hres] at HCON
              obtain ⟨q, hq⟩ : ∃ q, q = ck (a ++ [symbols.getD x 0] ++ b) := ⟨_, rfl⟩
              rw [← hq] at HCON
              have HQ := Lib.hid hq
              have HRES := Lib.hid hres
              have HSZ := Lib.hid hsz
              clear hq hres hval hcd hsz
              have w1n : IntKind.i64.wrap ((p : Int) + 1) = (p : Int) + 1 := IntWalk.i64_in _ (by omega)
              have w1x : IntKind.i64.wrap ((x : Int) + 1) = (x : Int) + 1 := IntWalk.i64_in _ (by omega)
              have n1n : 0 ≤ (p : Int) + 1 := by omega
              have n1x : 0 ≤ (x : Int) + 1 := by omega
              have t1n : ((p : Int) + 1).toNat = p + 1 := by omega
              have t1x : ((x : Int) + 1).toNat = x + 1 := by omega
              by_cases hz : q = 0
              · have hz' : (q == 0) = true := by simpa using hz
                have HZ := Lib.hid (HQ.out.symm.trans hz)
                clear hz
                go_wp2_with fail
                go_quiet (fail)
                clear w1n w1x n1n n1x t1n t1x
                go_wp2_with (go_at_call 68; refine (HCON.out _).mono ?_; rintro e w' ⟨rfl, rfl⟩)
                go_ret2
                exact ⟨_, 0, rfl, .inr ⟨by rw [← HS.out, HL.out]; omega, by rw [← HS.out, HL.out]; omega, .inr ⟨rfl, a, b, symbols.getD x 0, by rw [← HS.out]; exact HHO.out, HRES.out, by rw [sym_at x hx]; omega, by rw [HRES.out]; exact HZ.out⟩⟩, by rw [← ba_len, HRES.out, HSZ.out]; omega, below_drewN hbel _⟩
              · have hz' : (q == 0) = false := by simpa using hz
                have HK1 : Hid (∀ j : Nat, j < x + 1 → ck (a ++ [symbols.getD j 0] ++ b) ≠ 0) := fun j hj => by
                  rcases Nat.lt_or_ge j x with h | h
                  · exact HK.out j h
                  · obtain rfl : j = x := by omega
                    rw [← HQ.out]; exact hz
                have hk36 : x < 36 := by
                  obtain ⟨y, hy, hy0⟩ := HEX.out
                  rcases Nat.lt_or_ge y (x + 1) with h | h
                  · exact absurd hy0 (HK1.out y h)
                  · omega
                clear hz
                go_wp2_with fail
                go_quiet (fail)
                clear w1n w1x n1n n1x t1n t1x
                go_wp2_with (go_at_call 68; refine (HCON.out _).mono ?_; rintro e w' ⟨rfl, rfl⟩)
                go_roundw
                case rel => exact ⟨x + 1, by omega, HK1, by go_num, below_drewN hbel _⟩
                case measure => simp [intOf]; omega
          · have hmb : ((m : Int) != 1) = true := by simp; omega
            have HNO : Hid (¬ ∃ a b, Holed a b l) := fun ⟨a, b, hc⟩ => hm1 (by rw [HK.out.2.1]; exact (below0_holed hc).2)
            go_wp2_with fail
            go_ret2
            exact ⟨⟨#[]⟩, 2, rfl, .inr ⟨by rw [← HS.out, HL.out]; omega, by rw [← HS.out, HL.out]; omega, .inl ⟨rfl, rfl, by rw [← HS.out]; exact HNO.out⟩⟩, by decide, Below.refl _ _⟩
end Go.Proofs.Ytlanephpmoajiaa
