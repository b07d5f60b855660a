/- The walk of Whole, of a fraction that is a small whole number. -/
import Derived.Test.YtodckaioeomccaaGreatPart39
namespace Go.Proofs.YtodckaioeomccaaGreat
open Go.RowKit
set_option linter.unusedVariables false
set_option linter.unusedSimpArgs false
theorem RdN.len_ {w : World} {A : Option Addr} {k c n : Nat} (h : RdN w (.slice A k c) n) : dl n = k := by
  obtain ⟨A', n', c', e, e1, _⟩ := RdW.open_ h
  simp only [Value.slice.injEq] at e
  obtain ⟨rfl, rfl, rfl⟩ := e
  exact e1
theorem RdN.one_ {w : World} {A : Option Addr} {k c n : Nat} (h : RdN w (.slice A k c) n) (h0 : n ≠ 0) (hn : n < B64) : k = 1 ∧ ∃ b off, A = some ⟨b, off, none⟩ ∧ w.cell? ⟨b, off, none⟩ = some (.int .u64 (n : Int)) := by
  have hk := h.len_
  have h1 := dl_small hn
  have h2 := dl_pos h0
  obtain rfl : k = 1 := by omega
  refine ⟨rfl, ?_⟩
  obtain ⟨A', n', c', e, e1, _, _, _, hc⟩ := RdW.open_ h
  simp only [Value.slice.injEq] at e
  obtain ⟨rfl, rfl, rfl⟩ := e
  obtain ⟨b, off, x, rfl, _, hx, hcx⟩ := hc 0 (by omega)
  refine ⟨b, off, rfl, ?_⟩
  rw [Nat.add_zero] at hcx
  have : digs B64 n = [n] := digs_small B64_2 h0 hn
  rw [this] at hx
  obtain rfl : n = x := by simpa using hx
  exact hcx
set_option maxRecDepth 100000 in
set_option maxHeartbeats 2000000 in
theorem whole_is (v : Value) (x : Rat) (w : World) (hv : RdQ w v x) (hd : x.den = 1) (hn : x.num.natAbs ≤ 4611686018427387904) :
    Calls Tryz.prog 179 #[v] w fun e w' => e = .returned (.tuple #[.int .i64 x.num, .bool true]) ∧ Below w.heap.size w w' := by
  obtain ⟨g, A, k, c, B, m, e, rfl, hv⟩ := hv.open
  have hg := hv.num.sign
  have hm : m = 0 := by
    have h := hv.den
    rw [hd] at h
    rw [← h.len_]; exact dl_zero
  subst hm
  obtain ⟨z, hz⟩ : ∃ z, z = x.num := ⟨_, rfl⟩
  have hab := hv.num.abs
  rw [← hz] at hg hn hab ⊢
  have hbel := (Below.refl w.heap.size w).alloc (Nat.le_refl _) (.cells #[.bool g, .slice A k c, .slice B 0 e] 32)
  have HB := Lib.hid hbel
  have HLT : Hid (∀ (b off : Nat) u, w.cell? ⟨b, off, none⟩ = some u → (w.alloc (.cells #[.bool g, .slice A k c, .slice B 0 e] 32)).cell? ⟨b, off, none⟩ = some u) := fun b off u h => (((Below.refl _ w).alloc (Nat.le_refl _) _).cell (p := ⟨b, off, none⟩) (cell_lt h)).trans h
  by_cases h0 : z = 0
  · subst h0
    have hk : k = 0 := by rw [← hab.len_]; exact dl_zero
    subst hk
    have hgf : g = false := by rw [hg]; rfl
    subst hgf
    clear hv hab hg hz hbel
    go_enter Tryz.func179, Tryz.ntmps179
    go_wp2_with fail
    go_ret2
    exact ⟨rfl, HB.out⟩
  · obtain ⟨hk, b, off, rfl, hc⟩ := hab.one_ (by omega) (by unfold B64; omega)
    subst hk
    obtain ⟨a, ha⟩ : ∃ a, a = z.natAbs := ⟨_, rfl⟩
    rw [← ha] at hc hn
    have hc1 := HLT.out _ _ _ hc
    have ha0 : a ≠ 0 := by omega
    by_cases hneg : z < 0
    · have hgt : g = true := by rw [hg]; exact decide_eq_true hneg
      subst hgt
      obtain ⟨u, hu⟩ : ∃ u : Nat, u = 18446744073709551616 - a := ⟨_, rfl⟩
      have hw1 : IntKind.u64.wrap (-(a : Int)) = (u : Int) := by rw [IntKind.wrap_u64]; omega
      have hw2 : IntKind.i64.wrap (u : Int) = z := by rw [IntKind.wrap_i64]; omega
      have hle : (a : Int) ≤ 9223372036854775808 := by omega
      clear hv hab hg hz hbel HLT hc h0 hneg hu ha
      go_enter Tryz.func179, Tryz.ntmps179
      go_wp2_with fail
      go_ret2
      exact ⟨rfl, HB.out⟩
    · have hgt : g = false := by rw [hg]; exact decide_eq_false hneg
      subst hgt
      obtain rfl : z = (a : Int) := by omega
      have hw2 : IntKind.i64.wrap (a : Int) = (a : Int) := by rw [IntKind.wrap_i64]; omega
      have hle : (a : Int) < 9223372036854775808 := by omega
      clear hv hab hg hz hbel HLT hc h0 hneg ha
      go_enter Tryz.func179, Tryz.ntmps179
      go_wp2_with fail
      go_ret2
      exact ⟨rfl, HB.out⟩
end Go.Proofs.YtodckaioeomccaaGreat
