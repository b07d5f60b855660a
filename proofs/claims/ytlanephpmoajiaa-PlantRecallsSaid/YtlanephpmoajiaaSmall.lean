/- Small functions of the statements: alike, has, and the reference's Find. -/
import Derived.Test.YtlanephpmoajiaaItems
import Derived.Test.YtlanephpmoajiaaContains
import Derived.Deep.QuietTactic
import Derived.BigQuiet
namespace Go.Proofs.Ytlanephpmoajiaa
open Go.RowKit

theorem hasN_hit {xs : List ByteArray} {nm : ByteArray} {k : Nat} (h : xs[k]? = some nm) : hasN xs nm = true := by
  unfold hasN; rw [List.any_eq_true]; exact ⟨nm, mem_of_get? h, by simp⟩
theorem hasN_miss {xs : List ByteArray} {nm : ByteArray} (h : ∀ (j : Nat) (x : ByteArray), xs[j]? = some x → x ≠ nm) : hasN xs nm = false := by
  unfold hasN; rw [List.any_eq_false]; intro x hx
  obtain ⟨j, hj⟩ := List.mem_iff_getElem?.1 hx
  simpa using h j x hj
theorem hasN_iff {xs : List ByteArray} {nm : ByteArray} : hasN xs nm = true ↔ nm ∈ xs := by
  unfold hasN; rw [List.any_eq_true]; simp

set_option maxRecDepth 100000 in
set_option maxHeartbeats 400000 in
theorem has_any (v : Value) (xs : List ByteArray) (S : Nat → Prop) (nm : ByteArray) (w : World) (hv : Rd .string w S v xs) :
    Calls Try.prog 25 #[v, .string nm] w fun e w' => e = .returned (.bool (hasN xs nm)) ∧ w = w' := by
  obtain ⟨A, n, cap, rfl, hn, hcap, hmax, hc⟩ := hv.lt.open_
  have HC := Lib.hid hc
  have HN := Lib.hid hn
  clear hc hv hn
  go_enter Try.func25, Try.ntmps25
  go_wp2_with fail
  go_loop [9] (fun i => ∃ k : Nat, k ≤ n ∧ i = .int .i64 k ∧ Hid (∀ j, j < k → ∀ x, xs[j]? = some x → x ≠ nm)) (fun i => n - (intOf i).toNat)
  case atStart => exact ⟨0, by omega, rfl, fun j hj => absurd hj (by omega)⟩
  case round =>
    obtain ⟨k, hk, rfl, HK⟩ := hrel
    by_cases hlt : k < n
    · obtain ⟨b, off, u, rfl, _, hu, hcell⟩ := HC.out k hlt
      have heq := str_eq u nm
      have HU := Lib.hid hu
      clear hu
      by_cases he : u = nm
      · subst he
        have hb : (u.toList == u.toList) = true := by simp
        go_wp2_with fail
        go_ret
        exact ⟨ret_bool (hasN_hit HU.out).symm, rfl⟩
      · have hb : (u.toList == nm.toList) = false := by rw [heq]; simpa using he
        have HE := Lib.hid he
        clear heq he
        go_wp2_with fail
        go_round
        case rel =>
          refine ⟨k + 1, by omega, by go_num, fun j hj x hx => ?_⟩
          rcases Nat.lt_or_ge j k with h | h
          · exact HK.out j h x hx
          · obtain rfl : j = k := by omega
            obtain rfl := Option.some.inj (HU.out.symm.trans hx)
            exact HE.out
        case measure => simp [intOf]; omega
    · go_wp2_with fail
      go_ret
      refine ⟨ret_bool (hasN_miss fun j x hx => HK.out j ?_ x hx).symm, rfl⟩
      have := (List.getElem?_eq_some_iff.1 hx).1
      have := HN.out
      omega

set_option maxRecDepth 100000 in
set_option maxHeartbeats 400000 in
theorem alike_any (v u : Value) (xs ys : List ByteArray) (S T : Nat → Prop) (w : World) (hv : Rd .string w S v xs) (hu : Rd .string w T u ys) :
    Calls Try.prog 24 #[v, u] w fun e w' => e = .returned (.bool (decide (xs = ys))) ∧ Below w.heap.size w w' := by
  obtain ⟨A, n, cap, rfl, hn, hcap, hmax, hc⟩ := hv.lt.open_
  obtain ⟨A2, m, cap2, rfl, hn2, hcap2, hmax2, hc2⟩ := hu.lt.open_
  have HC := Lib.hid hc
  have HN := Lib.hid hn
  have HC2 := Lib.hid hc2
  have HN2 := Lib.hid hn2
  clear hc hn hv hc2 hn2 hu
  by_cases hnm : n = m
  · subst hnm
    go_enter Try.func24, Try.ntmps24
    go_wp2_with fail
    go_loopw [13] (fun i wr => ∃ k : Nat, k ≤ n ∧ i = .int .i64 k ∧ Hid (∀ j, j < k → xs[j]? = ys[j]?) ∧ Below w.heap.size w wr) (fun i _ => n - (intOf i).toNat)
    case atStart => exact ⟨0, by omega, rfl, fun j hj => absurd hj (by omega), Below.refl _ _⟩
    case round =>
      obtain ⟨k, hk, rfl, HK, hbw⟩ := hrel
      by_cases hlt : k < n
      · obtain ⟨b, off, x, rfl, ⟨_, hb⟩, hx, hcell⟩ := HC.out k hlt
        obtain ⟨b2, off2, y, rfl, ⟨_, hb2⟩, hy, hcell2⟩ := HC2.out k hlt
        have hcw : wr.cell? ⟨b, off + k, none⟩ = some (.string x) := (hbw.cell (p := ⟨b, off + k, none⟩) hb).trans hcell
        have hcw2 : wr.cell? ⟨b2, off2 + k, none⟩ = some (.string y) := (hbw.cell (p := ⟨b2, off2 + k, none⟩) hb2).trans hcell2
        have heq := str_eq x y
        have HX := Lib.hid hx
        have HY := Lib.hid hy
        clear hx hy hcell hcell2
        by_cases he : x = y
        · subst he
          have hbt : (x.toList == x.toList) = true := by simp
          clear heq
          go_wp2_with fail
          go_quiet (fail)
          go_wp2_with fail
          go_round
          case rel =>
            refine ⟨k + 1, by omega, by go_num, fun j hj => ?_, below_drewN hbw _⟩
            rcases Nat.lt_or_ge j k with h | h
            · exact HK.out j h
            · obtain rfl : j = k := by omega
              exact HX.out.trans HY.out.symm
          case measure => simp [intOf]; omega
        · have hbt : (x.toList == y.toList) = false := by rw [heq]; simpa using he
          have HE := Lib.hid he
          clear heq he
          go_wp2_with fail
          go_quiet (fail)
          go_wp2_with fail
          go_ret
          refine ⟨ret_bool (decide_eq_false fun e => HE.out ?_).symm, below_drewN hbw _⟩
          have h1 := HX.out
          rw [e, HY.out] at h1
          exact (Option.some.inj h1).symm
      · go_wp2_with fail
        go_ret
        refine ⟨ret_bool (decide_eq_true (List.ext_getElem? fun j => ?_)).symm, hbw⟩
        have h1 := HN.out
        have h2 := HN2.out
        rcases Nat.lt_or_ge j k with h | h
        · exact HK.out j h
        · rw [List.getElem?_eq_none (by omega), List.getElem?_eq_none (by omega)]
  · have hbt : ((n : Int) == (m : Int)) = false := by simp; omega
    have HE := Lib.hid hnm
    clear hnm
    go_enter Try.func24, Try.ntmps24
    go_wp2_with fail
    go_ret
    refine ⟨ret_bool (decide_eq_false fun e => HE.out ?_).symm, Below.refl _ _⟩
    rw [← HN.out, ← HN2.out, e]

def findI (xs : List ItemD) (nm : ByteArray) : Int := match idx xs nm with | some i => i | none => -1
theorem findI_hit {xs : List ItemD} {nm : ByteArray} {k : Nat} {x : ItemD} (h : xs[k]? = some x) (he : x.name = nm) (hn : ∀ j, j < k → ∀ y, xs[j]? = some y → y.name ≠ nm) : idx xs nm = some k := by
  unfold idx
  rw [List.findIdx?_eq_some_iff_getElem]
  obtain ⟨hk, rfl⟩ := List.getElem?_eq_some_iff.1 h
  exact ⟨hk, by simpa using he, fun j hj => by simpa using hn j hj _ (List.getElem?_eq_getElem (by omega))⟩
set_option maxRecDepth 100000 in
set_option maxHeartbeats 400000 in
theorem refFind_any (v : Value) (xs : List ItemD) (S : Nat → Prop) (nm : ByteArray) (w : World) (hv : RdI w S v xs) :
    Calls Try.prog 27 #[v, .string nm] w fun e w' => e = .returned (.int .i64 (findI xs nm)) ∧ w = w' := by
  obtain ⟨A, n, cap, rfl, hn, hcap, hmax, hc⟩ := hv.open_
  have HC := Lib.hid hc
  have HN := Lib.hid hn
  clear hc hv hn
  go_enter Try.func27, Try.ntmps27
  go_wp2_with fail
  go_loop [5] (fun i => ∃ k : Nat, k ≤ n ∧ i = .int .i64 k ∧ Hid (∀ j, j < k → ∀ x, xs[j]? = some x → x.name ≠ nm)) (fun i => n - (intOf i).toNat)
  case atStart => exact ⟨0, by omega, rfl, fun j hj => absurd hj (by omega)⟩
  case round =>
    obtain ⟨k, hk, rfl, HK⟩ := hrel
    by_cases hlt : k < n
    · obtain ⟨b, off, x, f, rfl, _, hx, hcell, -⟩ := HC.out k hlt
      obtain ⟨u, kd, a, frm⟩ := x
      simp only at hcell
      have heq := str_eq u nm
      have HX := Lib.hid hx
      clear hx
      by_cases he : u = nm
      · subst he
        have hb : (u.toList == u.toList) = true := by simp
        have HR : Hid (findI xs u = k) := by unfold findI Hid; rw [findI_hit HX.out rfl HK.out]
        go_wp2_with fail
        go_ret
        exact ⟨ret_int HR.out.symm, rfl⟩
      · have hb : (u.toList == nm.toList) = false := by rw [heq]; simpa using he
        have HE := Lib.hid he
        clear heq he
        go_wp2_with fail
        go_round
        case rel =>
          refine ⟨k + 1, by omega, by go_num, fun j hj x hx => ?_⟩
          rcases Nat.lt_or_ge j k with h | h
          · exact HK.out j h x hx
          · obtain rfl : j = k := by omega
            obtain rfl := Option.some.inj (HX.out.symm.trans hx)
            exact HE.out
        case measure => simp [intOf]; omega
    · have HR : Hid (findI xs nm = -1) := by
        unfold findI Hid
        rw [idx_none.2 fun x hx => ?_]
        obtain ⟨j, hj⟩ := List.mem_iff_getElem?.1 hx
        have := (List.getElem?_eq_some_iff.1 hj).1
        have := HN.out
        exact HK.out j (by omega) x hj
      go_wp2_with fail
      go_ret
      exact ⟨ret_int HR.out.symm, rfl⟩
end Go.Proofs.Ytlanephpmoajiaa
