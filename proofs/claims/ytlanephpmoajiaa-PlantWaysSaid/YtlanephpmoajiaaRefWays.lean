/- The walks of the reference's chosen and Wrong. -/
import Derived.Test.YtlanephpmoajiaaIsItem
namespace Go.Proofs.Ytlanephpmoajiaa
open Go.RowKit

def chosenB (x : ItemD) (nm : ByteArray) : Bool := x.frm.any (fun c => hasN c nm)
set_option maxRecDepth 100000 in
set_option maxHeartbeats 1000000 in
theorem chosen_any (x : ItemD) (vf : Value) (nm : ByteArray) (S : Nat → Prop) (w : World) (hv : Rd2 w S vf x.frm) :
    Calls Try.prog 86 #[.agg #[.string x.name, .int .i64 x.kind, .int .i64 x.at_, vf], .string nm] w fun e w' => e = .returned (.bool (chosenB x nm)) ∧ Below w.heap.size w w' := by
  obtain ⟨xn, xk, xa, xf⟩ := x
  simp only at *
  obtain ⟨vs, hvs, hlen, hin⟩ := hv.lt
  obtain ⟨A, n, cap, rfl, hn, hcap, hmax, hc⟩ := hvs.open_
  have HC := Lib.hid hc
  have HIN := Lib.hid hin
  have HN : Hid (xf.length = n) := by unfold Hid; omega
  have hbw : Below w.heap.size w (w.alloc (.cells #[.string xn, .int .i64 xk, .int .i64 xa, .slice A n cap] 44)) := (Below.refl _ w).alloc (Nat.le_refl _) _
  have hm := heap_alloc_new w (.cells #[.string xn, .int .i64 xk, .int .i64 xa, .slice A n cap] 44)
  obtain ⟨W1, hW1⟩ : ∃ W1, W1 = w.alloc (.cells #[.string xn, .int .i64 xk, .int .i64 xa, .slice A n cap] 44) := ⟨_, rfl⟩
  rw [← hW1] at hbw hm
  have HW1 := Lib.hid hW1
  have c3 := cell_of_row W1 _ 3 _ _ _ hm
  clear hc hin hvs hv hn hlen hW1 hm
  go_enter Try.func86, Try.ntmps86
  go_wp2_with fail
  rw [← HW1.out]
  go_loop [5] (fun i => ∃ k : Nat, k ≤ n ∧ i = .int .i64 k ∧ Hid (∀ j, j < k → ∀ c, xf[j]? = some c → hasN c nm = false)) (fun i => n - (intOf i).toNat)
  case atStart => exact ⟨0, Nat.zero_le _, rfl, fun j hj => absurd hj (by omega)⟩
  case round =>
    obtain ⟨k, hk, rfl, HK⟩ := hrel
    by_cases hlt : k < n
    · obtain ⟨b, off, u, rfl, ⟨_, hbl⟩, hu, hcell⟩ := HC.out k hlt
      obtain ⟨c, hcc⟩ : ∃ c, xf[k]? = some c := ⟨xf[k]'(by have := HN.out; omega), List.getElem?_eq_getElem _⟩
      obtain ⟨u', hu', hrd⟩ := HIN.out k c hcc
      obtain rfl := Option.some.inj (hu.symm.trans hu')
      obtain ⟨A3, q, cap3, rfl, hq, hcap3, hmax3, hc3⟩ := hrd.open_
      have hcell3 : W1.cell? ⟨b, off + k, none⟩ = some (.slice A3 q cap3) := (hbw.cell (p := ⟨b, _, none⟩) hbl).trans hcell
      have HCC := Lib.hid hcc
      have HQ := Lib.hid hq
      have HC3 := Lib.hid hc3
      clear hu hu' hcc hq hc3 hrd hcell
      go_wp2_with fail
      go_loop [6] (fun i => ∃ l : Nat, l ≤ q ∧ i = .int .i64 l ∧ Hid (∀ p, p < l → ∀ s, c[p]? = some s → s ≠ nm)) (fun i => q - (intOf i).toNat)
      case atStart => exact ⟨0, Nat.zero_le _, rfl, fun j hj => absurd hj (by omega)⟩
      case round =>
        obtain ⟨l, hl, rfl, HL⟩ := hrel
        by_cases hlq : l < q
        · obtain ⟨b3, off3, s, rfl, ⟨_, hb3⟩, hs, hcell4⟩ := HC3.out l hlq
          have hcell5 : W1.cell? ⟨b3, off3 + l, none⟩ = some (.string s) := (hbw.cell (p := ⟨b3, _, none⟩) hb3).trans hcell4
          have heq := str_eq s nm
          have HS := Lib.hid hs
          clear hs hcell4
          by_cases he : s = nm
          · subst he
            have hbt : (s.toList == s.toList) = true := by simp
            have HR : Hid (chosenB ⟨xn, xk, xa, xf⟩ s = true) := List.any_eq_true.2 ⟨c, mem_of_get? HCC.out, hasN_hit HS.out⟩
            clear heq
            go_wp2_with fail
            go_ret
            exact ⟨ret_bool HR.out.symm, hbw⟩
          · have hbt : (s.toList == nm.toList) = false := by rw [heq]; simpa using he
            have HE := Lib.hid he
            clear heq he
            go_wp2_with fail
            go_round
            case rel =>
              refine ⟨l + 1, by omega, by go_num, fun p hp x hx => ?_⟩
              rcases Nat.lt_or_ge p l with h | h
              · exact HL.out p h x hx
              · obtain rfl : p = l := by omega
                obtain rfl := Option.some.inj (HS.out.symm.trans hx)
                exact HE.out
            case measure => simp [intOf]; omega
        · have HK1 : Hid (∀ j, j < k + 1 → ∀ c, xf[j]? = some c → hasN c nm = false) := fun p hp x hx => by
            rcases Nat.lt_or_ge p k with h | h
            · exact HK.out p h x hx
            · obtain rfl : p = k := by omega
              obtain rfl := Option.some.inj (HCC.out.symm.trans hx)
              exact hasN_miss fun j y hy => HL.out j (by have := (List.getElem?_eq_some_iff.1 hy).1; have := HQ.out; omega) y hy
          go_wp2_with fail
          go_round
          case rel => exact ⟨k + 1, by omega, by go_num, HK1⟩
          case measure => simp [intOf]; omega
    · have HR : Hid (chosenB ⟨xn, xk, xa, xf⟩ nm = false) := by
        unfold chosenB Hid
        rw [List.any_eq_false]
        intro c hc
        obtain ⟨t, ht⟩ := List.mem_iff_getElem?.1 hc
        have h1 : t < xf.length := (List.getElem?_eq_some_iff.1 ht).1
        have := HN.out
        rw [HK.out t (by omega) c ht]; simp
      go_wp2_with fail
      go_ret
      exact ⟨ret_bool HR.out.symm, hbw⟩

set_option maxRecDepth 100000 in
set_option maxHeartbeats 1000000 in
theorem wrong_any (v : Value) (xs : List ItemD) (f : FaultD) (S : Nat → Prop) (w : World) (hv : RdI w S v xs) :
    Calls Try.prog 81 #[v, .agg #[.string f.item, .int .i64 f.since, .int .i64 f.until_]] w fun e w' => e = .returned (.int .i64 (faultErr xs f)) ∧ Below w.heap.size w w' := by
  obtain ⟨it, si, un⟩ := f
  simp only
  have hbw : Below w.heap.size w (w.alloc (.cells #[.string it, .int .i64 si, .int .i64 un] 106)) := (Below.refl _ w).alloc (Nat.le_refl _) _
  have hm := heap_alloc_new w (.cells #[.string it, .int .i64 si, .int .i64 un] 106)
  have HFI := fun w' (h : Below w.heap.size w w') => refFind_any v xs S it w' (hv.below h)
  obtain ⟨A, n, cap, rfl, hn, hcap, hmax, hc⟩ := hv.lt.open_
  obtain ⟨W1, hW1⟩ : ∃ W1, W1 = w.alloc (.cells #[.string it, .int .i64 si, .int .i64 un] 106) := ⟨_, rfl⟩
  rw [← hW1] at hbw hm
  have HW1 := Lib.hid hW1
  have HF := Lib.hid (HFI W1 hbw)
  have d0 := cell_of_row W1 _ 0 _ _ _ hm
  have d1 := cell_of_row W1 _ 1 _ _ _ hm
  have d2 := cell_of_row W1 _ 2 _ _ _ hm
  clear hW1 hm HFI hv
  cases hi : idx xs it with
  | none =>
    have hf : findI xs it = -1 := by simp [findI, hi]
    have HE : Hid (faultErr xs ⟨it, si, un⟩ = 5) := by unfold faultErr Hid; simp only [hi]
    rw [hf] at HF
    clear hi hf hc hn
    go_enter Try.func81, Try.ntmps81
    go_wp2_with fail
    rw [← HW1.out]
    refine HF.out.mono ?_
    rintro e w' ⟨rfl, rfl⟩
    go_wp2_with fail
    go_ret
    exact ⟨ret_int HE.out.symm, hbw⟩
  | some i =>
    have hf : findI xs it = i := by simp [findI, hi]
    have hil := idx_lt hi
    rw [hn] at hil
    obtain ⟨b, off, y, fy, rfl, ⟨_, hbl⟩, hy, i0, i1, i2, -⟩ := hc i hil
    have HE : Hid (faultErr xs ⟨it, si, un⟩ = if y.kind = 3 then 1 else if un < si then 7 else 0) := by unfold faultErr Hid; simp only [hi, hy]
    have e1 : W1.cell? ⟨b, off + i * 4 + 1, none⟩ = some (.int .i64 y.kind) := (hbw.cell (p := ⟨b, _, none⟩) hbl).trans i1
    obtain ⟨yn, yk, ya, yf⟩ := y
    simp only at HE e1
    rw [hf] at HF
    clear hi hf hc hn hy i0 i1 i2
    by_cases hk : yk = 3
    · have hkb : (yk == 3) = true := by simpa using hk
      have HE1 := Lib.hid (HE.out.trans (if_pos hk))
      clear hk
      go_enter Try.func81, Try.ntmps81
      go_wp2_with fail
      rw [← HW1.out]
      refine HF.out.mono ?_
      rintro e w' ⟨rfl, rfl⟩
      go_wp2_with fail
      go_ret
      exact ⟨ret_int HE1.out.symm, hbw⟩
    · have hkb : (yk == 3) = false := by simpa using hk
      have HE1 := Lib.hid (HE.out.trans (if_neg hk))
      clear hk
      by_cases hsu : un < si
      · have HE2 := Lib.hid (HE1.out.trans (if_pos hsu))
        go_enter Try.func81, Try.ntmps81
        go_wp2_with fail
        rw [← HW1.out]
        refine HF.out.mono ?_
        rintro e w' ⟨rfl, rfl⟩
        go_wp2_with fail
        go_ret
        exact ⟨ret_int HE2.out.symm, hbw⟩
      · have HE2 := Lib.hid (HE1.out.trans (if_neg hsu))
        go_enter Try.func81, Try.ntmps81
        go_wp2_with fail
        rw [← HW1.out]
        refine HF.out.mono ?_
        rintro e w' ⟨rfl, rfl⟩
        go_wp2_with fail
        go_ret
        exact ⟨ret_int HE2.out.symm, hbw⟩
end Go.Proofs.Ytlanephpmoajiaa
