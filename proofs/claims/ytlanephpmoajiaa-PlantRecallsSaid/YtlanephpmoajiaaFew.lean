/- The walks of few and of the statements' copied. -/
import Derived.Test.YtlanephpmoajiaaSmall
import Derived.Test.YtlanephpmoajiaaAppend
namespace Go.Proofs.Ytlanephpmoajiaa
open Go.RowKit

/-- A small item. -/
structure SmallI (x : ItemD) : Prop where
  name : x.name.size ≤ 60
  frm : x.frm.length ≤ 12
  cs : ∀ c ∈ x.frm, c.length ≤ 12
  ns : ∀ c ∈ x.frm, ∀ s ∈ c, s.size ≤ 60
/-- What few says of items, when it says true. -/
structure Few (xs : List ItemD) : Prop where
  len : xs.length ≤ 24
  each : ∀ x ∈ xs, SmallI x

def FewPost (w : World) (xs : List ItemD) (e : Ending) (w' : World) : Prop := ∃ b : Bool, e = .returned (.bool b) ∧ (b = true → Few xs) ∧ Below w.heap.size w w'
set_option maxRecDepth 100000 in
set_option maxHeartbeats 2000000 in
theorem few_any (v : Value) (xs : List ItemD) (S : Nat → Prop) (w : World) (hv : RdI w S v xs) :
    Calls Try.prog 15 #[v] w (FewPost w xs) := by
  obtain ⟨A, n, cap, rfl, hn, hcap, hmax, hc⟩ := hv.lt.open_
  have HC := Lib.hid hc
  have HN := Lib.hid hn
  clear hc hv hn
  by_cases h24 : 24 < n
  · go_enter Try.func15, Try.ntmps15
    go_wp2_with fail
    go_ret
    exact ⟨_, rfl, (fun h => by cases h), Below.refl _ _⟩
  · go_enter Try.func15, Try.ntmps15
    go_wp2_with fail
    go_loopw [14] (fun i wr => ∃ k : Nat, k ≤ n ∧ i = .int .i64 k ∧ Hid (∀ j, j < k → ∀ x, xs[j]? = some x → SmallI x) ∧ Below w.heap.size w wr) (fun i _ => n - (intOf i).toNat)
    case atStart => exact ⟨0, by omega, rfl, fun j hj => absurd hj (by omega), Below.refl _ _⟩
    case round =>
      obtain ⟨k, hk, rfl, HK, hbw⟩ := hrel
      by_cases hlt : k < n
      · obtain ⟨b, off, x, f, rfl, ⟨_, hb⟩, hx, c0, c1, c2, c3, hf⟩ := HC.out k hlt
        have d0 : wr.cell? ⟨b, off + k * 4, none⟩ = _ := (hbw.cell (p := ⟨b, _, none⟩) hb).trans c0
        have d1 : wr.cell? ⟨b, off + k * 4 + 1, none⟩ = _ := (hbw.cell (p := ⟨b, _, none⟩) hb).trans c1
        have d2 : wr.cell? ⟨b, off + k * 4 + 2, none⟩ = _ := (hbw.cell (p := ⟨b, _, none⟩) hb).trans c2
        have d3 : wr.cell? ⟨b, off + k * 4 + 3, none⟩ = _ := (hbw.cell (p := ⟨b, _, none⟩) hb).trans c3
        obtain ⟨vs, hvs, hlen, hin⟩ := hf
        obtain ⟨A2, m, cap2, rfl, hm, hcap2, hmax2, hc2⟩ := hvs.open_
        obtain ⟨nm, kd, a, frm⟩ := x
        simp only at d0 d1 d2 hlen hin
        have HX := Lib.hid hx
        have HIN := Lib.hid hin
        have HC2 := Lib.hid hc2
        have HM := Lib.hid hm
        have HLEN := Lib.hid hlen
        clear hx hin hc2 hvs c0 c1 c2 c3 hm hlen
        have hW1 : Below w.heap.size w (wr.alloc (.cells #[.string nm, .int .i64 kd, .int .i64 a, .slice A2 m cap2] 25)) := hbw.alloc hbw.size _
        by_cases h60 : 60 < nm.size
        · go_wp2_with fail
          go_ret
          exact ⟨_, rfl, (fun h => by cases h), hW1⟩
        · by_cases h12 : 12 < m
          · go_wp2_with fail
            go_ret
            exact ⟨_, rfl, (fun h => by cases h), hW1⟩
          · go_wp2_with fail
            clear d0 d1 d2 d3
            obtain ⟨W1, hW1e⟩ : ∃ W1, W1 = (wr.alloc (.cells #[.string nm, .int .i64 kd, .int .i64 a, .slice A2 m cap2] 25)) := ⟨_, rfl⟩
            rw [← hW1e] at hW1 ⊢
            clear hW1e
            go_loop [31] (fun i => ∃ j : Nat, j ≤ m ∧ i = .int .i64 j ∧ Hid (∀ l, l < j → ∀ c, frm[l]? = some c → c.length ≤ 12 ∧ ∀ s ∈ c, s.size ≤ 60)) (fun i => m - (intOf i).toNat)
            case atStart => exact ⟨0, by omega, rfl, fun j hj => absurd hj (by omega)⟩
            case round =>
              obtain ⟨j, hj, rfl, HJ⟩ := hrel
              by_cases hjm : j < m
              · obtain ⟨b2, off2, u, rfl, ⟨_, hb2⟩, hu, hcell2⟩ := HC2.out j hjm
                obtain ⟨c, hcc⟩ : ∃ c, frm[j]? = some c := ⟨frm[j]'(by have := HM.out; have := HLEN.out; omega), List.getElem?_eq_getElem _⟩
                obtain ⟨u', hu', hrd⟩ := HIN.out j c hcc
                obtain rfl := Option.some.inj (hu.symm.trans hu')
                obtain ⟨A3, q, cap3, rfl, hq, hcap3, hmax3, hc3⟩ := hrd.open_
                have hcell3 : W1.cell? ⟨b2, off2 + j, none⟩ = some (.slice A3 q cap3) := (hW1.cell (p := ⟨b2, _, none⟩) hb2).trans hcell2
                have HCC := Lib.hid hcc
                have HQ := Lib.hid hq
                have HC3 := Lib.hid hc3
                clear hu hu' hcc hq hc3 hrd hcell2
                by_cases hq12 : 12 < q
                · go_wp2_with fail
                  go_ret
                  exact ⟨_, rfl, (fun h => by cases h), hW1⟩
                · go_wp2_with fail
                  go_loop [40] (fun i => ∃ l : Nat, l ≤ q ∧ i = .int .i64 l ∧ Hid (∀ p, p < l → ∀ s, c[p]? = some s → s.size ≤ 60)) (fun i => q - (intOf i).toNat)
                  case atStart => exact ⟨0, by omega, rfl, fun j hj => absurd hj (by omega)⟩
                  case round =>
                    obtain ⟨l, hl, rfl, HL⟩ := hrel
                    by_cases hlq : l < q
                    · obtain ⟨b3, off3, s, rfl, ⟨_, hb3⟩, hs, hcell4⟩ := HC3.out l hlq
                      have hcell5 : W1.cell? ⟨b3, off3 + l, none⟩ = some (.string s) := (hW1.cell (p := ⟨b3, _, none⟩) hb3).trans hcell4
                      have HS := Lib.hid hs
                      clear hs hcell4
                      by_cases hs60 : 60 < s.size
                      · go_wp2_with fail
                        go_ret
                        exact ⟨_, rfl, (fun h => by cases h), hW1⟩
                      · go_wp2_with fail
                        go_round
                        case rel =>
                          refine ⟨l + 1, by omega, by go_num, fun p hp x hx => ?_⟩
                          rcases Nat.lt_or_ge p l with h | h
                          · exact HL.out p h x hx
                          · obtain rfl : p = l := by omega
                            obtain rfl := Option.some.inj (HS.out.symm.trans hx)
                            omega
                        case measure => simp [intOf]; omega
                    · go_wp2_with fail
                      go_round
                      case rel =>
                        refine ⟨j + 1, by omega, by go_num, fun p hp x hx => ?_⟩
                        rcases Nat.lt_or_ge p j with h | h
                        · exact HJ.out p h x hx
                        · obtain rfl : p = j := by omega
                          obtain rfl := Option.some.inj (HCC.out.symm.trans hx)
                          refine ⟨by have := HQ.out; omega, fun s hs => ?_⟩
                          obtain ⟨t, ht⟩ := List.mem_iff_getElem?.1 hs
                          have := (List.getElem?_eq_some_iff.1 ht).1
                          have := HQ.out
                          exact HL.out t (by omega) s ht
                      case measure => simp [intOf]; omega
              · go_wp2_with fail
                go_round
                case rel =>
                  refine ⟨k + 1, by omega, by go_num, fun p hp x hx => ?_, hW1⟩
                  rcases Nat.lt_or_ge p k with h | h
                  · exact HK.out p h x hx
                  · obtain rfl : p = k := by omega
                    obtain rfl := Option.some.inj (HX.out.symm.trans hx)
                    have h1 := HM.out
                    have h2 := HLEN.out
                    have h3 : ∀ c ∈ frm, c.length ≤ 12 ∧ ∀ s ∈ c, s.size ≤ 60 := fun c hc => by
                      obtain ⟨t, ht⟩ := List.mem_iff_getElem?.1 hc
                      have := (List.getElem?_eq_some_iff.1 ht).1
                      exact HJ.out t (by omega) c ht
                    exact ⟨by simp only; omega, by simp only; omega, fun c hc => (h3 c hc).1, fun c hc => (h3 c hc).2⟩
                case measure => simp [intOf]; omega
      · go_wp2_with fail
        go_ret
        refine ⟨_, rfl, fun _ => ⟨by have := HN.out; omega, fun x hx => ?_⟩, hbw⟩
        obtain ⟨t, ht⟩ := List.mem_iff_getElem?.1 hx
        have := (List.getElem?_eq_some_iff.1 ht).1
        have := HN.out
        exact HK.out t (by omega) x ht
end Go.Proofs.Ytlanephpmoajiaa
