/- Places and what is near; their walks, in the program and in the reference. -/
import Derived.Test.YtfondpakbiagjaaGreatDoorHOpI
import Derived.Test.YtfondpakbiagjaaGreatDoorHByt
import Derived.Test.YtfondpakbiagjaaGreatDoorShelf
import Derived.BigQuiet
namespace Go.Proofs.YtfondpakbiagjaaGreatDoor
open Go.RowKit
set_option linter.unusedVariables false
set_option linter.unusedSimpArgs false
set_option maxRecDepth 100000
set_option maxHeartbeats 4000000
theorem withinB (n lo hi : Int) (w : World) : Calls Tryz.prog 43 #[.int .i64 n, .int .i64 lo, .int .i64 hi] w fun e w' => e = .returned (.bool (decide (lo ≤ n) && decide (n ≤ hi))) ∧ w' = w := by
  by_cases h1 : lo ≤ n
  · have h1' : ¬ n < lo := by omega
    by_cases h2 : n ≤ hi
    · have h2' : ¬ hi < n := by omega
      rw [decide_eq_true h1, decide_eq_true h2]
      go_enter Tryz.func43, Tryz.ntmps43
      go_wp2_with fail
      go_ret
      exact ⟨rfl, rfl⟩
    · have h2' : hi < n := by omega
      rw [decide_eq_true h1, decide_eq_false h2]
      go_enter Tryz.func43, Tryz.ntmps43
      go_wp2_with fail
      go_ret
      exact ⟨rfl, rfl⟩
  · have h1' : n < lo := by omega
    rw [decide_eq_false h1]
    go_enter Tryz.func43, Tryz.ntmps43
    go_wp2_with fail
    go_ret
    exact ⟨rfl, rfl⟩
def placeB (p : Int) : Bool := decide (0 ≤ p) && decide (p ≤ 23)
theorem isPlace_any (p : Int) (w : World) : Calls Tryz.prog 59 #[.int .i64 p] w fun e w' => e = .returned (.bool (placeB p)) ∧ w' = w := by
  have HW := Lib.hid (withinB p 0 23 w)
  unfold placeB
  obtain ⟨b, hb⟩ : ∃ b, b = (decide (0 ≤ p) && decide (p ≤ 23)) := ⟨_, rfl⟩
  rw [← hb] at HW ⊢
  clear hb
  go_enter Tryz.func59, Tryz.ntmps59
  go_wp2_with fail
  refine HW.out.mono ?_
  rintro e w1 ⟨rfl, hw⟩
  obtain rfl := hw.symm
  clear hw HW
  go_wp2_with fail
  go_ret
  exact ⟨rfl, rfl⟩
theorem rplace_any (p : Int) (w : World) : Calls Tryz.prog 32 #[.int .i64 p] w fun e w' => e = .returned (.bool (placeB p)) ∧ w' = w := by
  unfold placeB
  by_cases h1 : 0 ≤ p
  · have h1' : ¬ p < 0 := by omega
    by_cases h2 : p ≤ 23
    · have h2' : p < 24 := by omega
      rw [decide_eq_true h1, decide_eq_true h2]
      go_enter Tryz.func32, Tryz.ntmps32
      go_wp2_with fail
      go_ret
      exact ⟨rfl, rfl⟩
    · have h2' : ¬ p < 24 := by omega
      rw [decide_eq_true h1, decide_eq_false h2]
      go_enter Tryz.func32, Tryz.ntmps32
      go_wp2_with fail
      go_ret
      exact ⟨rfl, rfl⟩
  · have h1' : p < 0 := by omega
    rw [decide_eq_false h1]
    go_enter Tryz.func32, Tryz.ntmps32
    go_wp2_with fail
    go_ret
    exact ⟨rfl, rfl⟩
/-- How far two places are from each other. -/
def awayI (p q : Int) : Int := if p ≤ q then min (q - p) (24 - (q - p)) else min (p - q) (24 - (p - q))
def Plc (l : List Int) : Prop := ∀ z ∈ l, 0 ≤ z ∧ z ≤ 23
def nearP (l : List Int) (x : Int) : Prop := ∃ (i k : Nat) (p q : Int), k < i ∧ l[i]? = some p ∧ l[k]? = some q ∧ awayI p q < x
open Classical in
noncomputable def nearB (l : List Int) (x : Int) : Bool := decide (nearP l x)
theorem raway_any (p q : Int) (w : World) (hp : 0 ≤ p ∧ p ≤ 23) (hq : 0 ≤ q ∧ q ≤ 23) : Calls Tryz.prog 77 #[.int .i64 p, .int .i64 q] w fun e w' => e = .returned (.int .i64 (awayI p q)) ∧ w' = w := by
  have h1 : IntKind.i64.wrap (p - q) = p - q := IntWalk.i64_in _ (by omega)
  unfold awayI
  by_cases h : p ≤ q
  · rw [if_pos h]
    by_cases hpq : p = q
    · subst hpq
      rw [Int.sub_self] at h1 ⊢
      go_enter Tryz.func77, Tryz.ntmps77
      go_wp2_with fail
      go_ret
      exact ⟨rfl, rfl⟩
    · have h2 : p - q < 0 := by omega
      have h3 : IntKind.i64.wrap (-(p - q)) = q - p := by rw [IntWalk.i64_in _ (by omega)]; omega
      have h4 : IntKind.i64.wrap (24 - (q - p)) = 24 - (q - p) := IntWalk.i64_in _ (by omega)
      go_enter Tryz.func77, Tryz.ntmps77
      go_wp2_with fail
      go_ret
      exact ⟨rfl, rfl⟩
  · rw [if_neg h]
    have h2 : ¬ p - q < 0 := by omega
    have h4 : IntKind.i64.wrap (24 - (p - q)) = 24 - (p - q) := IntWalk.i64_in _ (by omega)
    go_enter Tryz.func77, Tryz.ntmps77
    go_wp2_with fail
    go_ret
    exact ⟨rfl, rfl⟩
theorem away_max (p q : Int) : min (max (p - q) (q - p)) (24 - max (p - q) (q - p)) = awayI p q := by unfold awayI; split <;> omega
theorem away_rng (p q : Int) (hp : 0 ≤ p ∧ p ≤ 23) (hq : 0 ≤ q ∧ q ≤ 23) : 0 ≤ max (p - q) (q - p) ∧ max (p - q) (q - p) ≤ 23 := by omega
open Classical in
theorem nearB_yes {l : List Int} {x p q : Int} {i k : Nat} (hk : k < i) (hi : l[i]? = some p) (hq : l[k]? = some q) (h : awayI p q < x) : nearB l x = true := decide_eq_true ⟨i, k, p, q, hk, hi, hq, h⟩
open Classical in
theorem nearB_no {l : List Int} {x : Int} (h : ∀ (i k : Nat) p q, k < i → l[i]? = some p → l[k]? = some q → ¬ awayI p q < x) : nearB l x = false := decide_eq_false fun ⟨i, k, p, q, hk, hi, hq, hh⟩ => h i k p q hk hi hq hh
theorem near_any (v : Value) (l : List Int) (x : Int) (w : World) (S : Nat → Prop) (hv : Rd (Value.int .i64) w S v l) (hl : Plc l) (hn : l.length ≤ 1000) :
    Calls Tryz.prog 48 #[v, .int .i64 x] w fun e w' => e = .returned (.bool (nearB l x)) ∧ w' = w := by
  obtain ⟨A, n, cap, rfl, hnl, hcap, hmax, hc⟩ := hv.open_
  have HN := Lib.hid hnl
  have HC := Lib.hid hc
  have HL := Lib.hid hl
  have hn1 : n ≤ 1000 := by omega
  clear hnl hc hl hv hn
  go_enter Tryz.func48, Tryz.ntmps48
  go_wp2_with fail
  go_loopw [12] (fun iv wr => ∃ i : Nat, i ≤ n ∧ iv = .int .i64 (i : Int) ∧ Hid (∀ (i' k : Nat) p q, i' < i → k < i' → l[i']? = some p → l[k]? = some q → ¬ awayI p q < x) ∧ wr = w) (fun iv _ => n - (RowKit.intOf iv).toNat)
  case atStart => exact ⟨0, Nat.zero_le _, rfl, fun i' k p q h => absurd h (Nat.not_lt_zero _), rfl⟩
  case round =>
    obtain ⟨i, hi, rfl, HI, hw⟩ := hrel
    obtain rfl := hw.symm
    clear hw
    by_cases hlt : i < n
    · obtain ⟨b, off, p, rfl, hS, hp, hcell⟩ := HC.out i hlt
      have HP := Lib.hid hp
      have hii : (i : Int) < (n : Int) := by omega
      have hi0 : (0 : Int) ≤ (i : Int) := by omega
      have hwi : IntKind.i64.wrap ((i : Int) + 1) = (i : Int) + 1 := IntWalk.i64_in _ (by omega)
      have HPP := Lib.hid (HL.out p (List.mem_of_getElem? hp))
      have hin : ¬ (n : Int) < (i : Int) := by omega
      have hic : i ≤ cap := by omega
      clear hp hS
      go_wp2_with fail
      go_loopw [21] (fun kv wr => ∃ k : Nat, k ≤ i ∧ kv = .int .i64 (k : Int) ∧ Hid (∀ (k' : Nat) q, k' < k → l[k']? = some q → ¬ awayI p q < x) ∧ wr = w) (fun kv _ => i - (RowKit.intOf kv).toNat)
      case atStart => exact ⟨0, Nat.zero_le _, rfl, fun k' q h => absurd h (Nat.not_lt_zero _), rfl⟩
      case round =>
        obtain ⟨k, hk, rfl, HK, hw⟩ := hrel
        obtain rfl := hw.symm
        clear hw
        by_cases hki : k < i
        · obtain ⟨b', off', q, hbo, -, hq, hcellq⟩ := HC.out k (by omega)
          injection hbo with hbo
          injection hbo with hb1 hb2
          subst hb1 hb2
          have HQ := Lib.hid hq
          have HQP := Lib.hid (HL.out q (List.mem_of_getElem? hq))
          have hkk : (k : Int) < (i : Int) := by omega
          have hk0 : (0 : Int) ≤ (k : Int) := by omega
          have hwk : IntKind.i64.wrap ((k : Int) + 1) = (k : Int) + 1 := IntWalk.i64_in _ (by omega)
          have w1 : IntKind.i64.wrap (p - q) = p - q := IntWalk.i64_in _ (by have := HPP.out; have := HQP.out; omega)
          have w2 : IntKind.i64.wrap (q - p) = q - p := IntWalk.i64_in _ (by have := HPP.out; have := HQP.out; omega)
          have w3 : IntKind.i64.wrap (24 - max (p - q) (q - p)) = 24 - max (p - q) (q - p) := IntWalk.i64_in _ (by have := away_rng p q HPP.out HQP.out; omega)
          have hmm := away_max p q
          clear hq hcell
          by_cases hnear : awayI p q < x
          · have HB : Hid (nearB l x = true) := nearB_yes hki HP.out HQ.out hnear
            go_wp2_with fail
            go_ret
            exact ⟨by rw [HB.out]; rfl, rfl⟩
          · have HK1 : Hid (∀ (k' : Nat) q, k' < k + 1 → l[k']? = some q → ¬ awayI p q < x) := fun k' q' h1 h2 => by
              rcases Nat.lt_or_ge k' k with h | h
              · exact HK.out k' q' h h2
              · obtain rfl : k' = k := by omega
                rw [HQ.out] at h2
                injection h2 with h2
                rw [← h2]; exact hnear
            go_wp2_with fail
            go_roundw
            case rel => exact ⟨k + 1, by omega, by go_num, HK1.out, trivial⟩
            case measure => simp [RowKit.intOf]; omega
        · obtain rfl : k = i := by omega
          have hkk : ¬ (k : Int) < (k : Int) := by omega
          have HI1 : Hid (∀ (i' k' : Nat) p q, i' < k + 1 → k' < i' → l[i']? = some p → l[k']? = some q → ¬ awayI p q < x) := fun i' k' p' q' h1 h2 h3 h4 => by
            rcases Nat.lt_or_ge i' k with h | h
            · have := HI.out i' k' p' q' h h2 h3 h4; omega
            · obtain rfl : i' = k := by omega
              rw [HP.out] at h3
              injection h3 with h3
              rw [← h3]; exact HK.out k' q' h2 h4
          clear hcell
          go_wp2_with fail
          go_roundw
          case rel => exact ⟨k + 1, by omega, by go_num, HI1.out, trivial⟩
          case measure => simp [RowKit.intOf]; omega
    · obtain rfl : i = n := by omega
      have HB : Hid (nearB l x = false) := nearB_no fun i' k p q h1 h2 => HI.out i' k p q (by have := (List.getElem?_eq_some_iff.1 h2).1; have := HN.out; omega) h1 h2
      have hii : ¬ (i : Int) < (i : Int) := by omega
      go_wp2_with fail
      go_ret
      exact ⟨by rw [HB.out]; rfl, rfl⟩
theorem rnear_any (v : Value) (l : List Int) (x : Int) (w : World) (S : Nat → Prop) (hv : Rd (Value.int .i64) w S v l) (hl : Plc l) (hn : l.length ≤ 1000) :
    Calls Tryz.prog 51 #[v, .int .i64 x] w fun e w' => e = .returned (.bool (nearB l x)) ∧ Below w.heap.size w w' := by
  obtain ⟨A, n, cap, rfl, hnl, hcap, hmax, hc⟩ := hv.lt.open_
  have HN := Lib.hid hnl
  have HC := Lib.hid hc
  have HL := Lib.hid hl
  have hn1 : n ≤ 1000 := by omega
  clear hnl hc hl hv hn
  go_enter Tryz.func51, Tryz.ntmps51
  go_wp2_with fail
  go_loopw [5, 6] (fun iv _ wr => ∃ i : Nat, i ≤ n ∧ iv = .int .i64 (i : Int) ∧ Hid (∀ (i' k : Nat) p q, i' < i → k < i' → l[i']? = some p → l[k]? = some q → ¬ awayI p q < x) ∧ Hid (Below w.heap.size w wr)) (fun iv _ _ => n - (RowKit.intOf iv).toNat)
  case atStart => exact ⟨0, Nat.zero_le _, rfl, fun i' k p q h => absurd h (Nat.not_lt_zero _), Below.refl _ _⟩
  case round =>
    obtain ⟨i, hi, rfl, HI, HW⟩ := hrel
    by_cases hlt : i < n
    · obtain ⟨b, off, p, rfl, ⟨hS, hbw⟩, hp, hcell⟩ := HC.out i hlt
      have HP := Lib.hid hp
      have hii : (i : Int) < (n : Int) := by omega
      have hi0 : (0 : Int) ≤ (i : Int) := by omega
      have hwi : IntKind.i64.wrap ((i : Int) + 1) = (i : Int) + 1 := IntWalk.i64_in _ (by omega)
      have HPP := Lib.hid (HL.out p (List.mem_of_getElem? hp))
      have HCI := Lib.hid hcell
      have HBW := Lib.hid hbw
      clear hp hS hcell hbw
      go_wp2_with fail
      go_loopw [6] (fun kv w2 => ∃ k : Nat, k ≤ i ∧ kv = .int .i64 (k : Int) ∧ Hid (∀ (k' : Nat) q, k' < k → l[k']? = some q → ¬ awayI p q < x) ∧ Hid (Below w.heap.size w w2)) (fun kv _ => i - (RowKit.intOf kv).toNat)
      case atStart => exact ⟨0, Nat.zero_le _, rfl, fun k' q h => absurd h (Nat.not_lt_zero _), HW.out⟩
      case round =>
        clear HW
        obtain ⟨k, hk, rfl, HK, HW⟩ := hrel
        by_cases hki : k < i
        · obtain ⟨b', off', q, hbo, -, hq, hcellq⟩ := HC.out k (by omega)
          injection hbo with hbo
          injection hbo with hb1 hb2
          subst hb1 hb2
          have HQ := Lib.hid hq
          have HQP := Lib.hid (HL.out q (List.mem_of_getElem? hq))
          have hkk : (k : Int) < (i : Int) := by omega
          have hk0 : (0 : Int) ≤ (k : Int) := by omega
          have hwk : IntKind.i64.wrap ((k : Int) + 1) = (k : Int) + 1 := IntWalk.i64_in _ (by omega)
          have hkn : (k : Int) < (n : Int) := by omega
          have c1 := (HW.out.cell (p := ⟨b, off + i, none⟩) HBW.out).trans HCI.out
          have c2 := (HW.out.cell (p := ⟨b, off + k, none⟩) HBW.out).trans hcellq
          clear hq hcellq
          have HA := Lib.hid (raway_any p q wr.drew HPP.out HQP.out)
          have HWd : Hid (Below w.heap.size w wr.drew) := HW.out.drew
          by_cases hnear : awayI p q < x
          · have HB : Hid (nearB l x = true) := nearB_yes hki HP.out HQ.out hnear
            go_wp2_with fail
            refine seq_start (S := fun w' => w'.cell? ⟨b, off + i, none⟩ = some (.int .i64 p) ∧ w'.cell? ⟨b, off + k, none⟩ = some (.int .i64 q)) (by kernel_rfl) (by kernel_rfl) (by exact ⟨c1, c2⟩) ?_
            repeat (first | refine tk0 (h := ?_) | refine tkG (h := ?_) | refine skG (h := ?_))
            repeat (refine seq_swap ?_; first | refine tk0 (h := ?_) | refine tkG (h := ?_) | refine skG (h := ?_))
            refine sop (h := fun K9 hK9 => ?_)
            go_simp
            refine HA.out.mono ?_
            rintro e w2 ⟨rfl, hw⟩
            obtain rfl := hw.symm
            refine hK9.out _ _ ⟨c1, c2⟩ ?_
            clear hK9 K9 hw
            repeat (first | refine tk0 (h := ?_) | refine tkG (h := ?_) | refine skG (h := ?_))
            refine seq_done (by kernel_rfl) ?_
            go_wp2_with fail
            go_ret
            exact ⟨by rw [HB.out]; rfl, HWd.out⟩
          · have HK1 : ∀ (k' : Nat) q, k' < k + 1 → l[k']? = some q → ¬ awayI p q < x := fun k' q' h1 h2 => by
              rcases Nat.lt_or_ge k' k with h | h
              · have := HK.out k' q' h h2; omega
              · obtain rfl : k' = k := by omega
                rw [HQ.out] at h2
                injection h2 with h2
                rw [← h2]; exact hnear
            replace HK1 := Lib.hid HK1
            go_wp2_with fail
            refine seq_start (S := fun w' => w'.cell? ⟨b, off + i, none⟩ = some (.int .i64 p) ∧ w'.cell? ⟨b, off + k, none⟩ = some (.int .i64 q)) (by kernel_rfl) (by kernel_rfl) (by exact ⟨c1, c2⟩) ?_
            repeat (first | refine tk0 (h := ?_) | refine tkG (h := ?_) | refine skG (h := ?_))
            repeat (refine seq_swap ?_; first | refine tk0 (h := ?_) | refine tkG (h := ?_) | refine skG (h := ?_))
            refine sop (h := fun K9 hK9 => ?_)
            go_simp
            refine HA.out.mono ?_
            rintro e w2 ⟨rfl, hw⟩
            obtain rfl := hw.symm
            refine hK9.out _ _ ⟨c1, c2⟩ ?_
            clear hK9 K9 hw
            repeat (first | refine tk0 (h := ?_) | refine tkG (h := ?_) | refine skG (h := ?_))
            refine seq_done (by kernel_rfl) ?_
            go_wp2_with fail
            go_roundw
            case rel => exact ⟨k + 1, by omega, by go_num, fun k' q' h1 h2 => (by have := HK1.out k' q' h1 h2; omega), HWd⟩
            case measure => simp [RowKit.intOf]; omega
        · obtain rfl : k = i := by omega
          have hkk : ¬ (k : Int) < (k : Int) := by omega
          have HI1 : Hid (∀ (i' k' : Nat) p q, i' < k + 1 → k' < i' → l[i']? = some p → l[k']? = some q → ¬ awayI p q < x) := fun i' k' p' q' h1 h2 h3 h4 => by
            rcases Nat.lt_or_ge i' k with h | h
            · have := HI.out i' k' p' q' h h2 h3 h4; omega
            · obtain rfl : i' = k := by omega
              rw [HP.out] at h3
              injection h3 with h3
              rw [← h3]; exact HK.out k' q' h2 h4
          go_wp2_with fail
          go_roundw
          case rel => exact ⟨k + 1, by omega, by go_num, HI1.out, HW.out⟩
          case measure => simp [RowKit.intOf]; omega
    · obtain rfl : i = n := by omega
      have HB : Hid (nearB l x = false) := nearB_no fun i' k' p q h1 h2 => HI.out i' k' p q (by have := (List.getElem?_eq_some_iff.1 h2).1; have := HN.out; omega) h1 h2
      have hii : ¬ (i : Int) < (i : Int) := by omega
      go_wp2_with fail
      go_ret
      exact ⟨by rw [HB.out]; rfl, HW.out⟩
end Go.Proofs.YtfondpakbiagjaaGreatDoor
