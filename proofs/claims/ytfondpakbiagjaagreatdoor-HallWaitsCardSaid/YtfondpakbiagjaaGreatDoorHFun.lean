/- The walks of slices.IndexFunc and slices.ContainsFunc over a function value of which a contract is known. -/
import Derived.Test.YtfondpakbiagjaaGreatDoorBase2
namespace Go.Proofs.YtfondpakbiagjaaGreatDoor
open Go.RowKit

/-- The first place below n at which p holds; -1 if there is none. -/
def firstIdx (p : Nat → Bool) (n : Nat) : Int := match (List.range n).find? p with | some i => i | none => -1
theorem firstIdx_hit {p : Nat → Bool} {n k : Nat} (hk : k < n) (h : p k = true) (hn : ∀ j, j < k → p j = false) : firstIdx p n = k := by
  unfold firstIdx
  have : (List.range n).find? p = some k := by
    rw [List.find?_range_eq_some]
    exact ⟨h, by simpa using hk, fun j hj => by simp [hn j hj]⟩
  rw [this]
theorem firstIdx_miss {p : Nat → Bool} {n : Nat} (hn : ∀ j, j < n → p j = false) : firstIdx p n = -1 := by
  unfold firstIdx
  have : (List.range n).find? p = none := by rw [List.find?_eq_none]; intro j hj; simp [hn j (List.mem_range.1 hj)]
  rw [this]

set_option maxHeartbeats 400000 in
theorem indexFuncI_any (v : Value) (vs : List Value) (S : Nat → Prop) (fid : FuncId) (cpt : Array Value) (eg : ∀ args w, (callFunc fid args).run Tryz.prog w = .ok (.enter fid args) w) (p : Nat → Bool) (w : World) (hv : Rd id w S v vs)
    (hf : ∀ i u, vs[i]? = some u → ∀ w', Below w.heap.size w w' → Calls Tryz.prog fid (#[u] ++ cpt) w' fun e w'' => e = .returned (.bool (p i)) ∧ Below w'.heap.size w' w'') :
    Calls Tryz.prog 72 #[v, .func (.func fid) #[] cpt] w fun e w' => e = .returned (.int .i64 (firstIdx p vs.length)) ∧ Below w.heap.size w w' := by
  obtain ⟨A, n, cap, rfl, hn, hcap, hmax, hc⟩ := hv.lt.open_
  rw [hn]
  have HF := Lib.hid hf
  have HN := Lib.hid hn
  clear hn hf
  go_enter Tryz.func72, Tryz.ntmps72
  go_wp2_with fail
  go_loopw [8] (fun i wr => ∃ k : Nat, k ≤ n ∧ i = .int .i64 k ∧ Hid (∀ j, j < k → p j = false) ∧ Below w.heap.size w wr) (fun i _ => n - (intOf i).toNat)
  case atStart => exact ⟨0, by omega, rfl, fun j hj => absurd hj (by omega), Below.refl _ _⟩
  case round =>
    obtain ⟨k, hk, rfl, HK, hbl⟩ := hrel
    by_cases hlt : k < n
    · obtain ⟨b, off, u, rfl, ⟨_, hbw⟩, hu, hcell⟩ := hc k hlt
      have hcell' : wr.cell? ⟨b, off + k, none⟩ = some u := (hbl.cell (p := ⟨b, off + k, none⟩) hbw).trans hcell
      have HCO := Lib.hid (HF.out k u hu wr hbl)
      clear hc hcell hu
      cases hp : p k with
      | true =>
        have HR := Lib.hid (firstIdx_hit hlt hp HK.out)
        rw [hp] at HCO
        clear hp
        go_wp2_with fail
        refine HCO.out.mono ?_
        rintro e w1 ⟨rfl, hb1⟩
        go_wp2_with fail
        go_ret
        exact ⟨ret_int HR.out.symm, hbl.trans (hb1.mono hbl.size)⟩
      | false =>
        have HK1 : Hid (∀ j, j < k + 1 → p j = false) := fun j hj => by
          rcases Nat.lt_or_ge j k with h | h
          · exact HK.out j h
          · obtain rfl : j = k := by omega
            exact hp
        rw [hp] at HCO
        clear hp
        go_wp2_with fail
        refine HCO.out.mono ?_
        rintro e w1 ⟨rfl, hb1⟩
        go_wp2_with fail
        go_roundw
        case rel => exact ⟨k + 1, by omega, by go_num, HK1, hbl.trans (hb1.mono hbl.size)⟩
        case measure => simp [intOf]; omega
    · have HR := Lib.hid (firstIdx_miss (n := n) (fun j hj => HK.out j (by omega)))
      clear hc
      go_wp2_with fail
      go_ret
      exact ⟨ret_int HR.out.symm, hbl⟩

/-- Some place below n at which p holds. -/
def anyIdx (p : Nat → Bool) (n : Nat) : Bool := (List.range n).any p
theorem anyIdx_first (p : Nat → Bool) (n : Nat) : decide (0 ≤ firstIdx p n) = anyIdx p n := by
  unfold firstIdx anyIdx
  cases h : (List.range n).find? p with
  | none =>
    rw [List.find?_eq_none] at h
    symm
    simp only [show decide ((0 : Int) ≤ -1) = false from rfl]
    rw [List.any_eq_false]; exact h
  | some i =>
    have h1 := List.find?_some h
    have h2 := List.mem_of_find?_eq_some h
    symm
    have : decide ((0 : Int) ≤ (i : Int)) = true := by simp
    simp only [this]
    rw [List.any_eq_true]; exact ⟨i, h2, h1⟩

set_option maxHeartbeats 400000 in
theorem containsFuncI_any (v : Value) (vs : List Value) (S : Nat → Prop) (fid : FuncId) (cpt : Array Value) (eg : ∀ args w, (callFunc fid args).run Tryz.prog w = .ok (.enter fid args) w) (p : Nat → Bool) (w : World) (hv : Rd id w S v vs)
    (hf : ∀ i u, vs[i]? = some u → ∀ w', Below w.heap.size w w' → Calls Tryz.prog fid (#[u] ++ cpt) w' fun e w'' => e = .returned (.bool (p i)) ∧ Below w'.heap.size w' w'') :
    Calls Tryz.prog 40 #[v, .func (.func fid) #[] cpt] w fun e w' => e = .returned (.bool (anyIdx p vs.length)) ∧ Below w.heap.size w w' := by
  have HC := Lib.hid (indexFuncI_any v vs S fid cpt eg p w hv hf)
  have HA := Lib.hid (anyIdx_first p vs.length)
  obtain ⟨q, hq⟩ : ∃ q, q = firstIdx p vs.length := ⟨_, rfl⟩
  rw [← hq] at HC HA
  clear hf hv eg hq
  go_enter Tryz.func40, Tryz.ntmps40
  go_wp2_with (go_at_call 72; refine HC.out.mono ?_; rintro e w1 ⟨rfl, hb1⟩)
  go_ret
  exact ⟨ret_bool HA.out, hb1⟩
end Go.Proofs.YtfondpakbiagjaaGreatDoor
