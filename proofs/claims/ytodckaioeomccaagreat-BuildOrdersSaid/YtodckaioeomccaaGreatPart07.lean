/- The walk of the reference's has: where a name stands. The walks of the functions of slices over strings: IndexFunc, ContainsFunc, Index, Contains. -/
import Derived.Test.YtodckaioeomccaaGreatPart06
import Derived.WalkKit
import Derived.Lib.Strings
import Derived.Lib.Hide
import Derived.Test.YtodckaioeomccaaGreatPart02
namespace Go.Proofs.YtodckaioeomccaaGreat
open Go.RowKit Go.Proofs.OrdS
set_option linter.unusedVariables false
set_option linter.unusedSimpArgs false
theorem atI_hit : ∀ {l : List ByteArray} {n : ByteArray} {k : Nat}, l[k]? = some n → (∀ j, j < k → l[j]? ≠ some n) → atI l n = k
  | [], _, _, h, _ => by simp at h
  | y :: l, n, 0, h, _ => by
    have : y = n := by simpa using h
    unfold atI; rw [if_pos this]; rfl
  | y :: l, n, k + 1, h, hj => by
    have h0 : y ≠ n := fun e => hj 0 (by omega) (by simp [e])
    have ih := atI_hit (l := l) (n := n) (k := k) (by simpa using h) (fun j hj' => by have := hj (j + 1) (by omega); simpa using this)
    unfold atI; rw [if_neg h0, ih, if_neg (by omega)]; omega
theorem atI_none {l : List ByteArray} {n : ByteArray} (h : ∀ j, j < l.length → l[j]? ≠ some n) : atI l n = -1 := atI_not fun hm => by
  obtain ⟨i, hi, rfl⟩ := List.mem_iff_getElem.1 hm
  exact h i hi (List.getElem?_eq_getElem hi)
theorem strEq (a b : ByteArray) : (a.toList == b.toList) = decide (a = b) := by
  rw [Bool.eq_iff_iff, beq_iff_eq, decide_eq_true_iff, Lib.toList_data, Lib.toList_data]
  refine ⟨fun h => ?_, fun h => by rw [h]⟩
  cases a with | mk a => cases b with | mk b =>
    congr 1
    exact Array.toList_inj.1 h
theorem RdB.at_ {w : World} {v : Value} {l : List ByteArray} (h : RdB w v l) : ∃ A cap, v = .slice A l.length cap ∧ l.length ≤ cap ∧ l.length ≤ 9223372036854775807 ∧ cap ≤ maxLen ∧
    (∀ k, k < l.length → ∃ b off x, A = some ⟨b, off, none⟩ ∧ b < w.heap.size ∧ l[k]? = some x ∧ w.cell? ⟨b, off + k, none⟩ = some (.string x)) := by
  obtain ⟨A, cap, rfl, h1, h2, h3⟩ := h
  refine ⟨A, cap, rfl, h1, by unfold maxLen at h2; omega, h2, fun k hk => ?_⟩
  obtain ⟨b, off, rfl, hb, hc⟩ := h3 (fun e => by subst e; simp at hk)
  exact ⟨b, off, l[k], rfl, World.block_lt_of_cell? w ⟨b, _, none⟩ (hc k hk), List.getElem?_eq_getElem hk, hc k hk⟩
set_option maxRecDepth 100000 in
set_option maxHeartbeats 1000000 in
theorem rhas_any (v : Value) (l : List ByteArray) (nm : ByteArray) (w : World) (h : RdB w v l) :
    Calls Tryz.prog 143 #[v, .string nm] w fun e w' => e = .returned (.int .i64 (atI l nm)) ∧ w' = w := by
  obtain ⟨A, cap, rfl, hcap, hmax, hcm, hc⟩ := h.at_
  have HC := Lib.hid hc
  have HA := Lib.hid (fun k => @atI_hit l nm k)
  have HN := Lib.hid (@atI_none l nm)
  obtain ⟨r, hr⟩ : ∃ r, r = atI l nm := ⟨_, rfl⟩
  rw [← hr] at HA HN ⊢
  obtain ⟨n, hn⟩ : ∃ n, n = l.length := ⟨_, rfl⟩
  rw [← hn] at HC HN hcap hmax ⊢
  clear h hc hcm hr hn
  go_enter Tryz.func143, Tryz.ntmps143
  go_wp2_with fail
  go_loop [5] (fun iv => ∃ k : Nat, k ≤ n ∧ iv = .int .i64 (k : Int) ∧ Hid (∀ j, j < k → l[j]? ≠ some nm)) (fun iv => n - (intOf iv).toNat)
  case atStart => exact ⟨0, by omega, rfl, fun j hj => absurd hj (by omega)⟩
  case round =>
    obtain ⟨k, hk, rfl, HK⟩ := hrel
    by_cases hlt : k < n
    · obtain ⟨b, off, u, rfl, _, hu, hcell⟩ := HC.out k hlt
      have heq := strEq u nm
      have HU := Lib.hid hu
      clear hu
      by_cases he : u = nm
      · subst he
        have hb : (u.toList == u.toList) = true := by simp
        have HE : Hid (r = (k : Int)) := HA.out k HU.out HK.out
        clear heq
        go_wp2_with fail
        go_ret
        exact ⟨ret_int HE.out.symm, rfl⟩
      · have hb : (u.toList == nm.toList) = false := by rw [heq]; exact decide_eq_false he
        have HK1 : Hid (∀ j, j < k + 1 → l[j]? ≠ some nm) := fun j hj => by
          rcases Nat.lt_or_ge j k with h | h
          · exact HK.out j h
          · obtain rfl : j = k := by omega
            rw [HU.out]; exact fun e => he (Option.some.inj e)
        clear heq he
        go_wp2_with fail
        go_round
        case rel => exact ⟨k + 1, by omega, by go_num, HK1⟩
        case measure => simp [intOf]; omega
    · obtain rfl : n = k := by omega
      have HE : Hid (r = -1) := HN.out HK.out
      go_wp2_with fail
      go_ret
      exact ⟨ret_int HE.out.symm, rfl⟩
end Go.Proofs.YtodckaioeomccaaGreat
namespace Go.Proofs.YtodckaioeomccaaGreat
open Go.RowKit Go.Proofs.OrdS
set_option maxHeartbeats 400000 in
theorem indexFuncS_any (v : Value) (vs : List Value) (S : Nat → Prop) (fid : FuncId) (cpt : Array Value) (eg : ∀ args w, (callFunc fid args).run Tryz.prog w = .ok (.enter fid args) w) (p : Nat → Bool) (w : World) (hv : Rd id w S v vs)
    (hf : ∀ i u, vs[i]? = some u → ∀ w', Below w.heap.size w w' → Calls Tryz.prog fid (#[u] ++ cpt) w' fun e w'' => e = .returned (.bool (p i)) ∧ Below w'.heap.size w' w'') :
    Calls Tryz.prog 210 #[v, .func (.func fid) #[] cpt] w fun e w' => e = .returned (.int .i64 (firstIdx p vs.length)) ∧ Below w.heap.size w w' := by
  obtain ⟨A, n, cap, rfl, hn, hcap, hmax, hc⟩ := hv.lt.open_
  rw [hn]
  have HF := Lib.hid hf
  have HN := Lib.hid hn
  clear hn hf
  go_enter Tryz.func210, Tryz.ntmps210
  go_wp2_with fail
  go_loopw [8] (fun i wr => ∃ k : Nat, k ≤ n ∧ i = .int .i64 k ∧ Hid (∀ j, j < k → p j = false) ∧ Below w.heap.size w wr) (fun i _ => n - (intOf i).toNat)
  case atStart => exact ⟨0, by omega, rfl, fun j hj => absurd hj (by omega), Below.refl _ _⟩
  case round =>
    obtain ⟨k, hk, rfl, HK, hbl⟩ := hrel
    by_cases hlt : k < n
    · obtain ⟨b, off, u, rfl, ⟨_, hbw⟩, hu, hcell⟩ := hc k hlt
      have hcell' : wr.cell? ⟨b, off + k, none⟩ = some u := (hbl.cell (p := ⟨b, off + k, none⟩) hbw).trans hcell
      have HCO := Lib.hid (HF.out k u hu wr hbl)
      clear hc hcell hu
      cases hp : p k with
      | true =>
        have HR := Lib.hid (firstIdx_hit hlt hp HK.out)
        rw [hp] at HCO
        clear hp
        go_wp2_with fail
        refine HCO.out.mono ?_
        rintro e w1 ⟨rfl, hb1⟩
        go_wp2_with fail
        go_ret
        exact ⟨ret_int HR.out.symm, hbl.trans (hb1.mono hbl.size)⟩
      | false =>
        have HK1 : Hid (∀ j, j < k + 1 → p j = false) := fun j hj => by
          rcases Nat.lt_or_ge j k with h | h
          · exact HK.out j h
          · obtain rfl : j = k := by omega
            exact hp
        rw [hp] at HCO
        clear hp
        go_wp2_with fail
        refine HCO.out.mono ?_
        rintro e w1 ⟨rfl, hb1⟩
        go_wp2_with fail
        go_roundw
        case rel => exact ⟨k + 1, by omega, by go_num, HK1, hbl.trans (hb1.mono hbl.size)⟩
        case measure => simp [intOf]; omega
    · have HR := Lib.hid (firstIdx_miss (n := n) (fun j hj => HK.out j (by omega)))
      clear hc
      go_wp2_with fail
      go_ret
      exact ⟨ret_int HR.out.symm, hbl⟩

set_option maxHeartbeats 400000 in
theorem containsFuncS_any (v : Value) (vs : List Value) (S : Nat → Prop) (fid : FuncId) (cpt : Array Value) (eg : ∀ args w, (callFunc fid args).run Tryz.prog w = .ok (.enter fid args) w) (p : Nat → Bool) (w : World) (hv : Rd id w S v vs)
    (hf : ∀ i u, vs[i]? = some u → ∀ w', Below w.heap.size w w' → Calls Tryz.prog fid (#[u] ++ cpt) w' fun e w'' => e = .returned (.bool (p i)) ∧ Below w'.heap.size w' w'') :
    Calls Tryz.prog 138 #[v, .func (.func fid) #[] cpt] w fun e w' => e = .returned (.bool (anyIdx p vs.length)) ∧ Below w.heap.size w w' := by
  have HC := Lib.hid (indexFuncS_any v vs S fid cpt eg p w hv hf)
  have HA := Lib.hid (anyIdx_first p vs.length)
  obtain ⟨q, hq⟩ : ∃ q, q = firstIdx p vs.length := ⟨_, rfl⟩
  rw [← hq] at HC HA
  clear hf hv eg hq
  go_enter Tryz.func138, Tryz.ntmps138
  go_wp2_with (go_at_call 210; refine HC.out.mono ?_; rintro e w1 ⟨rfl, hb1⟩)
  go_ret
  exact ⟨ret_bool HA.out, hb1⟩
set_option maxHeartbeats 400000 in
theorem indexS_any (v : Value) (xs : List ByteArray) (nm : ByteArray) (w : World) (hv : RdB w v xs) :
    Calls Tryz.prog 211 #[v, .string nm] w fun e w' => e = .returned (.int .i64 (firstIdx (fun i => decide (nm = xs.getD i ⟨#[]⟩)) xs.length)) ∧ w = w' := by
  obtain ⟨A, n, cap, rfl, hn, hcap, hmax, hc⟩ := hv.lt.open_
  rw [hn]
  obtain ⟨p, hp⟩ : ∃ p, p = (fun i => decide (nm = xs.getD i ⟨#[]⟩)) := ⟨_, rfl⟩
  rw [← hp]
  have HP := Lib.hid hp
  have HN := Lib.hid hn
  clear hn hp
  go_enter Tryz.func211, Tryz.ntmps211
  go_wp2_with fail
  go_loop [8] (fun i => ∃ k : Nat, k ≤ n ∧ i = .int .i64 k ∧ Hid (∀ j, j < k → p j = false)) (fun i => n - (intOf i).toNat)
  case atStart => exact ⟨0, by omega, rfl, fun j hj => absurd hj (by omega)⟩
  case round =>
    obtain ⟨k, hk, rfl, HK⟩ := hrel
    by_cases hlt : k < n
    · obtain ⟨b, off, u, rfl, _, hu, hcell⟩ := hc k hlt
      have hpk : p k = decide (nm = u) := by rw [HP.out]; simp [List.getD, hu]
      have heq := strEq nm u
      clear hc hu
      cases hp : p k with
      | true =>
        have HR := Lib.hid (firstIdx_hit hlt hp HK.out)
        have he : (nm.toList == u.toList) = true := by rw [heq, ← hpk, hp]
        clear hp hpk heq
        go_wp2_with fail
        go_ret
        exact ⟨ret_int HR.out.symm, rfl⟩
      | false =>
        have HK1 : Hid (∀ j, j < k + 1 → p j = false) := fun j hj => by
          rcases Nat.lt_or_ge j k with h | h
          · exact HK.out j h
          · obtain rfl : j = k := by omega
            exact hp
        have he : (nm.toList == u.toList) = false := by rw [heq, ← hpk, hp]
        clear hp hpk heq
        go_wp2_with fail
        go_round
        case rel => exact ⟨k + 1, by omega, by go_num, HK1⟩
        case measure => simp [intOf]; omega
    · have HR := Lib.hid (firstIdx_miss (n := n) (fun j hj => HK.out j (by omega)))
      clear hc
      go_wp2_with fail
      go_ret
      exact ⟨ret_int HR.out.symm, rfl⟩

theorem anyIdx_has (xs : List ByteArray) (nm : ByteArray) : anyIdx (fun i => decide (nm = xs.getD i ⟨#[]⟩)) xs.length = has xs nm := by
  unfold anyIdx has
  rw [Bool.eq_iff_iff, List.any_eq_true, List.any_eq_true]
  constructor
  · rintro ⟨i, hi, h⟩
    have hi := List.mem_range.1 hi
    refine ⟨xs[i], List.getElem_mem hi, ?_⟩
    simpa [List.getD, List.getElem?_eq_getElem hi, eq_comm] using h
  · rintro ⟨x, hx, h⟩
    obtain ⟨i, hi, rfl⟩ := List.mem_iff_getElem.1 hx
    refine ⟨i, List.mem_range.2 hi, ?_⟩
    simpa [List.getD, List.getElem?_eq_getElem hi, eq_comm] using h

set_option maxHeartbeats 400000 in
theorem containsS_any (v : Value) (xs : List ByteArray) (nm : ByteArray) (w : World) (hv : RdB w v xs) :
    Calls Tryz.prog 140 #[v, .string nm] w fun e w' => e = .returned (.bool (has xs nm)) ∧ w = w' := by
  have HC := Lib.hid (indexS_any v xs nm w hv)
  have HA := Lib.hid (anyIdx_first (fun i => decide (nm = xs.getD i ⟨#[]⟩)) xs.length)
  rw [anyIdx_has] at HA
  obtain ⟨q, hq⟩ : ∃ q, q = firstIdx (fun i => decide (nm = xs.getD i ⟨#[]⟩)) xs.length := ⟨_, rfl⟩
  rw [← hq] at HC HA
  clear hv hq
  go_enter Tryz.func140, Tryz.ntmps140
  go_wp2_with (go_at_call 211; refine HC.out.mono ?_; rintro e w1 ⟨rfl, rfl⟩)
  go_ret
  exact ⟨ret_bool HA.out, rfl⟩
end Go.Proofs.YtodckaioeomccaaGreat
