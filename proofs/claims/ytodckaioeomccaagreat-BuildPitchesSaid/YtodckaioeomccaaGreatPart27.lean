/- The walk of the laws' equal. -/
import Derived.Test.YtodckaioeomccaaGreatPart14
import Derived.Test.YtodckaioeomccaaGreatPart22
namespace Go.Proofs.YtodckaioeomccaaGreat
open Go.RowKit
set_option linter.unusedVariables false
set_option linter.unusedSimpArgs false
theorem below_drewN' (w : World) (n : Nat) : Below w.heap.size w (w.drewN n) := ⟨rfl, rfl, rfl, Nat.le_refl _, fun _ _ => rfl⟩
theorem atL_ext {l m : List Int} (hn : l.length = m.length) (h : ∀ k, k < l.length → atL l k = atL m k) : l = m := by
 apply List.ext_getElem hn
 intro k h1 h2
 have := h k h1
 unfold atL at this
 rw [List.getD_eq_getElem?_getD, List.getD_eq_getElem?_getD, List.getElem?_eq_getElem h1, List.getElem?_eq_getElem h2] at this
 exact this
set_option maxRecDepth 100000 in
set_option maxHeartbeats 2000000 in
theorem equal_any (v u : Value) (l m : List Int) (w : World) (hv : RdL w v l) (hu : RdL w u m) :
  Calls Tryz.prog 21 #[v, u] w fun e w' => e = .returned (.bool (decide (l = m))) ∧ Below w.heap.size w w' := by
 obtain ⟨A, n, cap, rfl, hn, hcap, hmax, hcm, hc⟩ := hv.open_
 obtain ⟨A', n', cap', rfl, hn', hcap', hmax', hcm', hc'⟩ := hu.open_
 obtain ⟨r, hr⟩ : ∃ r, r = decide (l = m) := ⟨_, rfl⟩
 rw [← hr]
 by_cases hnn : n = n'
 ·subst hnn
  have hne : ((n : Int) == (n : Int)) = true := by simp
  have HC : Hid (∀ k, k < n → ∃ b off, A = some ⟨b, off, none⟩ ∧ b < w.heap.size ∧ w.cell? ⟨b, off + k, none⟩ = some (.int .i64 (atL l k))) := fun k hk => by
   obtain ⟨b, off, x, h1, h2, h3, h4⟩ := hc k hk
   exact ⟨b, off, h1, h2, by rw [atL_of h3]; exact h4⟩
  have HD : Hid (∀ k, k < n → ∃ b off, A' = some ⟨b, off, none⟩ ∧ b < w.heap.size ∧ w.cell? ⟨b, off + k, none⟩ = some (.int .i64 (atL m k))) := fun k hk => by
   obtain ⟨b, off, x, h1, h2, h3, h4⟩ := hc' k hk
   exact ⟨b, off, h1, h2, by rw [atL_of h3]; exact h4⟩
  have HT : Hid ((∀ k, k < n → atL l k = atL m k) → r = true) := fun h => by rw [hr]; exact decide_eq_true (atL_ext (by omega) (by rw [hn]; exact h))
  have HF : Hid (∀ k, k < n → atL l k ≠ atL m k → r = false) := fun k hk h => by rw [hr]; exact decide_eq_false fun e => h (by rw [e])
  clear hv hu hc hc' hr hn hn' hcm hcm'
  go_enter Tryz.func21, Tryz.ntmps21
  go_wp2_with fail
  go_loopw [13] (fun iv wr => ∃ k : Nat, k ≤ n ∧ iv = .int .i64 (k : Int) ∧ Hid (∀ j, j < k → atL l j = atL m j) ∧ Hid (Below w.heap.size w wr)) (fun iv _ => n - (intOf iv).toNat)
  case atStart => exact ⟨0, by omega, rfl, fun j hj => absurd hj (by omega), Below.refl _ _⟩
  case round =>
   obtain ⟨k, hk, rfl, HK, HB⟩ := hrel
   by_cases hlt : k < n
   ·obtain ⟨b, off, rfl, hb, hx⟩ := HC.out k hlt
    obtain ⟨b', off', rfl, hb', hy⟩ := HD.out k hlt
    obtain ⟨x, hxx⟩ : ∃ x, x = atL l k := ⟨_, rfl⟩
    obtain ⟨y, hyy⟩ : ∃ y, y = atL m k := ⟨_, rfl⟩
    rw [← hxx] at hx
    rw [← hyy] at hy
    have c1 := (HB.out.cell (p := ⟨b, off + k, none⟩) hb).trans hx
    have c2 := (HB.out.cell (p := ⟨b', off' + k, none⟩) hb').trans hy
    by_cases hxy : x = y
    ·have hq : (x != y) = false := by simp [hxy]
     have HK1 : Hid (∀ j, j < k + 1 → atL l j = atL m j) := fun j hj => by
      rcases Nat.lt_or_ge j k with h | h
      ·exact HK.out j h
      ·obtain rfl : j = k := by omega
       rw [← hxx, ← hyy]; exact hxy
     clear hxx hyy hxy hx hy hb hb'
     go_wp2_with fail
     go_quiet (fail)
     clear c1 c2
     have HB1 : Hid (Below w.heap.size w (wr.drewN nq)) := HB.out.trans ((below_drewN' wr nq).mono HB.out.size)
     go_wp2_with fail
     go_roundw
     case rel => exact ⟨k + 1, by omega, by go_num, HK1, HB1⟩
     case measure => simp [intOf]; omega
    ·have hq : (x != y) = true := by simp [hxy]
     have HR := h0d (HF.out k hlt (by rw [← hxx, ← hyy]; exact hxy))
     clear hxx hyy hxy hx hy hb hb'
     go_wp2_with fail
     go_quiet (fail)
     clear c1 c2
     have HB1 : Hid (Below w.heap.size w (wr.drewN nq)) := HB.out.trans ((below_drewN' wr nq).mono HB.out.size)
     go_wp2_with fail
     go_ret
     exact ⟨ret_bool HR.out.symm, HB1.out⟩
   ·obtain rfl : k = n := by omega
    have HR := h0d (HT.out HK.out)
    go_wp2_with fail
    go_ret
    exact ⟨ret_bool HR.out.symm, HB.out⟩
 ·have hne : ((n : Int) == (n' : Int)) = false := beq_false_of_ne (by omega)
  have HR : Hid (r = false) := by show _ = _; rw [hr]; exact decide_eq_false fun e => hnn (by rw [← hn, ← hn', e])
  clear hv hu hc hc' hr hn hn' hcm hcm' hnn
  go_enter Tryz.func21, Tryz.ntmps21
  go_wp2_with fail
  go_ret
  exact ⟨ret_bool HR.out.symm, Below.refl _ _⟩
end Go.Proofs.YtodckaioeomccaaGreat
