/- Slices of whole numbers that came in. -/
import Derived.Test.YtodckaioeomccaaGreatPart05
import Derived.Deep.Slices
import Derived.Deep.Fields
import Derived.ChangeSame
import Derived.OpenShut
namespace Go.Proofs.YtodckaioeomccaaGreat
open Go.RowKit Go.ChangeShapes Go.WideShapes Go.Deep
theorem list_of_lt {α : Type} {P : Nat → α → Prop} {n : Nat} (h : ∀ i, i < n → ∃ a, P i a) : ∃ xs : List α, xs.length = n ∧ ∀ (i : Nat) (x : α), xs[i]? = some x → P i x := by
 induction n with
 | zero => exact ⟨[], rfl, fun i x h => by simp at h⟩
 | succ k ih =>
  obtain ⟨ys, hl, hy⟩ := ih fun i hi => h i (by omega)
  obtain ⟨a, ha⟩ := h k (by omega)
  refine ⟨ys ++ [a], by simp [hl], fun i z hz => ?_⟩
  rcases Nat.lt_or_ge i ys.length with hi | hi
  ·rw [List.getElem?_append_left hi] at hz; exact hy i z hz
  ·have hi' : i = ys.length := by have := (List.getElem?_eq_some_iff.1 hz).1; simp at this; omega
   subst hi'
   rw [List.getElem?_append_right (Nat.le_refl _)] at hz
   simp at hz
   subst hz
   rw [hl]
   exact ha
section
variable {H : Type} {enc : TypeId × Value → H} {w : World} {base : Nat} {spare : Nat → Bool} {held : Bool}
theorem rd_of_slice1 {α : Type} {f : α → Value} {Q : α → Prop} {t e : TypeId} {fuel : Nat} {cs : List Value} {x : DataW H × List MemPlace} (ht : Tryz.prog.underlying t = some (.slice e)) (hc : Tryz.prog.cellsOf e = 1)
  (hel : ∀ n v y, DataW.trod enc Tryz.prog w base spare held n e [v] = some y → ∃ a, v = f a ∧ Q a) (h : DataW.trod enc Tryz.prog w base spare held fuel t cs = some x) :
  ∃ v xs, cs = [v] ∧ Rd f w (fun _ => True) v xs ∧ ∀ a ∈ xs, Q a := by
 rcases open_slice1 ht hc h with ⟨rfl, _⟩ | ⟨a, len, cap, m, n, V, D, Pl, rfl, hb, hl, hcm, hm, _, hx⟩
 ·exact ⟨_, [], rfl, Rd.none_ _ _ _, by simp⟩
 ·have hlm : len ≤ m := by rw [hm]; split <;> omega
  have hA : ∀ i, i < len → ∃ a', V i = f a' ∧ Q a' := fun i hi => hel n _ _ (hx i (by omega)).2
  obtain ⟨xs, hxl, hxs'⟩ := list_of_lt hA
  have hxs : ∀ i (h : i < xs.length), V i = f xs[i] ∧ Q xs[i] := fun i h => hxs' i _ (List.getElem?_eq_getElem h)
  refine ⟨_, xs, rfl, ⟨some a, cap, by rw [hxl], by omega, hcm, fun hne => ?_⟩, fun y hy => ?_⟩
  ·have h0 : 0 < len := by rw [← hxl]; exact List.length_pos_iff.2 hne
   obtain ⟨b, off, spot⟩ := a
   have hs : spot = none := by simpa [Addr.add] using World.cell?_spot (hx 0 (by omega)).1
   subst hs
   refine ⟨b, off, rfl, trivial, fun i hi => ?_⟩
   have := (hx i (by omega)).1
   rw [addr_add] at this
   rw [this, (hxs i hi).1]
  ·obtain ⟨i, hi, rfl⟩ := List.mem_iff_getElem.1 hy
   exact (hxs i hi).2
theorem open_ints_rd {fuel : Nat} {cs : List Value} {x : DataW H × List MemPlace} (h : DataW.trod enc Tryz.prog w base spare held fuel 22 cs = some x) :
  ∃ v xs, cs = [v] ∧ Rd (Value.int .i64) w (fun _ => True) v xs ∧ ∀ z ∈ xs, (Lit.int .i64 z).wf = true :=
 rd_of_slice1 (f := Value.int .i64) (Q := fun z => (Lit.int .i64 z).wf = true) Tryz.underlying22 (by kernel_rfl) (fun n v y hy => by
  obtain ⟨s, h1, _, h2⟩ := DataW.trod_int Tryz.underlying3 hy
  simp at h1
  exact ⟨s, h1, h2⟩) h
end
theorem bounds_int {n : Int} (h : (Lit.int .i64 n).wf = true) : -9223372036854775808 ≤ n ∧ n ≤ 9223372036854775807 := by
 simp only [Lit.wf, Bool.and_eq_true, decide_eq_true_eq] at h
 exact h
end Go.Proofs.YtodckaioeomccaaGreat
