/- Rows of events, and limits, that came in. Slices of ints that came in. -/
import Derived.Test.YtfondpakbiagjaaGreatDoorHKit
import Derived.Test.YtfondpakbiagjaaGreatDoorRdK
import Derived.Deep.Slices
import Derived.Deep.Fields
import Derived.ChangeSame
import Derived.OpenShut
namespace Go.Proofs.YtfondpakbiagjaaGreatDoor
open Go.RowKit Go.ChangeShapes Go.WideShapes Go.Deep
set_option linter.unusedVariables false
theorem list_of_lt {α : Type} {P : Nat → α → Prop} {n : Nat} (h : ∀ i, i < n → ∃ a, P i a) : ∃ xs : List α, xs.length = n ∧ ∀ (i : Nat) (x : α), xs[i]? = some x → P i x := by
  induction n with
  | zero => exact ⟨[], rfl, fun i x h => by simp at h⟩
  | succ k ih =>
    obtain ⟨ys, hl, hy⟩ := ih fun i hi => h i (by omega)
    obtain ⟨a, ha⟩ := h k (by omega)
    refine ⟨ys ++ [a], by simp [hl], fun i z hz => ?_⟩
    rcases Nat.lt_or_ge i ys.length with hi | hi
    · rw [List.getElem?_append_left hi] at hz; exact hy i z hz
    · have hi' : i = ys.length := by have := (List.getElem?_eq_some_iff.1 hz).1; simp at this; omega
      subst hi'
      rw [List.getElem?_append_right (Nat.le_refl _)] at hz
      simp at hz
      subst hz
      rw [hl]
      exact ha
abbrev I64 (x : Int) : Prop := -9223372036854775808 ≤ x ∧ x ≤ 9223372036854775807
theorem bounds_int {n : Int} (h : (Lit.int .i64 n).wf = true) : -9223372036854775808 ≤ n ∧ n ≤ 9223372036854775807 := by
  simp only [Lit.wf, Bool.and_eq_true, decide_eq_true_eq] at h
  exact h
/-- An event. -/
structure EvD where
  day : Int
  kind : Int
  place : Int
def evC (e : EvD) : List Value := [.int .i64 e.day, .int .i64 e.kind, .int .i64 e.place]
theorem evC_len (e : EvD) : (evC e).length = 3 := rfl
theorem evC_0 (e : EvD) : ∃ u, (evC e)[0]? = some u := ⟨_, rfl⟩
structure EvWf (e : EvD) : Prop where
  a : I64 e.day
  b : I64 e.kind
  c : I64 e.place
def RdE (w : World) (v : Value) (xs : List EvD) : Prop := RdK 3 evC w (fun _ => True) v xs
theorem RdE.below {w w' : World} {v : Value} {xs : List EvD} (h : RdE w v xs) (hb : Below w.heap.size w w') : RdE w' v xs := RdK.below h evC_0 hb
theorem RdE.at {w : World} {v : Value} {xs : List EvD} (h : RdE w v xs) : ∃ A cap, v = .slice A xs.length cap ∧ xs.length ≤ 9223372036854775807 ∧
    ∀ k p, xs[k]? = some p → ∃ b off, A = some ⟨b, off, none⟩ ∧ b < w.heap.size ∧ w.rangeAt b (off + k * 3) (evC p) := by
  obtain ⟨A, cap, rfl, h1, h2, h3⟩ := h
  refine ⟨A, cap, rfl, by unfold maxLen at h2; omega, fun k p hp => ?_⟩
  obtain ⟨b, off, rfl, -, hc⟩ := h3 (fun e => by rw [e] at hp; simp at hp)
  exact ⟨b, off, rfl, World.block_lt_of_cell? w ⟨b, _, none⟩ (hc k p hp 0 _ rfl), fun j v hv => hc k p hp j v hv⟩
section
variable {H : Type} {enc : TypeId × Value → H} {w : World} {base : Nat} {spare : Nat → Bool} {held : Bool}
set_option maxRecDepth 100000 in
theorem open_event {fuel : Nat} {cs : List Value} {y : DataW H × List MemPlace} (h : DataW.trod enc Tryz.prog w base spare held fuel 62 cs = some y) :
    ∃ e : EvD, cs = evC e ∧ EvWf e := by
  obtain ⟨ys, n, _, _, hl, _, hf⟩ := DataW.trod_struct Tryz.underlying62 h
  have hl2 : cs.length = 3 := hl.trans (by kernel_rfl)
  match cs, hl2 with
  | [c0, c1, c2], _ =>
    have o9 : Tryz.prog.cellsOf 3 = 1 := by kernel_rfl
    have h0 : DataW.trod enc Tryz.prog w base spare held n 3 (([c0, c1, c2].drop 0).take (Tryz.prog.cellsOf 3)) = ys[0]? := hf 0 _ rfl
    have h1 : DataW.trod enc Tryz.prog w base spare held n 3 (([c0, c1, c2].drop 1).take (Tryz.prog.cellsOf 3)) = ys[1]? := hf 1 _ rfl
    have h2 : DataW.trod enc Tryz.prog w base spare held n 3 (([c0, c1, c2].drop 2).take (Tryz.prog.cellsOf 3)) = ys[2]? := hf 2 _ rfl
    rw [o9] at h0 h1 h2
    have e : ys.length = 3 := by assumption
    match ys, e with
    | [y0, y1, y2], _ =>
      replace h0 : DataW.trod enc Tryz.prog w base spare held n 3 [c0] = some y0 := h0
      replace h1 : DataW.trod enc Tryz.prog w base spare held n 3 [c1] = some y1 := h1
      replace h2 : DataW.trod enc Tryz.prog w base spare held n 3 [c2] = some y2 := h2
      obtain ⟨s, a1, _, a2⟩ := DataW.trod_int Tryz.underlying3 h0
      obtain ⟨k, b1, _, b2⟩ := DataW.trod_int Tryz.underlying3 h1
      obtain ⟨l, d1, _, d2⟩ := DataW.trod_int Tryz.underlying3 h2
      simp at a1 b1 d1
      subst a1 b1 d1
      exact ⟨⟨s, k, l⟩, rfl, bounds_int a2, bounds_int b2, bounds_int d2⟩
set_option maxRecDepth 100000 in
theorem open_limits {fuel : Nat} {cs : List Value} {y : DataW H × List MemPlace} (h : DataW.trod enc Tryz.prog w base spare held fuel 59 cs = some y) :
    ∃ a b c d : Int, cs = [.int .i64 a, .int .i64 b, .int .i64 c, .int .i64 d] ∧ I64 a ∧ I64 b ∧ I64 c ∧ I64 d := by
  obtain ⟨ys, n, _, _, hl, _, hf⟩ := DataW.trod_struct Tryz.underlying59 h
  have hl2 : cs.length = 4 := hl.trans (by kernel_rfl)
  match cs, hl2 with
  | [c0, c1, c2, c3], _ =>
    have o9 : Tryz.prog.cellsOf 3 = 1 := by kernel_rfl
    have h0 : DataW.trod enc Tryz.prog w base spare held n 3 (([c0, c1, c2, c3].drop 0).take (Tryz.prog.cellsOf 3)) = ys[0]? := hf 0 _ rfl
    have h1 : DataW.trod enc Tryz.prog w base spare held n 3 (([c0, c1, c2, c3].drop 1).take (Tryz.prog.cellsOf 3)) = ys[1]? := hf 1 _ rfl
    have h2 : DataW.trod enc Tryz.prog w base spare held n 3 (([c0, c1, c2, c3].drop 2).take (Tryz.prog.cellsOf 3)) = ys[2]? := hf 2 _ rfl
    have h3 : DataW.trod enc Tryz.prog w base spare held n 3 (([c0, c1, c2, c3].drop 3).take (Tryz.prog.cellsOf 3)) = ys[3]? := hf 3 _ rfl
    rw [o9] at h0 h1 h2 h3
    have e : ys.length = 4 := by assumption
    match ys, e with
    | [y0, y1, y2, y3], _ =>
      replace h0 : DataW.trod enc Tryz.prog w base spare held n 3 [c0] = some y0 := h0
      replace h1 : DataW.trod enc Tryz.prog w base spare held n 3 [c1] = some y1 := h1
      replace h2 : DataW.trod enc Tryz.prog w base spare held n 3 [c2] = some y2 := h2
      replace h3 : DataW.trod enc Tryz.prog w base spare held n 3 [c3] = some y3 := h3
      obtain ⟨s, a1, _, a2⟩ := DataW.trod_int Tryz.underlying3 h0
      obtain ⟨k, b1, _, b2⟩ := DataW.trod_int Tryz.underlying3 h1
      obtain ⟨l, d1, _, d2⟩ := DataW.trod_int Tryz.underlying3 h2
      obtain ⟨m, f1, _, f2⟩ := DataW.trod_int Tryz.underlying3 h3
      simp at a1 b1 d1 f1
      subst a1 b1 d1 f1
      exact ⟨s, k, l, m, rfl, bounds_int a2, bounds_int b2, bounds_int d2, bounds_int f2⟩
theorem open_events {fuel : Nat} {cs : List Value} {y : DataW H × List MemPlace} (h : DataW.trod enc Tryz.prog w base spare held fuel 57 cs = some y) :
    ∃ v xs, cs = [v] ∧ RdE w v xs ∧ ∀ x ∈ xs, EvWf x := by
  rcases open_slice Tryz.underlying57 h with ⟨rfl, _⟩ | ⟨a, len, cap, m, n, D, Pl, rfl, hb, hl, hcm, hm, _, hx⟩
  · exact ⟨_, [], rfl, ⟨none, 0, rfl, Nat.le_refl _, by simp [maxLen], fun h => absurd rfl h⟩, by simp⟩
  · have o2 : Tryz.prog.cellsOf 62 = 3 := by kernel_rfl
    rw [o2] at hx
    have hlm : len ≤ m := by rw [hm]; split <;> omega
    have hA : ∀ i, i < len → ∃ x : EvD, w.cells? base (a.add (i * 3)) 3 = some (evC x) ∧ EvWf x := fun i hi => by
      obtain ⟨cs', h1, h2⟩ := hx i (by omega)
      obtain ⟨x, rfl, h3⟩ := open_event h2
      exact ⟨x, h1, h3⟩
    obtain ⟨xs, hxl, hxs⟩ := list_of_lt hA
    refine ⟨_, xs, rfl, ⟨some a, cap, by rw [hxl], by omega, hcm, fun hne => ?_⟩, fun y hy => ?_⟩
    · obtain ⟨x, l, hxx⟩ := List.exists_cons_of_ne_nil hne
      obtain ⟨b, off, spot⟩ := a
      have hs : spot = none := by
        obtain ⟨h1, _⟩ := hxs 0 x (by rw [hxx]; rfl)
        have := (World.cells?_some h1).2.2 0 (by omega)
        simpa [Addr.add] using World.cell?_spot this
      subst hs
      refine ⟨b, off, rfl, trivial, fun i x hi j u hu => ?_⟩
      obtain ⟨h1, _⟩ := hxs i x hi
      have hj : j < 3 := (List.getElem?_eq_some_iff.1 hu).1
      have hc := (World.cells?_some h1).2.2 j hj
      rw [addr_add, addr_add] at hc
      rw [hc]
      simp only [evC] at hu
      rcases (by omega : j = 0 ∨ j = 1 ∨ j = 2) with rfl | rfl | rfl <;> (simp at hu; subst hu; rfl)
    · obtain ⟨i, hi, rfl⟩ := List.mem_iff_getElem.1 hy
      exact (hxs i _ (List.getElem?_eq_getElem hi)).2
end
end Go.Proofs.YtfondpakbiagjaaGreatDoor
namespace Go.Proofs.YtfondpakbiagjaaGreatDoor
open Go.RowKit Go.ChangeShapes Go.WideShapes Go.Deep
set_option linter.unusedVariables false
section
variable {H : Type} {enc : TypeId × Value → H} {w : World} {base : Nat} {spare : Nat → Bool} {held : Bool}
theorem rd_of_slice1 {α : Type} {f : α → Value} {Q : α → Prop} {t e : TypeId} {fuel : Nat} {cs : List Value} {x : DataW H × List MemPlace} (ht : Tryz.prog.underlying t = some (.slice e)) (hc : Tryz.prog.cellsOf e = 1)
    (hel : ∀ n v y, DataW.trod enc Tryz.prog w base spare held n e [v] = some y → ∃ a, v = f a ∧ Q a) (h : DataW.trod enc Tryz.prog w base spare held fuel t cs = some x) :
    ∃ v xs, cs = [v] ∧ Rd f w (fun _ => True) v xs ∧ ∀ a ∈ xs, Q a := by
  rcases open_slice1 ht hc h with ⟨rfl, _⟩ | ⟨a, len, cap, m, n, V, D, Pl, rfl, hb, hl, hcm, hm, _, hx⟩
  · exact ⟨_, [], rfl, Rd.none_ _ _ _, by simp⟩
  · have hlm : len ≤ m := by rw [hm]; split <;> omega
    have hA : ∀ i, i < len → ∃ a', V i = f a' ∧ Q a' := fun i hi => hel n _ _ (hx i (by omega)).2
    obtain ⟨xs, hxl, hxs'⟩ := list_of_lt hA
    have hxs : ∀ i (h : i < xs.length), V i = f xs[i] ∧ Q xs[i] := fun i h => hxs' i _ (List.getElem?_eq_getElem h)
    refine ⟨_, xs, rfl, ⟨some a, cap, by rw [hxl], by omega, hcm, fun hne => ?_⟩, fun y hy => ?_⟩
    · have h0 : 0 < len := by rw [← hxl]; exact List.length_pos_iff.2 hne
      obtain ⟨b, off, spot⟩ := a
      have hs : spot = none := by simpa [Addr.add] using World.cell?_spot (hx 0 (by omega)).1
      subst hs
      refine ⟨b, off, rfl, trivial, fun i hi => ?_⟩
      have := (hx i (by omega)).1
      rw [addr_add] at this
      rw [this, (hxs i hi).1]
    · obtain ⟨i, hi, rfl⟩ := List.mem_iff_getElem.1 hy
      exact (hxs i hi).2
theorem open_ints_rd {fuel : Nat} {cs : List Value} {x : DataW H × List MemPlace} (h : DataW.trod enc Tryz.prog w base spare held fuel 31 cs = some x) :
    ∃ v xs, cs = [v] ∧ Rd (Value.int .i64) w (fun _ => True) v xs ∧ ∀ z ∈ xs, (Lit.int .i64 z).wf = true :=
  rd_of_slice1 (f := Value.int .i64) (Q := fun z => (Lit.int .i64 z).wf = true) Tryz.underlying31 (by kernel_rfl) (fun n v y hy => by
    obtain ⟨s, h1, _, h2⟩ := DataW.trod_int Tryz.underlying3 hy
    simp at h1
    exact ⟨s, h1, h2⟩) h
end
end Go.Proofs.YtfondpakbiagjaaGreatDoor
