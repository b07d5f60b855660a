/- The walk of Book.Get. -/
import Derived.Test.YtlanephpmoajiaaUsesPlain
namespace Go.Proofs.Ytlanephpmoajiaa
open Go.RowKit

/-- What Get leaves. -/
def GetPost (w : World) (xs : List ItemD) (nm : ByteArray) (e : Ending) (w' : World) : Prop :=
  ((idx xs nm = none ∧ e = .returned (.tuple #[.agg #[.string ⟨#[]⟩, .int .i64 0, .int .i64 0, .slice none 0 0], .int .i64 5])) ∨
    ∃ (i : Nat) (x : ItemD) (vf : Value), idx xs nm = some i ∧ xs[i]? = some x ∧ e = .returned (.tuple #[.agg #[.string x.name, .int .i64 x.kind, .int .i64 x.at_, vf], .int .i64 0]) ∧ Own2 w' w.heap.size vf x.frm) ∧ Below w.heap.size w w'
/-- Four stores into a block of the call's own. -/
theorem stored4 {W : World} {b : Nat} {t : TypeId} {a0 a1 a2 a3 : Value} (h : W.heap[b]? = some (.cells #[a0, a1, a2, a3] t (0, 0))) (v0 v1 v2 v3 : Value) :
    ((((W.setCell ⟨b, 0, none⟩ v0).setCell ⟨b, 1, none⟩ v1).setCell ⟨b, 2, none⟩ v2).setCell ⟨b, 3, none⟩ v3).heap[b]? = some (.cells #[v0, v1, v2, v3] t (0, 0)) ∧
      Keep (fun k => k < W.heap.size ∧ k ≠ b) W ((((W.setCell ⟨b, 0, none⟩ v0).setCell ⟨b, 1, none⟩ v1).setCell ⟨b, 2, none⟩ v2).setCell ⟨b, 3, none⟩ v3) :=
  ⟨heap_setCell_same _ _ 3 _ t _ (heap_setCell_same _ _ 2 _ t _ (heap_setCell_same _ _ 1 _ t _ (heap_setCell_same W _ 0 _ t _ h))),
    (((((Keep.refl _ W).setCell (fun h => h.2 rfl) _).setCell (fun h => h.2 rfl) _).setCell (fun h => h.2 rfl) _).setCell (fun h => h.2 rfl) _)⟩
theorem Own2.kept {w w' : World} {B r : Nat} {vf : Value} {xss : List (List ByteArray)} (h : Own2 w B vf xss) (hk : Keep (fun k => k < w.heap.size ∧ k ≠ r) w w') (hr : r < B) : Own2 w' B vf xss := by
  have gr : w.grownBy w' (some r) := ⟨hk.os, hk.tape, hk.output, hk.size, fun b hb hne => hk.block b ⟨hb, fun e => hne (by rw [e])⟩⟩
  obtain ⟨vs, h1, h2⟩ := h
  refine ⟨vs, ownsRow_kept_below h1 gr hr, fun i x hx => ?_⟩
  obtain ⟨u, hu, h3, h4⟩ := h2 i x hx
  exact ⟨u, hu, ownsRow_kept_below h3 gr hr, h4⟩
theorem Own2.mono {w : World} {B B' : Nat} {vf : Value} {xss : List (List ByteArray)} (h : Own2 w B vf xss) (hb : B' ≤ B) : Own2 w B' vf xss := by
  obtain ⟨vs, h1, h2⟩ := h
  refine ⟨vs, ownsRow_mono h1 hb, fun i x hx => ?_⟩
  obtain ⟨u, hu, h3, h4⟩ := h2 i x hx
  exact ⟨u, hu, ownsRow_mono h3 hb, h4⟩
set_option maxRecDepth 100000 in
set_option maxHeartbeats 1000000 in
theorem Get_any (p : Value) (B : Nat) (F : Nat → Prop) (xs : List ItemD) (nm : ByteArray) (w : World) (hb : Bk w B p F xs) (hok : ∀ x ∈ xs, SmallI x) (hnm : nm.size ≤ maxLen) :
    Calls Try.prog 19 #[p, .string nm] w (GetPost w xs nm) := by
  have hfi := fun w' (h : Below w.heap.size w w') => find_any p B F xs nm w' (hb.below h) hnm
  have hw0 : Below w.heap.size w (w.alloc (.cells #[.string ⟨#[]⟩, .int .i64 0, .int .i64 0, .slice none 0 0] 37)) := (Below.refl _ w).alloc (Nat.le_refl _) _
  have hm0 := heap_alloc_new w (.cells #[.string ⟨#[]⟩, .int .i64 0, .int .i64 0, .slice none 0 0] 37)
  obtain ⟨W1, hW1⟩ : ∃ W1, W1 = w.alloc (.cells #[.string ⟨#[]⟩, .int .i64 0, .int .i64 0, .slice none 0 0] 37) := ⟨_, rfl⟩
  rw [← hW1] at hw0 hm0
  have HW1 := Lib.hid hW1
  clear hW1
  have HFI := Lib.hid hfi
  have HB := Lib.hid hb
  obtain ⟨bb, vi, r, fs, rfl, hbk⟩ := hb
  clear hfi
  cases hi : idx xs nm with
  | none =>
    have hf : findErr xs nm = 5 := by simp [findErr, hi]
    have hx : idxI xs nm = 0 := by simp [idxI, hi]
    rw [hf, hx] at HFI
    have HI := Lib.hid hi
    clear hi hf hx hbk
    go_enter Try.func19, Try.ntmps19
    go_wp2_with fail
    rw [← HW1.out]
    refine (HFI.out _ hw0).mono ?_
    rintro e w' ⟨rfl, rfl⟩
    have c0 := cell_of_row W1 _ 0 _ _ _ hm0
    have c1 := cell_of_row W1 _ 1 _ _ _ hm0
    have c2 := cell_of_row W1 _ 2 _ _ _ hm0
    have c3 := cell_of_row W1 _ 3 _ _ _ hm0
    have f0 := frozen_of_row W1 w.heap.size 0 _ _ hm0
    have f1 := frozen_of_row W1 w.heap.size 1 _ _ hm0
    have f2 := frozen_of_row W1 w.heap.size 2 _ _ hm0
    have f3 := frozen_of_row W1 w.heap.size 3 _ _ hm0
    go_wp2_with fail
    obtain ⟨s1, s2⟩ := stored4 hm0 (.string ⟨#[]⟩) (.int .i64 0) (.int .i64 0) (.slice none 0 0)
    obtain ⟨w4, hw4⟩ : ∃ w4, w4 = ((((W1.setCell ⟨w.heap.size, 0, none⟩ (.string ⟨#[]⟩)).setCell ⟨w.heap.size, 1, none⟩ (.int .i64 0)).setCell ⟨w.heap.size, 2, none⟩ (.int .i64 0)).setCell ⟨w.heap.size, 3, none⟩ (.slice none 0 0)) := ⟨_, rfl⟩
    rw [← hw4] at s1 s2 ⊢
    have q0 := cell_of_row w4 _ 0 _ _ _ s1
    have q1 := cell_of_row w4 _ 1 _ _ _ s1
    have q2 := cell_of_row w4 _ 2 _ _ _ s1
    have q3 := cell_of_row w4 _ 3 _ _ _ s1
    refine bodyPost_ret (v := .tuple #[.agg #[.string ⟨#[]⟩, .int .i64 0, .int .i64 0, .slice none 0 0], .int .i64 5]) (by simp [results, Try.results19, go_sem, q0, q1, q2, q3]) rfl ⟨.inl ⟨HI.out, rfl⟩, ?_⟩
    exact hw0.trans (Keep.below (s2.mono (S' := (· < w.heap.size)) fun k hk => ⟨by have := hw0.size; omega, by omega⟩))
  | some i =>
    obtain ⟨x, hx, -⟩ := idx_get hi
    have hil := idx_lt hi
    have hf : findErr xs nm = 0 := by simp [findErr, hi]
    have hii : idxI xs nm = i := by simp [idxI, hi]
    rw [hf, hii] at HFI
    obtain ⟨g, cp, fv, rfl, hgc, hg1, hg2, i0, i1, i2, i3, hfr⟩ := (hbk.below hw0).item hx
    have e0 := (hbk.below hw0).cell0
    have hsm := hok x (mem_of_get? hx)
    obtain ⟨xn, xk, xa, xf⟩ := x
    simp only at i0 i1 i2 hfr
    have HCP := Lib.hid (copied_any xn xk xa fv xf _ W1 hfr (by have := hsm.frm; simp only at this; omega) (fun c hc => by have := hsm.cs c hc; omega))
    obtain ⟨len, hlen⟩ : ∃ len, len = xs.length := ⟨_, rfl⟩
    rw [← hlen] at hil hgc e0
    have HI := Lib.hid hi
    have HX := Lib.hid hx
    clear hi hx hf hii hbk hsm hlen hfr
    go_enter Try.func19, Try.ntmps19
    go_wp2_with fail
    rw [← HW1.out]
    refine (HFI.out _ hw0).mono ?_
    rintro e w' ⟨rfl, rfl⟩
    go_wp2_with fail
    refine HCP.out.mono ?_
    rintro e w5 ⟨⟨vf', rfl, ho⟩, hb5⟩
    obtain ⟨A6, c6, rfl⟩ := ho.slice
    have hm5 := (hb5.block _ (Array.getElem?_eq_some_iff.1 hm0).1).trans hm0
    have c0 := cell_of_row w5 _ 0 _ _ _ hm5
    have c1 := cell_of_row w5 _ 1 _ _ _ hm5
    have c2 := cell_of_row w5 _ 2 _ _ _ hm5
    have c3 := cell_of_row w5 _ 3 _ _ _ hm5
    have f0 := frozen_of_row w5 w.heap.size 0 _ _ hm5
    have f1 := frozen_of_row w5 w.heap.size 1 _ _ hm5
    have f2 := frozen_of_row w5 w.heap.size 2 _ _ hm5
    have f3 := frozen_of_row w5 w.heap.size 3 _ _ hm5
    obtain ⟨fl, hfl⟩ : ∃ fl, fl = xf.length := ⟨_, rfl⟩
    rw [← hfl] at ho ⊢
    have HO := Lib.hid ho
    have HFL := Lib.hid hfl
    clear ho hfl
    go_wp2_with fail
    obtain ⟨s1, s2⟩ := stored4 hm5 (.string xn) (.int .i64 xk) (.int .i64 xa) (.slice A6 fl c6)
    obtain ⟨w4, hw4⟩ : ∃ w4, w4 = ((((w5.setCell ⟨w.heap.size, 0, none⟩ (.string xn)).setCell ⟨w.heap.size, 1, none⟩ (.int .i64 xk)).setCell ⟨w.heap.size, 2, none⟩ (.int .i64 xa)).setCell ⟨w.heap.size, 3, none⟩ (.slice A6 fl c6)) := ⟨_, rfl⟩
    rw [← hw4] at s1 s2 ⊢
    have q0 := cell_of_row w4 _ 0 _ _ _ s1
    have q1 := cell_of_row w4 _ 1 _ _ _ s1
    have q2 := cell_of_row w4 _ 2 _ _ _ s1
    have q3 := cell_of_row w4 _ 3 _ _ _ s1
    have hl0 : w.heap.size < W1.heap.size := (Array.getElem?_eq_some_iff.1 hm0).1
    refine bodyPost_ret (v := .tuple #[.agg #[.string xn, .int .i64 xk, .int .i64 xa, .slice A6 fl c6], .int .i64 0]) (by simp [results, Try.results19, go_sem, q0, q1, q2, q3]) rfl ⟨.inr ⟨i, _, _, HI.out, HX.out, rfl, (HO.out.kept s2 hl0).mono (by omega)⟩, ?_⟩
    have hb15 : Below w.heap.size w w5 := hw0.trans (hb5.mono hw0.size)
    exact hb15.trans (Keep.below (s2.mono (S' := (· < w.heap.size)) fun k hk => ⟨by have := hb15.size; omega, by omega⟩))
end Go.Proofs.Ytlanephpmoajiaa
