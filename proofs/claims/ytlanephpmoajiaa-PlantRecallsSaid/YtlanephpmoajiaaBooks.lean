/- The walk of books: the program's book and the reference's one hold the same items. -/
import Derived.Test.YtlanephpmoajiaaRefEnter
import Derived.Test.YtlanephpmoajiaaAwake
import Derived.OwnWalk
import Derived.Deep.RegionHeld3
namespace Go.Proofs.Ytlanephpmoajiaa
open Go.RowKit

/-- The items that are entered, out of a list. -/
def entAll (xs : List ItemD) : List ItemD := xs.foldl entNew []
theorem entNew_len (xs : List ItemD) (x : ItemD) : (entNew xs x).length ≤ xs.length + 1 := by
  unfold entNew; split <;> simp
theorem entAll_snoc (xs : List ItemD) (x : ItemD) : entAll (xs ++ [x]) = entNew (entAll xs) x := by unfold entAll; simp
theorem foldl_ent_len (xs acc : List ItemD) : (xs.foldl entNew acc).length ≤ acc.length + xs.length := by
  induction xs generalizing acc with
  | nil => simp
  | cons x xs ih => simp only [List.foldl_cons, List.length_cons]; have := ih (entNew acc x); have := entNew_len acc x; omega
theorem entAll_len (xs : List ItemD) : (entAll xs).length ≤ xs.length := by have := foldl_ent_len xs []; simpa [entAll] using this

/-- The two books with the same items. -/
def Two (w wr : World) (p bv : Value) (acc : List ItemD) : Prop := ∃ F, Bk wr w.heap.size p F acc ∧ RdI wr (fun k => ¬ F k) bv acc ∧ Below w.heap.size w wr
theorem Two.step {w wr w6 w7 w8 : World} {p bv' : Value} {F F7 : Nat → Prop} {acc : List ItemD} {x : ItemD} (hbk : Bk wr w.heap.size p F acc) (hbw : Below w.heap.size w wr) (h6 : Below wr.heap.size wr w6)
    (hbk7 : Bk w7 w.heap.size p F7 (entNew acc x)) (hk7 : Keep (fun k => k < w6.heap.size ∧ ¬ F k) w6 w7)
    (hb8 : Below w7.heap.size w7 w8) (hr8 : RdI w8 (fun k => (¬ F7 k) ∨ k < w.heap.size ∨ w7.heap.size ≤ k) bv' (entNew acc x)) : Two w w8 p bv' (entNew acc x) := by
  have hf := hbk.foot
  have hf7 := hbk7.foot
  have hb7 : Below w.heap.size w w7 := (hbw.trans (h6.mono hbw.size)).trans (Keep.below (hk7.mono fun k hk => ⟨by have := h6.size; have := hbw.size; omega, fun h => by have := (hf k h).1; omega⟩))
  refine ⟨F7, hbk7.below hb8, hr8.mono fun k hk hF => ?_, hb7.trans (hb8.mono hb7.size)⟩
  have := hf7 k hF
  rcases hk with h | h | h
  · exact h hF
  · omega
  · omega
theorem Two.ref {wr w6 w7 : World} {bv : Value} {F F7 : Nat → Prop} {acc : List ItemD} (hr : RdI wr (fun k => ¬ F k) bv acc) (h6 : Below wr.heap.size wr w6)
    (hk7 : Keep (fun k => k < w6.heap.size ∧ ¬ F k) w6 w7) (hF7 : ∀ k, F7 k → F k ∨ w6.heap.size ≤ k) : RdI w7 (fun k => ¬ F7 k) bv acc := by
  have h1 : RdI w6 (fun k => ¬ F k ∧ k < wr.heap.size) bv acc := hr.lt.keep ((Keep.of_below h6).mono fun k hk => hk.2)
  refine (h1.keep (hk7.mono fun k hk => ⟨by have := h6.size; omega, hk.1⟩)).mono fun k hk h => ?_
  rcases hF7 k h with h | h
  · exact hk.1 h
  · have := h6.size; omega

theorem Rd2.isSlice {w : World} {S : Nat → Prop} {f : Value} {xss : List (List ByteArray)} (h : Rd2 w S f xss) : ∃ A n c, f = .slice A n c := let ⟨_, ⟨A, cap, e, _⟩, _⟩ := h; ⟨A, _, cap, e⟩
/-- What copied leaves for a round of books. -/
def BkCop (wr : World) (frm : List (List ByteArray)) (o : Obj) (e : Ending) (w6 : World) : Prop :=
  ∃ A6 n6 c6, e = .returned (.slice A6 n6 c6) ∧ Rd2 w6 (wr.heap.size ≤ ·) (.slice A6 n6 c6) frm ∧ Below wr.heap.size wr w6 ∧ w6.heap[wr.heap.size]? = some o
def BooksPost (w : World) (xs : List ItemD) (e : Ending) (w' : World) : Prop := ∃ p bv, e = .returned (.tuple #[p, bv, .bool true]) ∧ Two w w' p bv (entAll xs)

set_option maxRecDepth 100000 in
set_option maxHeartbeats 4000000 in
theorem books_any (v : Value) (xs : List ItemD) (S : Nat → Prop) (w : World) (hv : RdI w S v xs) (hf : Few xs) :
    Calls Try.prog 21 #[v] w (BooksPost w xs) := by
  obtain ⟨A, n, cap, rfl, hn, hcap, hmax, hc⟩ := hv.lt.open_
  have HC := Lib.hid hc
  have HN := Lib.hid hn
  have HF := Lib.hid hf
  have hn24 : n ≤ 24 := by have := hf.len; omega
  clear hc hn hf hv
  go_enter Try.func21, Try.ntmps21
  go_wp2_with fail
  refine (new_any _).mono ?_
  rintro e w2 ⟨rfl, hw2⟩
  have hbk2 := new_book w w.heap.size (Nat.le_refl _)
  rw [hw2] at hbk2
  have hb2 : Below w.heap.size w w2 := by rw [← hw2]; exact (Below.refl _ w).alloc (Nat.le_refl _) _
  have H2 : Hid (Two w w2 (.pointer (some ⟨w.heap.size, 0, none⟩)) (.slice none 0 0) (entAll [])) := ⟨_, hbk2, ⟨none, 0, rfl, Nat.le_refl _, by simp [maxLen], fun h => absurd rfl h⟩, hb2⟩
  obtain ⟨p, hp⟩ : ∃ p, p = Value.pointer (some ⟨w.heap.size, 0, none⟩) := ⟨_, rfl⟩
  rw [← hp] at H2 ⊢
  clear hw2 hbk2 hb2 hp
  go_wp2_with fail
  go_loopw [6, 7, 15] (fun bv ok iv wr => ∃ k : Nat, k ≤ n ∧ iv = .int .i64 k ∧ ok = .bool true ∧ Two w wr p bv (entAll (xs.take k))) (fun _ _ iv _ => n - (intOf iv).toNat)
  case atStart => exact ⟨0, Nat.zero_le _, rfl, rfl, by rw [List.take_zero]; exact H2.out⟩
  case round =>
    clear H2
    obtain ⟨k, hk, rfl, rfl, F, hbk, hrd, hbw⟩ := hrel
    by_cases hlt : k < n
    · obtain ⟨b, off, x, f, rfl, ⟨_, hb⟩, hx, c0, c1, c2, c3, hfr⟩ := HC.out k hlt
      have d0 : wr.cell? ⟨b, off + k * 4, none⟩ = _ := (hbw.cell (p := ⟨b, _, none⟩) hb).trans c0
      have d1 : wr.cell? ⟨b, off + k * 4 + 1, none⟩ = _ := (hbw.cell (p := ⟨b, _, none⟩) hb).trans c1
      have d2 : wr.cell? ⟨b, off + k * 4 + 2, none⟩ = _ := (hbw.cell (p := ⟨b, _, none⟩) hb).trans c2
      have d3 : wr.cell? ⟨b, off + k * 4 + 3, none⟩ = _ := (hbw.cell (p := ⟨b, _, none⟩) hb).trans c3
      have hsm := HF.out.each x (mem_of_get? hx)
      have hacc : (entAll (xs.take k)).length ≤ 24 := by have := entAll_len (xs.take k); have := List.length_take_le k xs; omega
      have hnext : entAll (xs.take (k + 1)) = entNew (entAll (xs.take k)) x := by rw [take_snoc? hx, entAll_snoc]
      obtain ⟨acc, hac⟩ : ∃ acc, acc = entAll (xs.take k) := ⟨_, rfl⟩
      rw [← hac] at hbk hrd hacc hnext
      have HNEXT := Lib.hid hnext
      have hfr' : Rd2 wr (fun b => b < w.heap.size) f x.frm := (hfr.keep ((Keep.of_below hbw).mono fun k hk => hk.2)).mono fun k hk => hk.2
      obtain ⟨Af, nf, cf, rfl⟩ := hfr'.isSlice
      obtain ⟨nm, kd, a, frm⟩ := x
      simp only at *
      obtain ⟨e0, he0⟩ : ∃ e0, e0 = entErr acc ⟨nm, kd, a, frm⟩ := ⟨_, rfl⟩
      have HE0 := Lib.hid he0
      obtain ⟨wX, hwXe⟩ : ∃ wX, wX = wr.alloc (.cells #[.string nm, .int .i64 kd, .int .i64 a, .slice Af nf cf] 25) := ⟨_, rfl⟩
      have hwX : Below wr.heap.size wr wX := by rw [hwXe]; exact (Below.refl _ wr).alloc (Nat.le_refl _) _
      have hboxX : wX.heap[wr.heap.size]? = some (.cells #[.string nm, .int .i64 kd, .int .i64 a, .slice Af nf cf] 25) := by rw [hwXe]; exact heap_alloc_new wr _
      have hsX : wX.heap.size = wr.heap.size + 1 := by rw [hwXe]; simp
      have HCOP : Hid (∀ q, Calls Try.prog 58 #[.slice Af nf cf] (wX.drewN q) (BkCop wr frm (.cells #[.string nm, .int .i64 kd, .int .i64 a, .slice Af nf cf] 25))) := fun q =>
        (copied58_any (.slice Af nf cf) frm (fun b => b < w.heap.size) (wX.drewN q) (((hfr'.below hwX)).below (below_drewN (Below.refl _ _) q)) (by have := hsm.frm; simp only at this; omega) (fun c hc => by have := hsm.cs c hc; omega)).mono fun e w6 ⟨⟨v', h1, h2⟩, h3⟩ => by
          obtain ⟨A6, n6, c6, rfl⟩ := h2.isSlice
          have h4 : (wX.drewN q).heap = wX.heap := by simp
          rw [h4] at h2 h3
          exact ⟨A6, n6, c6, h1, h2.mono fun k hk => by omega, hwX.trans ((Below.trans (below_drewN (Below.refl _ wX) q) h3).mono (by omega)), (h3.block _ (by omega)).trans (by rw [h4]; exact hboxX)⟩
      have HENT : Hid (∀ w6 v6, Below wr.heap.size wr w6 → Rd2 w6 (wr.heap.size ≤ ·) v6 frm → Calls Try.prog 18 #[p, .agg #[.string nm, .int .i64 kd, .int .i64 a, v6]] w6 (EnterPost w6 w.heap.size p F acc ⟨nm, kd, a, frm⟩)) := fun w6 v6 h1 h2 =>
        enter_any p v6 w.heap.size F (wr.heap.size ≤ ·) acc ⟨nm, kd, a, frm⟩ w6 (hbk.below h1) h2 (fun k hk hF => by have := (hbk.foot k hF).2; omega) (by have := hsm.name; simp only at this ⊢; unfold maxLen; omega) (fun c hc s hs => by have := hsm.ns c hc s hs; unfold maxLen; omega) (by have := h1.size; have := hbw.size; omega) (by omega)
      have HBK := Lib.hid hbk
      have HRD := Lib.hid hrd
      have HFR := Lib.hid hfr'
      have HBW := Lib.hid hbw
      have HWXE := Lib.hid hwXe
      clear hac hnext c0 c1 c2 c3 hx hfr he0 hbk hrd hfr' hwXe
      go_wp2_with fail
      rw [← HWXE.out]
      have x0 := cell_of_row wX _ 0 _ _ _ hboxX
      have x1 := cell_of_row wX _ 1 _ _ _ hboxX
      have x2 := cell_of_row wX _ 2 _ _ _ hboxX
      have x3 := cell_of_row wX _ 3 _ _ _ hboxX
      clear d0 d1 d2 d3
      clear hsm
      go_region_held3 (fun w' => w'.cell? ⟨wr.heap.size, 0, none⟩ = some (.string nm) ∧ w'.cell? ⟨wr.heap.size, 1, none⟩ = some (.int .i64 kd) ∧ w'.cell? ⟨wr.heap.size, 2, none⟩ = some (.int .i64 a) ∧ w'.cell? ⟨wr.heap.size, 3, none⟩ = some (.slice Af nf cf)) (first | exact ⟨x0, x1, x2, x3⟩ | exact ⟨y0, y1, y2, y3⟩ | exact ⟨z0, z1, z2, z3⟩)
        (first | (go_at_call 58; refine (HCOP.out _).mono ?_; rintro e w6 ⟨A6, n6, c6, rfl, hr6, h6, hbox6⟩; have y0 := cell_of_row w6 _ 0 _ _ _ hbox6; have y1 := cell_of_row w6 _ 1 _ _ _ hbox6; have y2 := cell_of_row w6 _ 2 _ _ _ hbox6; have y3 := cell_of_row w6 _ 3 _ _ _ hbox6) | (go_at_call 18; refine (HENT.out w6 _ h6 hr6).mono ?_; rintro e w7 ⟨rfl, F7, hbk7, hk7, hF7⟩; rw [← HE0.out]; have hlt6 : wr.heap.size < w6.heap.size := (Array.getElem?_eq_some_iff.1 hbox6).1; have hbox7 := (hk7.block wr.heap.size ⟨hlt6, fun h => by have := (HBK.out.foot _ h).2; omega⟩).trans hbox6; have z0 := cell_of_row w7 _ 0 _ _ _ hbox7; have z1 := cell_of_row w7 _ 1 _ _ _ hbox7; have z2 := cell_of_row w7 _ 2 _ _ _ hbox7; have z3 := cell_of_row w7 _ 3 _ _ _ hbox7))
      all_goals
        have hr7 := Two.ref HRD.out h6 hk7 hF7
        have hfr7 : Rd2 w7 (fun b => b < w.heap.size) (.slice Af nf cf) frm := ((HFR.out.below h6).keep (hk7.mono fun k hk => ⟨by have := h6.size; have := HBW.out.size; omega, fun h => by have := (HBK.out.foot _ h).1; omega⟩))
        have HREF := Lib.hid (refEnter_any _ _ acc ⟨nm, kd, a, frm⟩ _ _ w7 hr7 hfr7 hacc)
        clear hr7 hfr7 hbox7
        go_wp2_with (go_at_call 20; refine HREF.out.mono ?_; rintro e w8 ⟨⟨bv', rfl, hr8⟩, hb8⟩; rw [← HE0.out])
        have hst := Two.step HBK.out HBW.out h6 hbk7 hk7 hb8 hr8
        go_roundw
        case rel => exact ⟨k + 1, by omega, by go_num, rfl, by rw [HNEXT.out]; exact hst⟩
        case measure => simp [intOf]; omega
    · go_wp2_with fail
      go_ret3
      have h1 : xs.take k = xs := List.take_of_length_le (by have := HN.out; omega)
      rw [h1] at hbk hrd
      exact ⟨p, _, rfl, F, hbk, hrd, hbw⟩
end Go.Proofs.Ytlanephpmoajiaa
