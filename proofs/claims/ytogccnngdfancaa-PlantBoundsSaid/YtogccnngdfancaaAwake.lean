/- The walk of awake: the example of the chapter. -/
import Derived.Test.YtogccnngdfancaaTouched
import Derived.Test.YtogccnngdfancaaEnter
import Derived.Test.YtogccnngdfancaaBd
import Derived.Test.YtogccnngdfancaaCodes
namespace Go.Proofs.Ytogccnngdfancaa
open Go.RowKit Pl

theorem Bk.foot {w : World} {B : Nat} {p : Value} {F : Nat → Prop} {xs : List ItemD} (h : Bk w B p F xs) : ∀ k, F k → B ≤ k ∧ k < w.heap.size := by
  obtain ⟨bb, vi, r, fs, rfl, hb⟩ := h
  intro k hk
  rw [hb.hF] at hk
  rcases hk with rfl | hk | hk
  · exact ⟨hb.hB, (Array.getElem?_eq_some_iff.1 hb.blk).1⟩
  · exact hb.own.lt k hk
  · refine ⟨hb.hr k hk, ?_⟩
    rcases hb.map with ⟨e, _⟩ | ⟨b, e, hm⟩
    · rw [e] at hk; cases hk
    · rw [e] at hk; cases hk; exact hm.lt
theorem new_book (w : World) (B : Nat) (hB : B ≤ w.heap.size) : Bk (w.alloc (.cells #[.slice none 0 0, .map none] 79)) B (.pointer (some ⟨w.heap.size, 0, none⟩)) (fun k => k = w.heap.size ∨ (Value.slice none 0 0).ownBlock = some k ∨ (none : Option Nat) = some k) [] :=
  ⟨w.heap.size, .slice none 0 0, none, [], rfl, hB, heap_alloc_new w _, World.ownsRow_nil _ _ _ _, rfl, (by simp [Value.ownBlock]), .inl ⟨rfl, rfl⟩, (fun b h => by cases h), rfl, (fun i x hx => by simp at hx)⟩

set_option maxHeartbeats 400000 in
theorem new_any (w : World) : Calls Try.prog 14 #[] w fun e w' => e = .returned (.pointer (some ⟨w.heap.size, 0, none⟩)) ∧ w.alloc (.cells #[.slice none 0 0, .map none] 79) = w' := by
  go_enter Try.func14, Try.ntmps14
  go_wp2_with fail
  go_ret
  exact ⟨rfl, rfl⟩

def exA : ItemD := ⟨⟨#[97]⟩, 0, 0, []⟩
def exC : ItemD := ⟨⟨#[99]⟩, 1, 7, [[⟨#[97]⟩]]⟩
def exF : FaultD := ⟨⟨#[97]⟩, 5, 9⟩
theorem ex_seal : SealOut [65, 49] [65, 49, 88] 0 := by
  refine .inr ⟨by decide, by decide, .inr ⟨rfl, ?_, 88, rfl, by decide +kernel, by decide +kernel⟩⟩
  intro c hc
  simp at hc
  rcases hc with rfl | rfl <;> decide +kernel
theorem ex_a : entErr [] exA = 0 := by decide +kernel
theorem ex_a' : entNew [] exA = [exA] := by unfold entNew; rw [if_pos ex_a]; rfl
theorem ex_c : entErr [exA] exC = 0 := by decide +kernel
theorem ex_c' : entNew [exA] exC = [exA, exC] := by unfold entNew; rw [if_pos ex_c]; rfl
theorem ex_f : faultErr [exA, exC] exF = 0 := by decide +kernel
theorem ex_n : namesOf [exA, exC] (touchedMs [exA, exC] exF) = [⟨#[99]⟩] := by decide +kernel
theorem ex_found : Found [exA, exC] := by
  intro x hx c hc nm hnm
  simp at hx
  rcases hx with rfl | rfl
  · simp [exA] at hc
  · simp [exC] at hc; subst hc; simp at hnm; subst hnm; exact ⟨by decide, by decide +kernel⟩
theorem seal_ex1 (w : World) : Calls Try.prog 13 #[.string ⟨#[65, 49]⟩] w fun e w' => e = .returned (.tuple #[.string ⟨#[65, 49, 88]⟩, .int .i64 0]) ∧ Below w.heap.size w w' :=
  (seal_any ⟨#[65, 49]⟩ w).mono fun e w' ⟨r, c, he, hs, _, hb⟩ => by
    obtain ⟨h1, h2⟩ := hs.same ex_seal
    have : r = ⟨#[65, 49, 88]⟩ := ba_inj h1
    subst this h2
    exact ⟨he, hb⟩

theorem max5_ex (w : World) : (Builtin.max_ #[28, 28, 28, 28, 28] 28 #[Value.int IntKind.i64 0, Value.int IntKind.i64 0, Value.int IntKind.i64 0, Value.int IntKind.i64 0, Value.int IntKind.i64 0]).run Try.prog w = .ok (.int .i64 0) w := by kernel_rfl
def exW : WorksD := ⟨1, 10, [20, 20], [2, 2], [1, 1]⟩
theorem rd_two (W : World) (S : Nat → Prop) (b : Nat) (x y : Int) (t : TypeId) (hb : S b) (h : W.heap[b]? = some (.cells #[.int .i64 x, .int .i64 y] t)) : Rd (Value.int .i64) W S (.slice (some ⟨b, 0, none⟩) 2 2) [x, y] :=
  ⟨_, 2, rfl, Nat.le_refl _, by simp [maxLen], fun _ => ⟨b, 0, rfl, hb, fun i hi => by
    match i, hi with
    | 0, _ => exact cell_of_row W _ 0 _ _ _ h
    | 1, _ => exact cell_of_row W _ 1 _ _ _ h⟩⟩
theorem exW_new (w : World) : WkV (((w.alloc (.cells #[.int .i64 20, .int .i64 20] 3)).alloc (.cells #[.int .i64 2, .int .i64 2] 3)).alloc (.cells #[.int .i64 1, .int .i64 1] 3)) (fun _ => True) (.agg #[.int .i64 1, .int .i64 10, .slice (some ⟨w.heap.size, 0, none⟩) 2 2, .slice (some ⟨w.heap.size + 1, 0, none⟩) 2 2, .slice (some ⟨w.heap.size + 1 + 1, 0, none⟩) 2 2]) exW := by
  obtain ⟨W, hW⟩ : ∃ W, W = ((w.alloc (.cells #[.int .i64 20, .int .i64 20] 3)).alloc (.cells #[.int .i64 2, .int .i64 2] 3)).alloc (.cells #[.int .i64 1, .int .i64 1] 3) := ⟨_, rfl⟩
  have m0 : W.heap[w.heap.size]? = some (.cells #[.int .i64 20, .int .i64 20] 3) := by rw [hW, Below.heap_alloc _ _ _ (by simp; omega), Below.heap_alloc _ _ _ (by simp)]; exact heap_alloc_new w _
  have m1 : W.heap[w.heap.size + 1]? = some (.cells #[.int .i64 2, .int .i64 2] 3) := by rw [hW, Below.heap_alloc _ _ _ (by simp)]; have := heap_alloc_new (w.alloc (.cells #[.int .i64 20, .int .i64 20] 3)) (.cells #[.int .i64 2, .int .i64 2] 3); simpa using this
  have m2 : W.heap[w.heap.size + 1 + 1]? = some (.cells #[.int .i64 1, .int .i64 1] 3) := by rw [hW]; have := heap_alloc_new ((w.alloc (.cells #[.int .i64 20, .int .i64 20] 3)).alloc (.cells #[.int .i64 2, .int .i64 2] 3)) (.cells #[.int .i64 1, .int .i64 1] 3); simpa using this
  rw [← hW]
  exact ⟨_, _, _, rfl, rd_two W _ _ _ _ _ trivial m0, rd_two W _ _ _ _ _ trivial m1, rd_two W _ _ _ _ _ trivial m2⟩
theorem exW_err : wErr exW = 0 := by decide +kernel
theorem exW_bound : boundW exW = 90 := by decide +kernel
theorem bound_ex (w : World) : Calls Try.prog 10 #[.agg #[.int .i64 1, .int .i64 10, .slice (some ⟨w.heap.size, 0, none⟩) 2 2, .slice (some ⟨w.heap.size + 1, 0, none⟩) 2 2, .slice (some ⟨w.heap.size + 1 + 1, 0, none⟩) 2 2]] (((w.alloc (.cells #[.int .i64 20, .int .i64 20] 3)).alloc (.cells #[.int .i64 2, .int .i64 2] 3)).alloc (.cells #[.int .i64 1, .int .i64 1] 3)) fun e w' => e = .returned (.tuple #[.int .i64 90, .int .i64 0]) ∧ Below (w.heap.size + 3) (((w.alloc (.cells #[.int .i64 20, .int .i64 20] 3)).alloc (.cells #[.int .i64 2, .int .i64 2] 3)).alloc (.cells #[.int .i64 1, .int .i64 1] 3)) w' := by
  have h := Bound_any _ exW _ _ (exW_new w)
  rw [exW_err, if_pos rfl, exW_bound] at h
  refine h.mono ?_
  rintro e w' ⟨h1, h2⟩
  exact ⟨h1, by simpa using h2⟩

set_option maxRecDepth 100000 in
set_option maxHeartbeats 2000000 in
theorem awake_any (w : World) : Calls Try.prog 6 #[] w fun e w' => e = .returned (.bool true) ∧ Below w.heap.size w w' := by
  obtain ⟨B, hB⟩ : ∃ B, B = w.heap.size := ⟨_, rfl⟩
  rw [← hB]
  go_enter Try.func6, Try.ntmps6
  go_wp2_with fail
  refine (seal_ex1 _).mono ?_
  rintro e w1 ⟨rfl, hb1⟩
  go_wp2_with fail
  refine (new_any _).mono ?_
  rintro e w2 ⟨rfl, hw2⟩
  have hbk2 := new_book w1 B (by have := hb1.size; omega)
  rw [hw2] at hbk2
  have hb2 : Below B w w2 := by rw [← hw2]; exact (hb1.mono (by omega)).alloc (by have := hb1.size; omega) _
  obtain ⟨p, hp⟩ : ∃ p, p = Value.pointer (some ⟨w1.heap.size, 0, none⟩) := ⟨_, rfl⟩
  obtain ⟨F2, hF2⟩ : ∃ F2, F2 = (fun k => k = w1.heap.size ∨ (Value.slice none 0 0).ownBlock = some k ∨ (none : Option Nat) = some k) := ⟨_, rfl⟩
  rw [← hF2, ← hp] at hbk2
  rw [← hp]
  clear hF2 hp hw2 hb1
  go_wp2_with fail
  have hB2 : B ≤ w2.heap.size := by have := hb2.size; omega
  refine (enter_any p (.slice none 0 0) B F2 (fun _ => False) [] exA w2 hbk2 ⟨[], Rd.none_ _ _ _, rfl, by simp [exA]⟩ (fun k h => h.elim) (by decide) (by simp [exA]) hB2 (by decide)).mono ?_
  rintro e w3 ⟨rfl, F3, hbk3, hk3, hF3⟩
  rw [ex_a'] at hbk3
  rw [ex_a]
  have hf2 := hbk2.foot
  have hb3 : Below B w w3 := hb2.trans (Keep.below (hk3.mono fun k hk => ⟨by omega, fun h => by have := (hf2 k h).1; omega⟩))
  clear hk3 hF3 hbk2 hf2 hb2 hB2
  go_wp2_with fail
  have hf3 := hbk3.foot
  have hs3 := hb3.size
  obtain ⟨W, hW⟩ : ∃ W, W = (w3.alloc (.cells #[.string ⟨#[97]⟩] 9)).alloc (.cells #[.slice (some ⟨w3.heap.size, 0, none⟩) 1 1] 58) := ⟨_, rfl⟩
  have hbW : Below w3.heap.size w3 W := by rw [hW]; exact ((Below.refl _ _).alloc (Nat.le_refl _) _).alloc (by simp) _
  have hm1 : W.heap[w3.heap.size]? = some (.cells #[.string ⟨#[97]⟩] 9) := by rw [hW, Below.heap_alloc _ _ _ (by simp)]; exact heap_alloc_new w3 _
  have hm2 : W.heap[w3.heap.size + 1]? = some (.cells #[.slice (some ⟨w3.heap.size, 0, none⟩) 1 1] 58) := by rw [hW]; have := heap_alloc_new (w3.alloc (.cells #[.string ⟨#[97]⟩] 9)) (.cells #[.slice (some ⟨w3.heap.size, 0, none⟩) 1 1] 58); simpa using this
  rw [← hW]
  have hv2 : Rd2 W (w3.heap.size ≤ ·) (.slice (some ⟨w3.heap.size + 1, 0, none⟩) 1 1) exC.frm := by
    refine ⟨[.slice (some ⟨w3.heap.size, 0, none⟩) 1 1], ⟨_, 1, rfl, Nat.le_refl _, by simp [maxLen], fun _ => ⟨w3.heap.size + 1, 0, rfl, by omega, fun i hi => ?_⟩⟩, rfl, fun i x hx => ?_⟩
    · simp at hi; subst hi; exact cell_of_row W _ 0 _ _ _ hm2
    · match i with
      | 0 =>
        simp [exC] at hx; subst hx
        refine ⟨_, rfl, ⟨_, 1, rfl, Nat.le_refl _, by simp [maxLen], fun _ => ⟨w3.heap.size, 0, rfl, Nat.le_refl _, fun i hi => ?_⟩⟩⟩
        simp at hi; subst hi; exact cell_of_row W _ 0 _ _ _ hm1
      | i + 1 => simp [exC] at hx
  have hBW : B ≤ W.heap.size := by have := hbW.size; omega
  refine (enter_any p _ B F3 (w3.heap.size ≤ ·) [exA] exC W (hbk3.below hbW) hv2 (fun k h hF => by have := (hf3 k hF).2; omega) (by decide) (by intro c hc s hs; simp [exC] at hc; subst hc; simp at hs; subst hs; decide) hBW (by decide)).mono ?_
  rintro e w4 ⟨rfl, F4, hbk4, hk4, hF4⟩
  rw [ex_c'] at hbk4
  rw [ex_c]
  have hb4 : Below B w w4 := hb3.trans ((hbW.mono (by omega)).trans (Keep.below (hk4.mono fun k hk => ⟨by omega, fun h => by have := (hf3 k h).1; omega⟩)))
  clear hk4 hF4 hv2 hbk3 hf3 hb3 hm1 hm2 hbW hW hs3 hBW
  go_wp2_with fail
  refine (Touched_any p B F4 [exA, exC] exF w4 hbk4 ex_found (by decide) (by decide)).mono ?_
  rintro e w5 ⟨⟨v, rfl, hr⟩, hb5⟩
  rw [ex_f] at hr ⊢
  rw [if_pos rfl, ex_n] at hr
  obtain ⟨A, n, cap, rfl, hn, hcap, hmax, hc⟩ := hr.lt.open_
  simp at hn
  subst hn
  obtain ⟨b, off, x, rfl, ⟨_, hbl⟩, hx, hcell⟩ := hc 0 (by omega)
  simp at hx
  subst hx
  have hs4 := hb4.size
  have hb5' : Below B w w5 := hb4.trans (hb5.mono (by omega))
  clear hbk4 hr hc hb5 hb4
  go_wp2_with fail
  refine (bound_ex w5).mono ?_
  rintro e w6 ⟨rfl, hb6⟩
  have hb56 : Below w5.heap.size w5 w6 := ((((Below.refl _ w5).alloc (Nat.le_refl _) _).alloc (by simp) _).alloc (by simp; omega) _).trans (hb6.mono (by simp))
  have hcell6 : w6.cell? ⟨b, off, none⟩ = some (.string ⟨#[99]⟩) := (hb56.cell (p := ⟨b, off, none⟩) hbl).trans hcell
  have hs5 := hb5'.size
  clear hb6 hcell
  have h5 := max5_ex
  go_wp2_with fail
  go_ret
  exact ⟨rfl, hb5'.trans (hb56.mono (by omega))⟩
end Go.Proofs.Ytogccnngdfancaa
