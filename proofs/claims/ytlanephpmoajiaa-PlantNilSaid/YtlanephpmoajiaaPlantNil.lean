/- The walk of the statement PlantNil. -/
import Derived.Test.YtlanephpmoajiaaNilAll
import Derived.Test.YtlanephpmoajiaaLonger
import Derived.Test.YtlanephpmoajiaaRecall
namespace Go.Proofs.Ytlanephpmoajiaa
open Go.RowKit Go.Shelf
set_option linter.unusedVariables false
attribute [local go_sem] Oper.semAt_some

structure NlW (w : World) (nm : ByteArray) (kd a : Int) (vf : Value) (it : ByteArray) (si un : Int) (wr : World) : Prop where
  bel : Below w.heap.size w wr
  b0 : wr.heap[w.heap.size]? = some (.cells #[.string nm, .int .i64 kd, .int .i64 a, vf] 25)
  b1 : wr.heap[w.heap.size + 1]? = some (.cells #[.string it, .int .i64 si, .int .i64 un] 55)
  b2 : wr.heap[w.heap.size + 1 + 1]? = some (.cells #[.bool false] 4)
section
variable {w wr w2 : World} {nm : ByteArray} {kd a : Int} {vf : Value} {it : ByteArray} {si un : Int}
theorem NlW.lt (h : NlW w nm kd a vf it si un wr) : w.heap.size + 1 + 1 < wr.heap.size := (Array.getElem?_eq_some_iff.1 h.b2).1
theorem NlW.below (h : NlW w nm kd a vf it si un wr) (hb : Below wr.heap.size wr w2) : NlW w nm kd a vf it si un w2 :=
  ⟨h.bel.trans (hb.mono h.bel.size), (hb.block _ (by have := h.lt; omega)).trans h.b0, (hb.block _ (by have := h.lt; omega)).trans h.b1, (hb.block _ h.lt).trans h.b2⟩
theorem nl_new (w : World) (nm : ByteArray) (kd a : Int) (vf : Value) (it : ByteArray) (si un : Int) : NlW w nm kd a vf it si un (((w.alloc (.cells #[.string nm, .int .i64 kd, .int .i64 a, vf] 25)).alloc (.cells #[.string it, .int .i64 si, .int .i64 un] 55)).alloc (.cells #[.bool false] 4)) :=
  ⟨(((Below.refl _ w).alloc (Nat.le_refl _) _).alloc (by simp) _).alloc (by simp; omega) _,
   by rw [Below.heap_alloc _ _ _ (by simp; omega), Below.heap_alloc _ _ _ (by simp)]; exact heap_alloc_new w _,
   by rw [Below.heap_alloc _ _ _ (by simp)]; have := heap_alloc_new (w.alloc (.cells #[.string nm, .int .i64 kd, .int .i64 a, vf] 25)) (.cells #[.string it, .int .i64 si, .int .i64 un] 55); simpa using this,
   by have := heap_alloc_new ((w.alloc (.cells #[.string nm, .int .i64 kd, .int .i64 a, vf] 25)).alloc (.cells #[.string it, .int .i64 si, .int .i64 un] 55)) (.cells #[.bool false] 4); simpa using this⟩
end
theorem rdI_one {w : World} {b : Nat} {t : TypeId} {nm : ByteArray} {kd a : Int} {vf : Value} {fs : List (List ByteArray)} (hm : w.heap[b]? = some (.cells #[.string nm, .int .i64 kd, .int .i64 a, vf] t)) (hv : Rd2 w (fun _ => True) vf fs) :
    RdI w (fun _ => True) (.slice (some ⟨b, 0, none⟩) 1 1) [⟨nm, kd, a, fs⟩] := by
  refine ⟨_, 1, rfl, Nat.le_refl _, by simp [maxLen], fun _ => ⟨b, 0, rfl, trivial, fun i x hx => ?_⟩⟩
  match i, hx with
  | 0, hx =>
    simp at hx
    subst hx
    exact ⟨cell_of_row w _ 0 _ _ _ hm, cell_of_row w _ 1 _ _ _ hm, cell_of_row w _ 2 _ _ _ hm, vf, cell_of_row w _ 3 _ _ _ hm, hv⟩
  | i + 1, hx => simp at hx
/-- The way out of a function with a loop over a function, before the loop. -/
theorem leaveM0 {fn : Func} {R : Ending → World → Prop} {a : Act} {w : World} {v : Value} (hr : (results fn a.tmps).run Try.prog w = .ok v w) (hd : a.defers = []) (hR : R (.returned v) w) : bodyPostM Fence.wide 3 Try.prog fn R .ret a w := by
  show LeavesInM Fence.wide 3 Try.prog fn a.tmps R a.defers .returning w
  rw [hd]
  exact ⟨v, hr, hR⟩
/-- A loop over All of a nil book: no round. -/
theorem range_none {g : Operand} {t : Tmp} {body : Code} {Q : Exit → Act → World → Prop} {a : Act} {w : World} {B : Nat} (hg : a.eval g = .func (.func 63) #[] #[.pointer (some ⟨B, 0, none⟩)]) (hB : B < w.heap.size) (hc : w.cell? ⟨B, 0, none⟩ = some (.pointer none))
    (hdone : ∀ (D : Nat) (W : World), w.heap.size ≤ D → Below w.heap.size w W → W.heap[D]? = some (.deferred (some [])) → Q .normal { a with defers := { target := .collected D, args := #[] } :: a.defers } W) :
    (Code.rangeFunc g #[t] .skip body).wp Try.prog Q a w := by
  refine wpIn_wide.1 (wpIn_rangeFunc_ownG (n := 3) rfl (by decide) hg trivial (enters_of Try.func63 (by kernel_rfl) rfl) (all_nil_stops 2 (by decide) B w.heap.size w hB hc) belowK_t (belowK_b (Nat.le_refl _)) (Below.refl _ _) (fun _ => rfl) (fun _ W => Below w.heap.size w W) (fun _ _ _ => False) (ownFrom_below (Nat.le_refl _) (Nat.le_refl _)) (fun _ _ _ _ _ h _ _ => h) (Below.refl _ _) (fun x => { tmps := a.tmps.setIfInBounds t x, defers := [] }) ?_ ?_ ?_ ?_)
  · intro l x W K hK
    gi_wp2
    simpa using hK
  · intro l pre x W _ h
    exact absurd h (by omega)
  · intro D xs W hD _ hI hK
    exact hdone D W hD hI hK
  · intro D c pre W _ h
    exact h.elim
theorem min7_ex (w : World) : (Builtin.min_ #[35, 35, 35, 35, 35, 35, 35] 35 #[Value.int IntKind.i64 1, Value.int IntKind.i64 1, Value.int IntKind.i64 1, Value.int IntKind.i64 1, Value.int IntKind.i64 1, Value.int IntKind.i64 1, Value.int IntKind.i64 1]).run Try.prog w = .ok (.int .i64 1) w := by kernel_rfl
theorem max7_ex (w : World) : (Builtin.max_ #[35, 35, 35, 35, 35, 35, 35] 35 #[Value.int IntKind.i64 1, Value.int IntKind.i64 1, Value.int IntKind.i64 1, Value.int IntKind.i64 1, Value.int IntKind.i64 1, Value.int IntKind.i64 1, Value.int IntKind.i64 1]).run Try.prog w = .ok (.int .i64 1) w := by kernel_rfl
/-- The way out behind one loop over a function: the mark is taken; the result lies in a cell. -/
theorem leaveM1 {fn : Func} {a : Act} {w W : World} {D b : Nat} (hK : W.heap[D]? = some (.deferred (some []))) (hq : W.cell? ⟨b, 0, none⟩ = some (.bool true)) (hD : w.heap.size ≤ D) (hb : Below w.heap.size w W)
    (hr : ∀ W' : World, W'.cell? ⟨b, 0, none⟩ = some (.bool true) → (results fn a.tmps).run Try.prog W' = .ok (.bool true) W') (hd : a.defers = [{ target := .collected D, args := #[] }]) :
    bodyPostM Fence.wide 3 Try.prog fn (fun e w' => e = .returned (.bool true) ∧ Below w.heap.size w w') .ret a W := by
  show LeavesInM Fence.wide 3 Try.prog fn a.tmps _ a.defers .returning W
  rw [hd]
  refine ⟨by simp, .inl ⟨_, _, rfl, run_takeDeferred hK, ?_⟩⟩
  have hc5 := cell_kept hq (grownBy_putObj' _ D (.deferred none)) (fun r e => by cases e; exact ⟨_, hK, rfl⟩)
  exact ⟨.bool true, hr _ hc5, rfl, hb.trans (belowK_b (w := w) (Nat.le_refl _) W D _ _ hD hK rfl rfl)⟩
set_option maxRecDepth 100000 in
set_option maxHeartbeats 4000000 in
theorem plantNil_any (nm : ByteArray) (kd a : Int) (vf : Value) (fs : List (List ByteArray)) (it : ByteArray) (si un : Int) (way : Value) (ws : List ByteArray) (w : World) (hv : Rd2 w (fun _ => True) vf fs) (hway : Rd .string w (fun _ => True) way ws) (hnm : nm.size ≤ maxLen) :
    Calls Try.prog 14 #[.agg #[.string nm, .int .i64 kd, .int .i64 a, vf], .agg #[.string it, .int .i64 si, .int .i64 un], way] w fun e w' => e = .returned (.bool true) ∧ Below w.heap.size w w' := by
  obtain ⟨Aw, n, cap, rfl, hn, hcap, hmax, hc⟩ := hway.lt.open_
  obtain ⟨Af, nf, cf, rfl⟩ := hv.isSlice
  have HV := Lib.hid hv
  have HL := Lib.hid (nl_new w nm kd a (.slice Af nf cf) it si un)
  obtain ⟨W1, hW1⟩ : ∃ W1, W1 = (((w.alloc (.cells #[.string nm, .int .i64 kd, .int .i64 a, .slice Af nf cf] 25)).alloc (.cells #[.string it, .int .i64 si, .int .i64 un] 55)).alloc (.cells #[.bool false] 4)) := ⟨_, rfl⟩
  rw [← hW1] at HL
  have HW1 := Lib.hid hW1
  have c0 : W1.cell? ⟨w.heap.size, 0, none⟩ = some (.string nm) := cell_of_row W1 _ 0 _ _ _ HL.out.b0
  have c1 : W1.cell? ⟨w.heap.size, 1, none⟩ = some (.int .i64 kd) := cell_of_row W1 _ 1 _ _ _ HL.out.b0
  have c2 : W1.cell? ⟨w.heap.size, 2, none⟩ = some (.int .i64 a) := cell_of_row W1 _ 2 _ _ _ HL.out.b0
  have c3 : W1.cell? ⟨w.heap.size, 3, none⟩ = some (.slice Af nf cf) := cell_of_row W1 _ 3 _ _ _ HL.out.b0
  clear hW1 hc hv hway hn
  refine callsIn_wide.1 (callsIn_of_wp_marks (n := 3) Try.func14 rfl trivial (wpIn_wide.2 ?_) rfl)
  simp only [Try.ntmps14, List.size_toArray, List.length_cons, List.length_nil, Nat.reduceAdd, Nat.reduceSub, Array.replicate_succ, Array.replicate_zero, List.push_toArray, List.append_toArray, List.nil_append, List.cons_append]
  go_wp2_with fail
  rw [← HW1.out]
  have hs1 : W1.heap.size = w.heap.size + 1 + 1 + 1 := by rw [HW1.out]; simp
  obtain ⟨W2, hW2⟩ : ∃ W2, W2 = W1.alloc (.cells #[.string nm, .int .i64 kd, .int .i64 a, .slice Af nf cf] 25) := ⟨_, rfl⟩
  have hb12 : Below W1.heap.size W1 W2 := by rw [hW2]; exact (Below.refl _ _).alloc (Nat.le_refl _) _
  have hm2 : W2.heap[w.heap.size + 1 + 1 + 1]? = some (.cells #[.string nm, .int .i64 kd, .int .i64 a, .slice Af nf cf] 25) := by rw [hW2, ← hs1]; exact heap_alloc_new W1 _
  rw [← hW2]
  refine (few_any _ [⟨nm, kd, a, fs⟩] _ W2 (rdI_one hm2 ((HV.out.below HL.out.bel).below hb12))).mono ?_
  rintro e w2 ⟨b, rfl, hfew, hb2⟩
  have HL2 := Lib.hid ((HL.out.below hb12).below hb2)
  have k2 : w2.cell? ⟨w.heap.size + 1 + 1, 0, none⟩ = some (.bool false) := cell_of_row w2 _ 0 _ _ _ HL2.out.b2
  have g2 : w2.frozen? ⟨w.heap.size + 1 + 1, 0, none⟩ = false := frozen_of_row w2 _ 0 _ _ HL2.out.b2
  clear hW2 hb12 hm2 hfew hb2 c0 c1 c2 c3
  have hcase : (b = false ∨ 20 < n) ∨ (b = true ∧ ¬ 20 < n) := by
    cases b
    · exact .inl (.inl rfl)
    · by_cases h : 20 < n
      · exact .inl (.inr h)
      · exact .inr ⟨rfl, h⟩
  have HEND : Hid (∀ w3, Below w2.heap.size w2 w3 → w3.cell? ⟨w.heap.size + 1 + 1, 0, none⟩ = some (.bool false) ∧ w3.frozen? ⟨w.heap.size + 1 + 1, 0, none⟩ = false ∧ (w3.setCell ⟨w.heap.size + 1 + 1, 0, none⟩ (.bool true)).cell? ⟨w.heap.size + 1 + 1, 0, none⟩ = some (.bool true) ∧ Below w.heap.size w (w3.setCell ⟨w.heap.size + 1 + 1, 0, none⟩ (.bool true))) := fun w3 hb => by
    have h3 := HL2.out.below hb
    have k3 : w3.cell? ⟨w.heap.size + 1 + 1, 0, none⟩ = some (.bool false) := cell_of_row w3 _ 0 _ _ _ h3.b2
    exact ⟨k3, frozen_of_row w3 _ 0 _ _ h3.b2, World.cell?_setCell_same' _ _ _ (by rw [k3]; rfl), h3.bel.setCell (p := ⟨w.heap.size + 1 + 1, 0, none⟩) (by simp; omega) _⟩
  rcases hcase with hcase | ⟨rfl, h20⟩
  · rcases hcase with rfl | h20
    · go_wp2_with (go_at_call 16; refine (awake_any _).mono ?_; rintro e w3 ⟨rfl, hb3⟩; obtain ⟨k3, g3, q3, e3⟩ := HEND.out w3 hb3)
      exact leaveM0 (v := .bool true) (by simp [results, Try.results14, go_sem, q3]) rfl ⟨rfl, e3⟩
    · cases b
      all_goals
        go_wp2_with (go_at_call 16; refine (awake_any _).mono ?_; rintro e w3 ⟨rfl, hb3⟩; obtain ⟨k3, g3, q3, e3⟩ := HEND.out w3 hb3)
        exact leaveM0 (v := .bool true) (by simp [results, Try.results14, go_sem, q3]) rfl ⟨rfl, e3⟩
  · have c0 : w2.cell? ⟨w.heap.size, 0, none⟩ = some (.string nm) := cell_of_row w2 _ 0 _ _ _ HL2.out.b0
    go_wp2_with fail
    refine (get_nil nm w2).mono ?_
    rintro e w3 ⟨rfl, hb3⟩
    have HL3 := Lib.hid (HL2.out.below hb3)
    clear c0 hb3
    obtain ⟨w4, hw4⟩ : ∃ w4, w4 = w3.alloc (.cells #[.string ⟨#[]⟩, .int .i64 0, .int .i64 0, .slice none 0 0] 37) := ⟨_, rfl⟩
    have HL4 := Lib.hid (show NlW w nm kd a (.slice Af nf cf) it si un w4 by rw [hw4]; exact HL3.out.below ((Below.refl _ _).alloc (Nat.le_refl _) _))
    have d0 : (w3.alloc (.cells #[.string ⟨#[]⟩, .int .i64 0, .int .i64 0, .slice none 0 0] 37)).cell? ⟨w.heap.size, 0, none⟩ = some (.string nm) := by rw [← hw4]; exact cell_of_row w4 _ 0 _ _ _ HL4.out.b0
    have HW4 := Lib.hid hw4
    clear hw4
    go_wp2_with fail
    rw [← HW4.out]
    clear d0
    have c0 : w4.cell? ⟨w.heap.size, 0, none⟩ = some (.string nm) := cell_of_row w4 _ 0 _ _ _ HL4.out.b0
    have f0 : w4.cell? ⟨w.heap.size + 1, 0, none⟩ = some (.string it) := cell_of_row w4 _ 0 _ _ _ HL4.out.b1
    have f1 : w4.cell? ⟨w.heap.size + 1, 1, none⟩ = some (.int .i64 si) := cell_of_row w4 _ 1 _ _ _ HL4.out.b1
    have f2 : w4.cell? ⟨w.heap.size + 1, 2, none⟩ = some (.int .i64 un) := cell_of_row w4 _ 2 _ _ _ HL4.out.b1
    refine (sources_nil nm w4).mono ?_
    rintro e w' ⟨rfl, rfl⟩
    go_wp2_with (first | (go_at_call 37; refine (certain_nil nm _).mono ?_; rintro e w' ⟨rfl, rfl⟩) | (go_at_call 23; refine (uses_nil nm _).mono ?_; rintro e w' ⟨rfl, rfl⟩))
    refine (touched_nil it si un w4).mono ?_
    rintro e w5 ⟨rfl, hb5⟩
    have HL5 := Lib.hid (HL4.out.below hb5)
    clear c0 f0 f1 f2 hb5
    have c0 : w5.cell? ⟨w.heap.size, 0, none⟩ = some (.string nm) := cell_of_row w5 _ 0 _ _ _ HL5.out.b0
    have f0 : w5.cell? ⟨w.heap.size + 1, 0, none⟩ = some (.string it) := cell_of_row w5 _ 0 _ _ _ HL5.out.b1
    have f1 : w5.cell? ⟨w.heap.size + 1, 1, none⟩ = some (.int .i64 si) := cell_of_row w5 _ 1 _ _ _ HL5.out.b1
    have f2 : w5.cell? ⟨w.heap.size + 1, 2, none⟩ = some (.int .i64 un) := cell_of_row w5 _ 2 _ _ _ HL5.out.b1
    go_wp2_with (go_at_call 46; refine (recall_nil _).mono ?_; rintro e w' ⟨rfl, rfl⟩)
    refine (trail_nil it si un nm w5).mono ?_
    rintro e w6 ⟨rfl, hb6⟩
    have HL6 := Lib.hid (HL5.out.below hb6)
    clear c0 f0 f1 f2 hb6
    have f0 : w6.cell? ⟨w.heap.size + 1, 0, none⟩ = some (.string it) := cell_of_row w6 _ 0 _ _ _ HL6.out.b1
    have f1 : w6.cell? ⟨w.heap.size + 1, 1, none⟩ = some (.int .i64 si) := cell_of_row w6 _ 1 _ _ _ HL6.out.b1
    have f2 : w6.cell? ⟨w.heap.size + 1, 2, none⟩ = some (.int .i64 un) := cell_of_row w6 _ 2 _ _ _ HL6.out.b1
    have h7 := min7_ex
    have h8 := max7_ex
    go_wp2_with fail
    refine (leads_nil it si un (.slice Aw n cap) w6).mono ?_
    rintro e w7 ⟨rfl, hb7⟩
    have HL7 := Lib.hid (HL6.out.below hb7)
    clear f0 f1 f2 hb7 h7 h8
    go_wp2_with fail
    refine (all_any _ w7 ⟨_, rfl⟩).mono ?_
    rintro e w8 ⟨rfl, hw8⟩
    have hl7 := HL7.out.lt
    have hc8 : w8.cell? ⟨w7.heap.size, 0, none⟩ = some (.pointer none) := by rw [← hw8]; exact cell_of_row _ _ 0 _ _ _ (heap_alloc_new w7 _)
    have HL8 := Lib.hid (show NlW w nm kd a (.slice Af nf cf) it si un w8 by rw [← hw8]; exact HL7.out.below ((Below.refl _ _).alloc (Nat.le_refl _) _))
    have hs8 : w7.heap.size < w8.heap.size := by rw [← hw8]; simp
    clear hw8
    go_wp2_with fail
    refine range_none rfl hs8 hc8 ?_
    intro D w9 hD hb9 hK
    have HL9 := Lib.hid (HL8.out.below hb9)
    have HD : Hid (w.heap.size + 1 + 1 < D) := by show _ < _; omega
    have HK := Lib.hid hK
    have c0 : w9.cell? ⟨w.heap.size, 0, none⟩ = some (.string nm) := cell_of_row w9 _ 0 _ _ _ HL9.out.b0
    have c1 : w9.cell? ⟨w.heap.size, 1, none⟩ = some (.int .i64 kd) := cell_of_row w9 _ 1 _ _ _ HL9.out.b0
    have c2 : w9.cell? ⟨w.heap.size, 2, none⟩ = some (.int .i64 a) := cell_of_row w9 _ 2 _ _ _ HL9.out.b0
    have c3 : w9.cell? ⟨w.heap.size, 3, none⟩ = some (.slice Af nf cf) := cell_of_row w9 _ 3 _ _ _ HL9.out.b0
    clear hs8 hc8 hl7 hD hb9 hK
    go_wp2_with fail
    refine (enter_nil nm kd a (.slice Af nf cf) w9).mono ?_
    rintro e w10 ⟨rfl, hb10⟩
    have HL10 := Lib.hid (HL9.out.below hb10)
    have HKd := Lib.hid ((hb10.block D (Array.getElem?_eq_some_iff.1 HK.out).1).trans HK.out)
    clear c0 c1 c2 c3 hb10 HK
    obtain ⟨w11, hw11⟩ : ∃ w11, w11 = w10.alloc (.cells #[.slice none 0 0, .map none] 32) := ⟨_, rfl⟩
    have HW11 := Lib.hid hw11
    have hb11 : Below w10.heap.size w10 w11 := by rw [hw11]; exact (Below.refl _ _).alloc (Nat.le_refl _) _
    have HL11 := Lib.hid (HL10.out.below hb11)
    have hbk := new_book w10 w10.heap.size (Nat.le_refl _)
    rw [← hw11] at hbk
    obtain ⟨F, hF⟩ : ∃ F, F = (fun k => k = w10.heap.size ∨ (Value.slice none 0 0).ownBlock = some k ∨ (none : Option Nat) = some k) := ⟨_, rfl⟩
    rw [← hF] at hbk
    have HBK := Lib.hid hbk
    have HB11 := Lib.hid hb11
    have c0 : (w10.alloc (.cells #[.slice none 0 0, .map none] 32)).cell? ⟨w.heap.size, 0, none⟩ = some (.string nm) := by rw [← hw11]; exact cell_of_row _ _ 0 _ _ _ HL11.out.b0
    clear hw11 hbk hb11 hF
    go_wp2_with fail
    rw [← HW11.out]
    refine (Get_any _ _ F [] nm w11 HBK.out (by simp) hnm).mono ?_
    rintro e w12 ⟨⟨_, rfl⟩ | ⟨i, x, vf', hi, hx, _⟩, hb12⟩
    · have HL12 := Lib.hid (HL11.out.below hb12)
      have HB12 := Lib.hid (HB11.out.trans (hb12.mono HB11.out.size))
      have HBK2 := Lib.hid (HBK.out.below hb12)
      clear c0 hb12
      go_wp2_with fail
      refine (Recall_any _ _ F [] _ [] (fun _ => True) w12 HBK2.out (by intro x hx; simp at hx) (by simp) ⟨none, 0, rfl, Nat.le_refl _, by simp [maxLen], fun h => absurd rfl h⟩ (by simp)).mono ?_
      rintro e w13 ⟨vr, rfl, hr, hb13⟩
      have HL13 := Lib.hid (HL12.out.below hb13)
      have HB13 := Lib.hid (HB12.out.trans (hb13.mono HB12.out.size))
      have HBK3 := Lib.hid (HBK2.out.below hb13)
      have hz : recallErr [] ([] : List FaultD) = 0 := rfl
      rw [hz, if_pos rfl] at hr
      rw [hz]
      have hno : namesOf [] (recMs [] []) = [] := rfl
      rw [hno] at hr
      obtain ⟨Ar, nr, cr, rfl, hnr, -⟩ := hr.open_
      simp at hnr
      subst hnr
      clear hr hb13
      go_wp2_with fail
      have hf3 := HBK3.out.foot
      refine (enter_any _ (.slice none 0 0) _ F (fun _ => False) [] ⟨⟨#[108, 111, 116]⟩, 0, 0, []⟩ w13 HBK3.out ⟨[], Rd.none_ _ _ _, rfl, by simp⟩ (fun k h => h.elim) (by decide) (by simp) HB13.out.size (by decide)).mono ?_
      rintro e w14 ⟨rfl, F4, -, hk4, -⟩
      have hee : entErr [] ⟨⟨#[108, 111, 116]⟩, 0, 0, []⟩ = 0 := by decide +kernel
      rw [hee]
      have HB14 := Lib.hid (HB13.out.trans (Keep.below (hk4.mono fun k hk => ⟨by have := HB13.out.size; omega, fun h => by have := (hf3 k h).1; omega⟩)))
      clear hf3 hk4
      go_wp2_with fail
      refine (awake_any _).mono ?_
      rintro e w15 ⟨rfl, hb15⟩
      have hb := HB14.out.trans (hb15.mono HB14.out.size)
      have h15 := HL10.out.below hb
      have hK15 := (hb.block D (Array.getElem?_eq_some_iff.1 HKd.out).1).trans HKd.out
      have k3 : w15.cell? ⟨w.heap.size + 1 + 1, 0, none⟩ = some (.bool false) := cell_of_row w15 _ 0 _ _ _ h15.b2
      have g3 : w15.frozen? ⟨w.heap.size + 1 + 1, 0, none⟩ = false := frozen_of_row w15 _ 0 _ _ h15.b2
      have HQ := Lib.hid (World.cell?_setCell_same' w15 ⟨w.heap.size + 1 + 1, 0, none⟩ (.bool true) (by rw [k3]; rfl))
      have HE := Lib.hid (h15.bel.setCell (p := ⟨w.heap.size + 1 + 1, 0, none⟩) (show w.heap.size ≤ w.heap.size + 1 + 1 by omega) (.bool true))
      have HK15 := Lib.hid ((Below.heap_setCell w15 ⟨w.heap.size + 1 + 1, 0, none⟩ (.bool true) D (by have := HD.out; show D ≠ w.heap.size + 1 + 1; omega)).trans hK15)
      clear hb15 hb hK15 h15
      go_wp2_with fail
      refine leaveM1 HK15.out HQ.out (by have := HD.out; omega) HE.out ?_ rfl
      intro W' hq
      simp [results, Try.results14, go_sem, hq]
    · simp at hx
end Go.Proofs.Ytlanephpmoajiaa
