/- The walk of a cell's report; Contains; Clone and append of what is asked. -/
import Derived.Test.YtfondpakbiagjaaGreatDoorHWtB
import Derived.Test.YtfondpakbiagjaaGreatDoorHFun
namespace Go.Proofs.YtfondpakbiagjaaGreatDoor
open Go.RowKit
set_option linter.unusedVariables false
set_option linter.unusedSimpArgs false
set_option maxRecDepth 100000
set_option maxHeartbeats 4000000
theorem report_any (c sb B : Nat) (wv mv : Value) (wl : List Nat) (w : World) (hs : w.heap[sb]? = some (.cells #[wv, mv] 108 (0, 0))) (h : OwnC w B wv wl) (hB : sb < B) (hBw : B ≤ w.heap.size) (hl : wl.length ≤ 1000) :
    Calls Tryz.prog 45 #[.pointer (some ⟨sb, 0, none⟩), .chan (some c)] w fun e w' => (∃ v, e = .returned v) ∧ (∃ v', w'.heap[sb]? = some (.cells #[v', mv] 108 (0, 0)) ∧ OwnC w' B v' (kpC c wl)) ∧ Keep (fun k => k < B ∧ k ≠ sb) w w' := by
  obtain ⟨W1, HW1, HB1, HS1, j1⟩ := st_al0 w #[.chan (some c)] 102
  have HSB := kB (Lib.hid hs) j1
  have HO := Lib.hid (h.stay j1)
  have HNB : Hid (∀ k, wv.ownBlock = some k → B ≤ k ∧ k < w.heap.size) := fun k hk => World.ownsRow.lt h k hk
  obtain ⟨A, cap, rfl⟩ := h.slice
  have HJ := Lib.hid j1
  have HBB := Lib.hid hB
  have HBW := Lib.hid hBw
  have HDL := Lib.hid (delC_any _ wl c w.heap.size B W1 HO.out hl (kC HB1 0 rfl) (fun e => by have := (HNB.out _ e).2; omega))
  obtain ⟨n, hn⟩ : ∃ n, n = wl.length := ⟨_, rfl⟩
  rw [← hn] at HSB HO HDL HNB
  have c0 := kC (cs := [.slice A n cap, mv]) HSB 0 rfl
  rw [HW1.out] at c0
  clear hs h hB hBw j1 hl HS1 hn
  go_enter Tryz.func45, Tryz.ntmps45
  go_wp2_with fail
  rw [← HW1.out]
  refine HDL.out.mono ?_
  rintro e w2 ⟨v', rfl, ho', hg, hf⟩
  have HSB2 : Hid (w2.heap[sb]? = some (.cells #[.slice A n cap, mv] 108 (0, 0))) := (hg.block sb (blk_lt HSB.out) (fun e => by have := (HNB.out _ e.symm).1; have := HBB.out; omega)).trans HSB.out
  obtain ⟨A2, cap2, rfl⟩ := ho'.slice
  have HO2 := Lib.hid ho'
  have HG := Lib.hid hg
  obtain ⟨n2, hn2⟩ : ∃ n, n = (kpC c wl).length := ⟨_, rfl⟩
  have HN2 := Lib.hid hn2
  rw [← hn2] at HO2 ⊢
  have d0 := kC (cs := [.slice A n cap, mv]) HSB2 0 rfl
  have f0 := kF HSB2 0
  clear ho' hg hf hn2 c0 HDL
  go_wp2_with fail
  refine bodyPost_end (results_none rfl _ _ _) rfl ?_
  refine ⟨⟨_, rfl⟩, ⟨.slice A2 n2 cap2, ?_, ?_⟩, ?_⟩
  · have := blk_set (i := 0) (.slice A2 n2 cap2) HSB2.out
    simpa using this
  · exact ownsRow_setCell_below HO2.out HBB.out _
  · refine ⟨HG.out.os.trans HJ.out.os, HG.out.tape.trans HJ.out.tape, HG.out.output.trans HJ.out.output, ?_, fun k ⟨hk1, hk2⟩ => ?_⟩
    · have := HG.out.size; have := HJ.out.size; simp [World.setCell]; omega
    · refine (Below.heap_setCell w2 ⟨sb, 0, none⟩ _ k hk2).trans ?_
      refine (HG.out.block k (by have := HBW.out; have := HJ.out.size; omega) (fun e => by have := (HNB.out _ e.symm).1; omega)).trans ?_
      exact HJ.out.block k (by have := HBW.out; omega)
theorem contains_own (v : Value) (l : List Int) (x : Int) (S : Nat → Prop) (w : World) (hv : Rd (Value.int .i64) w S v l) (hl : l.length ≤ 1000) :
    Calls Tryz.prog 44 #[v, .int .i64 x] w fun e w' => e = .returned (.bool (l.contains x)) ∧ w' = w := by
  obtain ⟨A, cap, rfl, h1, h2, h3⟩ := hv
  cases l with
  | nil => exact Tryz.slices_Contains_int_empty A cap x w
  | cons z l =>
    obtain ⟨b, off, rfl, hb, hc⟩ := h3 (by simp)
    have := Tryz.slices_Contains_int b off (z :: l).length cap (z :: l) x w (Nat.le_refl _) (by omega) (fun j hj => by rw [hc j hj, getD_of (List.getElem?_eq_getElem hj)])
    rwa [List.take_length] at this
theorem out1_any (n : Int) (w : World) : Calls Tryz.prog 42 #[.int .i64 n] w fun e w' => e = .returned (.bool (!(decide (0 ≤ n) && decide (n ≤ 31)))) ∧ w' = w := by
  have HW := Lib.hid (withinB n 0 31 w)
  obtain ⟨b, hb⟩ : ∃ b, b = (decide (0 ≤ n) && decide (n ≤ 31)) := ⟨_, rfl⟩
  rw [← hb] at HW ⊢
  clear hb
  go_enter Tryz.func42, Tryz.ntmps42
  go_wp2_with fail
  refine HW.out.mono ?_
  rintro e w1 ⟨rfl, hw⟩
  obtain rfl := hw.symm
  clear hw HW
  go_wp2_with fail
  go_ret
  exact ⟨rfl, rfl⟩
end Go.Proofs.YtfondpakbiagjaaGreatDoor
