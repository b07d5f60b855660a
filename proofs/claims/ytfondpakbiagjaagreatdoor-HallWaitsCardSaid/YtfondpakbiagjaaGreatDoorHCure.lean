/- The walks of cure and judge. -/
import Derived.Test.YtfondpakbiagjaaGreatDoorHLead
namespace Go.Proofs.YtfondpakbiagjaaGreatDoor
open Go.RowKit Go.Lib
set_option linter.unusedVariables false
set_option linter.unusedSimpArgs false
set_option maxRecDepth 100000
set_option maxHeartbeats 4000000
theorem cure_yes (p : Value) (a : ActD) (t : ByteArray) (b o : Nat) (w : World) (h : w.cell? ⟨b, o + 1, none⟩ = some (.int .i64 1)) (hf : w.frozen? ⟨b, o + 1, none⟩ = false) :
    Calls Tryz.prog 179 #[p, actV a t, .pointer (some ⟨b, o, none⟩)] w fun e w' => e = .returned (.int .i64 0) ∧ ∃ w1, Below w.heap.size w w1 ∧ w' = w1.setCell ⟨b, o + 1, none⟩ (.int .i64 2) := by
  obtain ⟨W1, HW1, HB1, HS1, j1⟩ := st_al0 w #[.int .i64 a.kind, .int .i64 a.from_, .int .i64 a.to_, .int .i64 a.n, .string t, .slice none 0 0] 154
  have hb := cell_lt h
  have HC : Hid (W1.cell? ⟨b, o + 1, none⟩ = some (.int .i64 1) ∧ W1.frozen? ⟨b, o + 1, none⟩ = false) := ⟨(j1.cell (p := ⟨b, o + 1, none⟩) hb).trans h, (j1.frozen (p := ⟨b, o + 1, none⟩) hb).trans hf⟩
  have HJ := Lib.hid j1
  clear h hf hb HB1 HS1 j1
  show Calls _ _ #[p, .agg #[.int .i64 a.kind, .int .i64 a.from_, .int .i64 a.to_, .int .i64 a.n, .string t, .slice none 0 0], .pointer (some ⟨b, o, none⟩)] _ _
  go_enter Tryz.func179, Tryz.ntmps179
  go_wp2_with fail
  rw [← HW1.out]
  refine (lead_yes b o 1 2 _ HC.out.1 HC.out.2).mono ?_
  rintro e w2 ⟨rfl, hw⟩
  have HW := Lib.hid hw
  clear hw HW1
  go_wp2_with fail
  go_ret
  exact ⟨rfl, W1, HJ.out, HW.out⟩
theorem cure_no (p : Value) (a : ActD) (t : ByteArray) (b o : Nat) (s : Int) (w : World) (h : w.cell? ⟨b, o + 1, none⟩ = some (.int .i64 s)) (hs : s ≠ 1) :
    Calls Tryz.prog 179 #[p, actV a t, .pointer (some ⟨b, o, none⟩)] w fun e w' => e = .returned (.int .i64 100) ∧ Below w.heap.size w w' := by
  obtain ⟨W1, HW1, HB1, HS1, j1⟩ := st_al0 w #[.int .i64 a.kind, .int .i64 a.from_, .int .i64 a.to_, .int .i64 a.n, .string t, .slice none 0 0] 154
  have hb := cell_lt h
  have HC : Hid (W1.cell? ⟨b, o + 1, none⟩ = some (.int .i64 s)) := (j1.cell (p := ⟨b, o + 1, none⟩) hb).trans h
  have HS := Lib.hid hs
  have HJ := Lib.hid j1
  clear h hb HB1 HS1 j1 hs
  show Calls _ _ #[p, .agg #[.int .i64 a.kind, .int .i64 a.from_, .int .i64 a.to_, .int .i64 a.n, .string t, .slice none 0 0], .pointer (some ⟨b, o, none⟩)] _ _
  go_enter Tryz.func179, Tryz.ntmps179
  go_wp2_with fail
  rw [← HW1.out]
  refine (lead_no b o s 1 2 _ HC.out HS.out).mono ?_
  rintro e w2 ⟨rfl, hw⟩
  obtain rfl := hw.symm
  clear hw HW1
  go_wp2_with fail
  go_ret
  exact ⟨rfl, HJ.out⟩
theorem judge_good (p : Value) (a : ActD) (t : ByteArray) (b o : Nat) (w : World) (hn : a.n = 0) (h : w.cell? ⟨b, o + 1, none⟩ = some (.int .i64 2)) (hf : w.frozen? ⟨b, o + 1, none⟩ = false) :
    Calls Tryz.prog 180 #[p, actV a t, .pointer (some ⟨b, o, none⟩)] w fun e w' => e = .returned (.int .i64 0) ∧ ∃ w1, Below w.heap.size w w1 ∧ w' = w1.setCell ⟨b, o + 1, none⟩ (.int .i64 3) := by
  obtain ⟨k, f, u, n⟩ := a
  obtain rfl : n = 0 := hn
  obtain ⟨W1, HW1, HB1, HS1, j1⟩ := st_al0 w #[.int .i64 k, .int .i64 f, .int .i64 u, .int .i64 0, .string t, .slice none 0 0] 154
  have hb := cell_lt h
  have HC : Hid (W1.cell? ⟨b, o + 1, none⟩ = some (.int .i64 2) ∧ W1.frozen? ⟨b, o + 1, none⟩ = false) := ⟨(j1.cell (p := ⟨b, o + 1, none⟩) hb).trans h, (j1.frozen (p := ⟨b, o + 1, none⟩) hb).trans hf⟩
  have HJ := Lib.hid j1
  have ix : ∀ w, (Instr.index 306 (.agg #[.int .i64 3, .int .i64 4, .int .i64 8]) (.int .i64 0)).run Tryz.prog w = .ok (.int .i64 3) w := fun _ => by kernel_rfl
  clear h hf hb HB1 HS1 j1
  show Calls _ _ #[p, .agg #[.int .i64 k, .int .i64 f, .int .i64 u, .int .i64 0, .string t, .slice none 0 0], .pointer (some ⟨b, o, none⟩)] _ _
  go_enter Tryz.func180, Tryz.ntmps180
  go_wp2_with fail
  rw [← HW1.out]
  refine (lead_yes b o 2 3 _ HC.out.1 HC.out.2).mono ?_
  rintro e w2 ⟨rfl, hw⟩
  have HW := Lib.hid hw
  clear hw HW1 ix
  go_wp2_with fail
  go_ret
  exact ⟨rfl, W1, HJ.out, HW.out⟩
end Go.Proofs.YtfondpakbiagjaaGreatDoor
