/- Walks of layer 10: within, storable, content, Pack of acts without text and waveform. -/
import Derived.Test.YtfondpakbiagjaaGreatDoorHByt
import Derived.Test.YtfondpakbiagjaaGreatDoorHKit
namespace Go.Proofs.YtfondpakbiagjaaGreatDoor
open Go.RowKit
set_option linter.unusedVariables false
set_option linter.unusedSimpArgs false
set_option maxRecDepth 100000
set_option maxHeartbeats 4000000
theorem within_yes (n lo hi : Int) (w : World) (h1 : lo ≤ n) (h2 : n ≤ hi) : Calls Tryz.prog 43 #[.int .i64 n, .int .i64 lo, .int .i64 hi] w fun e w' => e = .returned (.bool true) ∧ w' = w := by
  have h3 : ¬ n < lo := by omega
  have h4 : ¬ hi < n := by omega
  go_enter Tryz.func43, Tryz.ntmps43
  go_wp2_with fail
  go_ret
  exact ⟨rfl, rfl⟩
/-- An act without text and waveform. -/
structure ActD where
  kind : Int
  from_ : Int
  to_ : Int
  n : Int
/-- An act as a value. -/
def actV (a : ActD) (t : ByteArray) : Value := .agg #[.int .i64 a.kind, .int .i64 a.from_, .int .i64 a.to_, .int .i64 a.n, .string t, .slice none 0 0]
def ActD.ok (a : ActD) : Prop := (0 ≤ a.kind ∧ a.kind ≤ 255) ∧ (0 ≤ a.from_ ∧ a.from_ ≤ 1000000) ∧ (0 ≤ a.to_ ∧ a.to_ ≤ 1000000) ∧ (0 ≤ a.n ∧ a.n ≤ 1000000)
theorem storable_yes (a : ActD) (t : ByteArray) (w : World) (h : a.ok) (ht : t.size ≤ 200) : Calls Tryz.prog 131 #[actV a t] w fun e w' => e = .returned (.bool true) ∧ Below w.heap.size w w' := by
  obtain ⟨k, f, u, n⟩ := a
  obtain ⟨⟨h1, h2⟩, ⟨h3, h4⟩, ⟨h5, h6⟩, h7, h8⟩ := h
  obtain ⟨W1, HW1, HB1, HS1, j1⟩ := st_al0 w #[.int .i64 k, .int .i64 f, .int .i64 u, .int .i64 n, .string t, .slice none 0 0] 154
  have HK := Lib.hid (fun W => within_yes k 0 255 W h1 h2)
  have HF := Lib.hid (fun W => within_yes f 0 1000000 W h3 h4)
  have HT := Lib.hid (fun W => within_yes u 0 1000000 W h5 h6)
  have HN := Lib.hid (fun W => within_yes n 0 1000000 W h7 h8)
  have HJ := Lib.hid j1
  have c1 := kC HB1 1 rfl
  have c2 := kC HB1 2 rfl
  have c3 := kC HB1 3 rfl
  have c4 := kC HB1 4 rfl
  have c5 := kC HB1 5 rfl
  clear h1 h2 h3 h4 h5 h6 h7 h8 HS1 j1 HB1
  have hts : ¬ 200 < (t.size : Int) := by omega
  show Calls _ _ #[.agg #[.int .i64 k, .int .i64 f, .int .i64 u, .int .i64 n, .string t, .slice none 0 0]] _ _
  go_enter Tryz.func131, Tryz.ntmps131
  go_wp2_with fail
  rw [← HW1.out]
  refine (HK.out _).mono ?_
  rintro e w1 ⟨rfl, hw⟩
  obtain rfl := hw.symm
  clear hw
  go_wp2_with fail
  refine (HF.out _).mono ?_
  rintro e w1 ⟨rfl, hw⟩
  obtain rfl := hw.symm
  clear hw
  go_wp2_with fail
  refine (HT.out _).mono ?_
  rintro e w1 ⟨rfl, hw⟩
  obtain rfl := hw.symm
  clear hw
  go_wp2_with fail
  refine (HN.out _).mono ?_
  rintro e w1 ⟨rfl, hw⟩
  obtain rfl := hw.symm
  clear hw
  go_wp2_with fail
  go_ret
  exact ⟨rfl, HJ.out⟩
end Go.Proofs.YtfondpakbiagjaaGreatDoor
