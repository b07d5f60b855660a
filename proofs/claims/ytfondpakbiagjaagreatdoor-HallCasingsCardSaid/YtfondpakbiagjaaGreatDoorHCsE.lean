/- The walks of a casing's add (printed by add.py). -/
import Derived.Test.YtfondpakbiagjaaGreatDoorHCsP
namespace Go.Proofs.YtfondpakbiagjaaGreatDoor
open Go.RowKit
set_option linter.unusedVariables false
set_option linter.unusedSimpArgs false
set_option maxRecDepth 100000
set_option maxHeartbeats 4000000
theorem add_day (i cb : Nat) (rv ov : Value) (c : CasD) (k d p : Int) (w : World) (h : CasW w cb rv ov c) (hd : (decide (0 ≤ d) && decide (d ≤ 1000000)) = false) :
    Calls Tryz.prog 47 #[.pointer (some ⟨cb, 0, none⟩), .int .i64 (i : Int), .agg #[.int .i64 d, .int .i64 k, .int .i64 p]] w fun e w' => e = .returned (.int .i64 1) ∧ Below cb w w' := by
  rcases (by omega : k = 2 ∨ k = 3 ∨ (k ≠ 2 ∧ k ≠ 3)) with rfl | rfl | ⟨hk2, hk3⟩
  · obtain ⟨W1, HW1, HB1, HS1, j1⟩ := st_al0 w #[.int .i64 d, .int .i64 2, .int .i64 p] 63
    have HH := Lib.hid (h.stay j1)
    have HJ := Lib.hid j1
    have HLT : Hid (cb < w.heap.size) := h.lt
    have c0 := kC HB1 0 rfl
    have c1 := kC HB1 1 rfl
    have c2 := kC HB1 2 rfl
    have HBK := Lib.hid HH.out.blk
    have l1 := kC (cs := [.int .i64 c.born, .int .i64 c.last, .int .i64 c.ret, rv, ov]) HBK 1 rfl
    have HWD := Lib.hid (withinB d 0 1000000 W1)
    rw [hd] at HWD
    clear h hd j1 HS1
    go_enter Tryz.func47, Tryz.ntmps47
    go_wp2_with fail
    rw [← HW1.out]
    go_wp2_with fail
    refine HWD.out.mono ?_
    rintro e w1 ⟨rfl, hw⟩
    obtain rfl := hw.symm
    clear hw HWD
    go_wp2_with fail
    go_ret
    exact ⟨rfl, HJ.out.mono (Nat.le_of_lt HLT.out)⟩
  · obtain ⟨W1, HW1, HB1, HS1, j1⟩ := st_al0 w #[.int .i64 d, .int .i64 3, .int .i64 p] 63
    have HH := Lib.hid (h.stay j1)
    have HJ := Lib.hid j1
    have HLT : Hid (cb < w.heap.size) := h.lt
    have c0 := kC HB1 0 rfl
    have c1 := kC HB1 1 rfl
    have c2 := kC HB1 2 rfl
    have HBK := Lib.hid HH.out.blk
    have l1 := kC (cs := [.int .i64 c.born, .int .i64 c.last, .int .i64 c.ret, rv, ov]) HBK 1 rfl
    have HWD := Lib.hid (withinB d 0 1000000 W1)
    rw [hd] at HWD
    clear h hd j1 HS1
    go_enter Tryz.func47, Tryz.ntmps47
    go_wp2_with fail
    rw [← HW1.out]
    go_wp2_with fail
    refine HWD.out.mono ?_
    rintro e w1 ⟨rfl, hw⟩
    obtain rfl := hw.symm
    clear hw HWD
    go_wp2_with fail
    go_ret
    exact ⟨rfl, HJ.out.mono (Nat.le_of_lt HLT.out)⟩
  · obtain ⟨W1, HW1, HB1, HS1, j1⟩ := st_al0 w #[.int .i64 d, .int .i64 k, .int .i64 p] 63
    have HH := Lib.hid (h.stay j1)
    have HJ := Lib.hid j1
    have HLT : Hid (cb < w.heap.size) := h.lt
    have c0 := kC HB1 0 rfl
    have c1 := kC HB1 1 rfl
    have c2 := kC HB1 2 rfl
    have HBK := Lib.hid HH.out.blk
    have l1 := kC (cs := [.int .i64 c.born, .int .i64 c.last, .int .i64 c.ret, rv, ov]) HBK 1 rfl
    have HWD := Lib.hid (withinB d 0 1000000 W1)
    rw [hd] at HWD
    clear h hd j1 HS1
    go_enter Tryz.func47, Tryz.ntmps47
    go_wp2_with fail
    rw [← HW1.out]
    go_wp2_with fail
    refine HWD.out.mono ?_
    rintro e w1 ⟨rfl, hw⟩
    obtain rfl := hw.symm
    clear hw HWD
    go_wp2_with fail
    go_ret
    exact ⟨rfl, HJ.out.mono (Nat.le_of_lt HLT.out)⟩
theorem add_kind (i cb : Nat) (rv ov : Value) (c : CasD) (k d p : Int) (w : World) (h : CasW w cb rv ov c) (hd : (decide (0 ≤ d) && decide (d ≤ 1000000)) = true) (hk : (decide (0 ≤ k) && decide (k ≤ 3)) = false) :
    Calls Tryz.prog 47 #[.pointer (some ⟨cb, 0, none⟩), .int .i64 (i : Int), .agg #[.int .i64 d, .int .i64 k, .int .i64 p]] w fun e w' => e = .returned (.int .i64 1) ∧ Below cb w w' := by
  have hk2 : k ≠ 2 := fun e => by subst e; simp at hk
  have hk3 : k ≠ 3 := fun e => by subst e; simp at hk
  obtain ⟨W1, HW1, HB1, HS1, j1⟩ := st_al0 w #[.int .i64 d, .int .i64 k, .int .i64 p] 63
  have HH := Lib.hid (h.stay j1)
  have HJ := Lib.hid j1
  have HLT : Hid (cb < w.heap.size) := h.lt
  have c0 := kC HB1 0 rfl
  have c1 := kC HB1 1 rfl
  have c2 := kC HB1 2 rfl
  have HBK := Lib.hid HH.out.blk
  have l1 := kC (cs := [.int .i64 c.born, .int .i64 c.last, .int .i64 c.ret, rv, ov]) HBK 1 rfl
  have HWD := Lib.hid (withinB d 0 1000000 W1)
  rw [hd] at HWD
  have HWK := Lib.hid (withinB k 0 3 W1)
  rw [hk] at HWK
  clear h hd j1 HS1 hk
  go_enter Tryz.func47, Tryz.ntmps47
  go_wp2_with fail
  rw [← HW1.out]
  go_wp2_with fail
  refine HWD.out.mono ?_
  rintro e w1 ⟨rfl, hw⟩
  obtain rfl := hw.symm
  clear hw HWD
  go_wp2_with fail
  refine HWK.out.mono ?_
  rintro e w1 ⟨rfl, hw⟩
  obtain rfl := hw.symm
  clear hw HWK
  go_wp2_with fail
  go_ret
  exact ⟨rfl, HJ.out.mono (Nat.le_of_lt HLT.out)⟩
theorem add_place2 (i cb : Nat) (rv ov : Value) (c : CasD) (d p : Int) (w : World) (h : CasW w cb rv ov c) (hd : (decide (0 ≤ d) && decide (d ≤ 1000000)) = true) (hp : placeB p = false) :
    Calls Tryz.prog 47 #[.pointer (some ⟨cb, 0, none⟩), .int .i64 (i : Int), .agg #[.int .i64 d, .int .i64 2, .int .i64 p]] w fun e w' => e = .returned (.int .i64 1) ∧ Below cb w w' := by
  obtain ⟨W1, HW1, HB1, HS1, j1⟩ := st_al0 w #[.int .i64 d, .int .i64 2, .int .i64 p] 63
  have HH := Lib.hid (h.stay j1)
  have HJ := Lib.hid j1
  have HLT : Hid (cb < w.heap.size) := h.lt
  have c0 := kC HB1 0 rfl
  have c1 := kC HB1 1 rfl
  have c2 := kC HB1 2 rfl
  have HBK := Lib.hid HH.out.blk
  have l1 := kC (cs := [.int .i64 c.born, .int .i64 c.last, .int .i64 c.ret, rv, ov]) HBK 1 rfl
  have HWD := Lib.hid (withinB d 0 1000000 W1)
  rw [hd] at HWD
  have HWK := Lib.hid (withinB 2 0 3 W1)
  rw [show (decide ((0 : Int) ≤ 2) && decide ((2 : Int) ≤ 3)) = true by decide] at HWK
  have HPL := Lib.hid (isPlace_any p W1)
  rw [hp] at HPL
  clear h hd j1 HS1 hp
  go_enter Tryz.func47, Tryz.ntmps47
  go_wp2_with fail
  rw [← HW1.out]
  go_wp2_with fail
  refine HWD.out.mono ?_
  rintro e w1 ⟨rfl, hw⟩
  obtain rfl := hw.symm
  clear hw HWD
  go_wp2_with fail
  refine HWK.out.mono ?_
  rintro e w1 ⟨rfl, hw⟩
  obtain rfl := hw.symm
  clear hw HWK
  go_wp2_with fail
  refine HPL.out.mono ?_
  rintro e w1 ⟨rfl, hw⟩
  obtain rfl := hw.symm
  clear hw HPL
  go_wp2_with fail
  go_ret
  exact ⟨rfl, HJ.out.mono (Nat.le_of_lt HLT.out)⟩
theorem add_place3 (i cb : Nat) (rv ov : Value) (c : CasD) (d p : Int) (w : World) (h : CasW w cb rv ov c) (hd : (decide (0 ≤ d) && decide (d ≤ 1000000)) = true) (hp : placeB p = false) :
    Calls Tryz.prog 47 #[.pointer (some ⟨cb, 0, none⟩), .int .i64 (i : Int), .agg #[.int .i64 d, .int .i64 3, .int .i64 p]] w fun e w' => e = .returned (.int .i64 1) ∧ Below cb w w' := by
  obtain ⟨W1, HW1, HB1, HS1, j1⟩ := st_al0 w #[.int .i64 d, .int .i64 3, .int .i64 p] 63
  have HH := Lib.hid (h.stay j1)
  have HJ := Lib.hid j1
  have HLT : Hid (cb < w.heap.size) := h.lt
  have c0 := kC HB1 0 rfl
  have c1 := kC HB1 1 rfl
  have c2 := kC HB1 2 rfl
  have HBK := Lib.hid HH.out.blk
  have l1 := kC (cs := [.int .i64 c.born, .int .i64 c.last, .int .i64 c.ret, rv, ov]) HBK 1 rfl
  have HWD := Lib.hid (withinB d 0 1000000 W1)
  rw [hd] at HWD
  have HWK := Lib.hid (withinB 3 0 3 W1)
  rw [show (decide ((0 : Int) ≤ 3) && decide ((3 : Int) ≤ 3)) = true by decide] at HWK
  have HPL := Lib.hid (isPlace_any p W1)
  rw [hp] at HPL
  clear h hd j1 HS1 hp
  go_enter Tryz.func47, Tryz.ntmps47
  go_wp2_with fail
  rw [← HW1.out]
  go_wp2_with fail
  refine HWD.out.mono ?_
  rintro e w1 ⟨rfl, hw⟩
  obtain rfl := hw.symm
  clear hw HWD
  go_wp2_with fail
  refine HWK.out.mono ?_
  rintro e w1 ⟨rfl, hw⟩
  obtain rfl := hw.symm
  clear hw HWK
  go_wp2_with fail
  refine HPL.out.mono ?_
  rintro e w1 ⟨rfl, hw⟩
  obtain rfl := hw.symm
  clear hw HPL
  go_wp2_with fail
  go_ret
  exact ⟨rfl, HJ.out.mono (Nat.le_of_lt HLT.out)⟩
theorem add_first1 (i cb : Nat) (rv ov : Value) (c : CasD) (d p : Int) (w : World) (h : CasW w cb rv ov c) (hd : (decide (0 ≤ d) && decide (d ≤ 1000000)) = true) (hi : i = 0) :
    Calls Tryz.prog 47 #[.pointer (some ⟨cb, 0, none⟩), .int .i64 (i : Int), .agg #[.int .i64 d, .int .i64 1, .int .i64 p]] w fun e w' => e = .returned (.int .i64 7) ∧ Below cb w w' := by
  subst hi
  obtain ⟨W1, HW1, HB1, HS1, j1⟩ := st_al0 w #[.int .i64 d, .int .i64 1, .int .i64 p] 63
  have HH := Lib.hid (h.stay j1)
  have HJ := Lib.hid j1
  have HLT : Hid (cb < w.heap.size) := h.lt
  have c0 := kC HB1 0 rfl
  have c1 := kC HB1 1 rfl
  have c2 := kC HB1 2 rfl
  have HBK := Lib.hid HH.out.blk
  have l1 := kC (cs := [.int .i64 c.born, .int .i64 c.last, .int .i64 c.ret, rv, ov]) HBK 1 rfl
  have HWD := Lib.hid (withinB d 0 1000000 W1)
  rw [hd] at HWD
  have HWK := Lib.hid (withinB 1 0 3 W1)
  rw [show (decide ((0 : Int) ≤ 1) && decide ((1 : Int) ≤ 3)) = true by decide] at HWK
  clear h hd j1 HS1
  go_enter Tryz.func47, Tryz.ntmps47
  go_wp2_with fail
  rw [← HW1.out]
  go_wp2_with fail
  refine HWD.out.mono ?_
  rintro e w1 ⟨rfl, hw⟩
  obtain rfl := hw.symm
  clear hw HWD
  go_wp2_with fail
  refine HWK.out.mono ?_
  rintro e w1 ⟨rfl, hw⟩
  obtain rfl := hw.symm
  clear hw HWK
  go_wp2_with fail
  refine seq_start (S := fun w' => w'.cell? ⟨w.heap.size, 0, none⟩ = some (.int .i64 d) ∧ w'.cell? ⟨w.heap.size, 1, none⟩ = some (.int .i64 1) ∧ w'.cell? ⟨cb, 1, none⟩ = some (.int .i64 c.last)) (by kernel_rfl) (by kernel_rfl) (by exact ⟨c0, c1, l1⟩) ?_
  repeat (first | refine tk0 (h := ?_) | refine tkG (h := ?_) | refine skG (h := ?_))
  refine seq_done (by kernel_rfl) ?_
  go_wp2_with fail
  go_ret
  exact ⟨rfl, HJ.out.drew.mono (Nat.le_of_lt HLT.out)⟩
theorem add_first2 (i cb : Nat) (rv ov : Value) (c : CasD) (d p : Int) (w : World) (h : CasW w cb rv ov c) (hd : (decide (0 ≤ d) && decide (d ≤ 1000000)) = true) (hp : placeB p = true) (hi : i = 0) :
    Calls Tryz.prog 47 #[.pointer (some ⟨cb, 0, none⟩), .int .i64 (i : Int), .agg #[.int .i64 d, .int .i64 2, .int .i64 p]] w fun e w' => e = .returned (.int .i64 7) ∧ Below cb w w' := by
  subst hi
  obtain ⟨W1, HW1, HB1, HS1, j1⟩ := st_al0 w #[.int .i64 d, .int .i64 2, .int .i64 p] 63
  have HH := Lib.hid (h.stay j1)
  have HJ := Lib.hid j1
  have HLT : Hid (cb < w.heap.size) := h.lt
  have c0 := kC HB1 0 rfl
  have c1 := kC HB1 1 rfl
  have c2 := kC HB1 2 rfl
  have HBK := Lib.hid HH.out.blk
  have l1 := kC (cs := [.int .i64 c.born, .int .i64 c.last, .int .i64 c.ret, rv, ov]) HBK 1 rfl
  have HWD := Lib.hid (withinB d 0 1000000 W1)
  rw [hd] at HWD
  have HWK := Lib.hid (withinB 2 0 3 W1)
  rw [show (decide ((0 : Int) ≤ 2) && decide ((2 : Int) ≤ 3)) = true by decide] at HWK
  have HPL := Lib.hid (isPlace_any p W1)
  rw [hp] at HPL
  clear h hd j1 HS1 hp
  go_enter Tryz.func47, Tryz.ntmps47
  go_wp2_with fail
  rw [← HW1.out]
  go_wp2_with fail
  refine HWD.out.mono ?_
  rintro e w1 ⟨rfl, hw⟩
  obtain rfl := hw.symm
  clear hw HWD
  go_wp2_with fail
  refine HWK.out.mono ?_
  rintro e w1 ⟨rfl, hw⟩
  obtain rfl := hw.symm
  clear hw HWK
  go_wp2_with fail
  refine HPL.out.mono ?_
  rintro e w1 ⟨rfl, hw⟩
  obtain rfl := hw.symm
  clear hw HPL
  go_wp2_with fail
  refine seq_start (S := fun w' => w'.cell? ⟨w.heap.size, 0, none⟩ = some (.int .i64 d) ∧ w'.cell? ⟨w.heap.size, 1, none⟩ = some (.int .i64 2) ∧ w'.cell? ⟨cb, 1, none⟩ = some (.int .i64 c.last)) (by kernel_rfl) (by kernel_rfl) (by exact ⟨c0, c1, l1⟩) ?_
  repeat (first | refine tk0 (h := ?_) | refine tkG (h := ?_) | refine skG (h := ?_))
  refine seq_done (by kernel_rfl) ?_
  go_wp2_with fail
  go_ret
  exact ⟨rfl, HJ.out.drew.mono (Nat.le_of_lt HLT.out)⟩
theorem add_first3 (i cb : Nat) (rv ov : Value) (c : CasD) (d p : Int) (w : World) (h : CasW w cb rv ov c) (hd : (decide (0 ≤ d) && decide (d ≤ 1000000)) = true) (hp : placeB p = true) (hi : i = 0) :
    Calls Tryz.prog 47 #[.pointer (some ⟨cb, 0, none⟩), .int .i64 (i : Int), .agg #[.int .i64 d, .int .i64 3, .int .i64 p]] w fun e w' => e = .returned (.int .i64 7) ∧ Below cb w w' := by
  subst hi
  obtain ⟨W1, HW1, HB1, HS1, j1⟩ := st_al0 w #[.int .i64 d, .int .i64 3, .int .i64 p] 63
  have HH := Lib.hid (h.stay j1)
  have HJ := Lib.hid j1
  have HLT : Hid (cb < w.heap.size) := h.lt
  have c0 := kC HB1 0 rfl
  have c1 := kC HB1 1 rfl
  have c2 := kC HB1 2 rfl
  have HBK := Lib.hid HH.out.blk
  have l1 := kC (cs := [.int .i64 c.born, .int .i64 c.last, .int .i64 c.ret, rv, ov]) HBK 1 rfl
  have HWD := Lib.hid (withinB d 0 1000000 W1)
  rw [hd] at HWD
  have HWK := Lib.hid (withinB 3 0 3 W1)
  rw [show (decide ((0 : Int) ≤ 3) && decide ((3 : Int) ≤ 3)) = true by decide] at HWK
  have HPL := Lib.hid (isPlace_any p W1)
  rw [hp] at HPL
  clear h hd j1 HS1 hp
  go_enter Tryz.func47, Tryz.ntmps47
  go_wp2_with fail
  rw [← HW1.out]
  go_wp2_with fail
  refine HWD.out.mono ?_
  rintro e w1 ⟨rfl, hw⟩
  obtain rfl := hw.symm
  clear hw HWD
  go_wp2_with fail
  refine HWK.out.mono ?_
  rintro e w1 ⟨rfl, hw⟩
  obtain rfl := hw.symm
  clear hw HWK
  go_wp2_with fail
  refine HPL.out.mono ?_
  rintro e w1 ⟨rfl, hw⟩
  obtain rfl := hw.symm
  clear hw HPL
  go_wp2_with fail
  refine seq_start (S := fun w' => w'.cell? ⟨w.heap.size, 0, none⟩ = some (.int .i64 d) ∧ w'.cell? ⟨w.heap.size, 1, none⟩ = some (.int .i64 3) ∧ w'.cell? ⟨cb, 1, none⟩ = some (.int .i64 c.last)) (by kernel_rfl) (by kernel_rfl) (by exact ⟨c0, c1, l1⟩) ?_
  repeat (first | refine tk0 (h := ?_) | refine tkG (h := ?_) | refine skG (h := ?_))
  refine seq_done (by kernel_rfl) ?_
  go_wp2_with fail
  go_ret
  exact ⟨rfl, HJ.out.drew.mono (Nat.le_of_lt HLT.out)⟩
theorem add_early0 (i cb : Nat) (rv ov : Value) (c : CasD) (d p : Int) (w : World) (h : CasW w cb rv ov c) (hd : (decide (0 ≤ d) && decide (d ≤ 1000000)) = true) (hi : 0 < i) (hl : d < c.last) :
    Calls Tryz.prog 47 #[.pointer (some ⟨cb, 0, none⟩), .int .i64 (i : Int), .agg #[.int .i64 d, .int .i64 0, .int .i64 p]] w fun e w' => e = .returned (.int .i64 7) ∧ Below cb w w' := by
  have hi0 : (0 : Int) < (i : Int) := by omega
  have hin : ¬ (i : Int) = 0 := by omega
  obtain ⟨W1, HW1, HB1, HS1, j1⟩ := st_al0 w #[.int .i64 d, .int .i64 0, .int .i64 p] 63
  have HH := Lib.hid (h.stay j1)
  have HJ := Lib.hid j1
  have HLT : Hid (cb < w.heap.size) := h.lt
  have c0 := kC HB1 0 rfl
  have c1 := kC HB1 1 rfl
  have c2 := kC HB1 2 rfl
  have HBK := Lib.hid HH.out.blk
  have l1 := kC (cs := [.int .i64 c.born, .int .i64 c.last, .int .i64 c.ret, rv, ov]) HBK 1 rfl
  have HWD := Lib.hid (withinB d 0 1000000 W1)
  rw [hd] at HWD
  have HWK := Lib.hid (withinB 0 0 3 W1)
  rw [show (decide ((0 : Int) ≤ 0) && decide ((0 : Int) ≤ 3)) = true by decide] at HWK
  clear h hd j1 HS1
  go_enter Tryz.func47, Tryz.ntmps47
  go_wp2_with fail
  rw [← HW1.out]
  go_wp2_with fail
  refine HWD.out.mono ?_
  rintro e w1 ⟨rfl, hw⟩
  obtain rfl := hw.symm
  clear hw HWD
  go_wp2_with fail
  refine HWK.out.mono ?_
  rintro e w1 ⟨rfl, hw⟩
  obtain rfl := hw.symm
  clear hw HWK
  go_wp2_with fail
  refine seq_start (S := fun w' => w'.cell? ⟨w.heap.size, 0, none⟩ = some (.int .i64 d) ∧ w'.cell? ⟨w.heap.size, 1, none⟩ = some (.int .i64 0) ∧ w'.cell? ⟨cb, 1, none⟩ = some (.int .i64 c.last)) (by kernel_rfl) (by kernel_rfl) (by exact ⟨c0, c1, l1⟩) ?_
  repeat (first | refine tk0 (h := ?_) | refine tkG (h := ?_) | refine skG (h := ?_))
  refine seq_done (by kernel_rfl) ?_
  go_wp2_with fail
  go_ret
  exact ⟨rfl, HJ.out.drew.mono (Nat.le_of_lt HLT.out)⟩
theorem add_early1 (i cb : Nat) (rv ov : Value) (c : CasD) (d p : Int) (w : World) (h : CasW w cb rv ov c) (hd : (decide (0 ≤ d) && decide (d ≤ 1000000)) = true) (hi : 0 < i) (hl : d < c.last) :
    Calls Tryz.prog 47 #[.pointer (some ⟨cb, 0, none⟩), .int .i64 (i : Int), .agg #[.int .i64 d, .int .i64 1, .int .i64 p]] w fun e w' => e = .returned (.int .i64 7) ∧ Below cb w w' := by
  have hi0 : (0 : Int) < (i : Int) := by omega
  have hin : ¬ (i : Int) = 0 := by omega
  obtain ⟨W1, HW1, HB1, HS1, j1⟩ := st_al0 w #[.int .i64 d, .int .i64 1, .int .i64 p] 63
  have HH := Lib.hid (h.stay j1)
  have HJ := Lib.hid j1
  have HLT : Hid (cb < w.heap.size) := h.lt
  have c0 := kC HB1 0 rfl
  have c1 := kC HB1 1 rfl
  have c2 := kC HB1 2 rfl
  have HBK := Lib.hid HH.out.blk
  have l1 := kC (cs := [.int .i64 c.born, .int .i64 c.last, .int .i64 c.ret, rv, ov]) HBK 1 rfl
  have HWD := Lib.hid (withinB d 0 1000000 W1)
  rw [hd] at HWD
  have HWK := Lib.hid (withinB 1 0 3 W1)
  rw [show (decide ((0 : Int) ≤ 1) && decide ((1 : Int) ≤ 3)) = true by decide] at HWK
  clear h hd j1 HS1
  go_enter Tryz.func47, Tryz.ntmps47
  go_wp2_with fail
  rw [← HW1.out]
  go_wp2_with fail
  refine HWD.out.mono ?_
  rintro e w1 ⟨rfl, hw⟩
  obtain rfl := hw.symm
  clear hw HWD
  go_wp2_with fail
  refine HWK.out.mono ?_
  rintro e w1 ⟨rfl, hw⟩
  obtain rfl := hw.symm
  clear hw HWK
  go_wp2_with fail
  refine seq_start (S := fun w' => w'.cell? ⟨w.heap.size, 0, none⟩ = some (.int .i64 d) ∧ w'.cell? ⟨w.heap.size, 1, none⟩ = some (.int .i64 1) ∧ w'.cell? ⟨cb, 1, none⟩ = some (.int .i64 c.last)) (by kernel_rfl) (by kernel_rfl) (by exact ⟨c0, c1, l1⟩) ?_
  repeat (first | refine tk0 (h := ?_) | refine tkG (h := ?_) | refine skG (h := ?_))
  refine seq_done (by kernel_rfl) ?_
  go_wp2_with fail
  go_ret
  exact ⟨rfl, HJ.out.drew.mono (Nat.le_of_lt HLT.out)⟩
theorem add_early2 (i cb : Nat) (rv ov : Value) (c : CasD) (d p : Int) (w : World) (h : CasW w cb rv ov c) (hd : (decide (0 ≤ d) && decide (d ≤ 1000000)) = true) (hp : placeB p = true) (hi : 0 < i) (hl : d < c.last) :
    Calls Tryz.prog 47 #[.pointer (some ⟨cb, 0, none⟩), .int .i64 (i : Int), .agg #[.int .i64 d, .int .i64 2, .int .i64 p]] w fun e w' => e = .returned (.int .i64 7) ∧ Below cb w w' := by
  have hi0 : (0 : Int) < (i : Int) := by omega
  have hin : ¬ (i : Int) = 0 := by omega
  obtain ⟨W1, HW1, HB1, HS1, j1⟩ := st_al0 w #[.int .i64 d, .int .i64 2, .int .i64 p] 63
  have HH := Lib.hid (h.stay j1)
  have HJ := Lib.hid j1
  have HLT : Hid (cb < w.heap.size) := h.lt
  have c0 := kC HB1 0 rfl
  have c1 := kC HB1 1 rfl
  have c2 := kC HB1 2 rfl
  have HBK := Lib.hid HH.out.blk
  have l1 := kC (cs := [.int .i64 c.born, .int .i64 c.last, .int .i64 c.ret, rv, ov]) HBK 1 rfl
  have HWD := Lib.hid (withinB d 0 1000000 W1)
  rw [hd] at HWD
  have HWK := Lib.hid (withinB 2 0 3 W1)
  rw [show (decide ((0 : Int) ≤ 2) && decide ((2 : Int) ≤ 3)) = true by decide] at HWK
  have HPL := Lib.hid (isPlace_any p W1)
  rw [hp] at HPL
  clear h hd j1 HS1 hp
  go_enter Tryz.func47, Tryz.ntmps47
  go_wp2_with fail
  rw [← HW1.out]
  go_wp2_with fail
  refine HWD.out.mono ?_
  rintro e w1 ⟨rfl, hw⟩
  obtain rfl := hw.symm
  clear hw HWD
  go_wp2_with fail
  refine HWK.out.mono ?_
  rintro e w1 ⟨rfl, hw⟩
  obtain rfl := hw.symm
  clear hw HWK
  go_wp2_with fail
  refine HPL.out.mono ?_
  rintro e w1 ⟨rfl, hw⟩
  obtain rfl := hw.symm
  clear hw HPL
  go_wp2_with fail
  refine seq_start (S := fun w' => w'.cell? ⟨w.heap.size, 0, none⟩ = some (.int .i64 d) ∧ w'.cell? ⟨w.heap.size, 1, none⟩ = some (.int .i64 2) ∧ w'.cell? ⟨cb, 1, none⟩ = some (.int .i64 c.last)) (by kernel_rfl) (by kernel_rfl) (by exact ⟨c0, c1, l1⟩) ?_
  repeat (first | refine tk0 (h := ?_) | refine tkG (h := ?_) | refine skG (h := ?_))
  refine seq_done (by kernel_rfl) ?_
  go_wp2_with fail
  go_ret
  exact ⟨rfl, HJ.out.drew.mono (Nat.le_of_lt HLT.out)⟩
theorem add_early3 (i cb : Nat) (rv ov : Value) (c : CasD) (d p : Int) (w : World) (h : CasW w cb rv ov c) (hd : (decide (0 ≤ d) && decide (d ≤ 1000000)) = true) (hp : placeB p = true) (hi : 0 < i) (hl : d < c.last) :
    Calls Tryz.prog 47 #[.pointer (some ⟨cb, 0, none⟩), .int .i64 (i : Int), .agg #[.int .i64 d, .int .i64 3, .int .i64 p]] w fun e w' => e = .returned (.int .i64 7) ∧ Below cb w w' := by
  have hi0 : (0 : Int) < (i : Int) := by omega
  have hin : ¬ (i : Int) = 0 := by omega
  obtain ⟨W1, HW1, HB1, HS1, j1⟩ := st_al0 w #[.int .i64 d, .int .i64 3, .int .i64 p] 63
  have HH := Lib.hid (h.stay j1)
  have HJ := Lib.hid j1
  have HLT : Hid (cb < w.heap.size) := h.lt
  have c0 := kC HB1 0 rfl
  have c1 := kC HB1 1 rfl
  have c2 := kC HB1 2 rfl
  have HBK := Lib.hid HH.out.blk
  have l1 := kC (cs := [.int .i64 c.born, .int .i64 c.last, .int .i64 c.ret, rv, ov]) HBK 1 rfl
  have HWD := Lib.hid (withinB d 0 1000000 W1)
  rw [hd] at HWD
  have HWK := Lib.hid (withinB 3 0 3 W1)
  rw [show (decide ((0 : Int) ≤ 3) && decide ((3 : Int) ≤ 3)) = true by decide] at HWK
  have HPL := Lib.hid (isPlace_any p W1)
  rw [hp] at HPL
  clear h hd j1 HS1 hp
  go_enter Tryz.func47, Tryz.ntmps47
  go_wp2_with fail
  rw [← HW1.out]
  go_wp2_with fail
  refine HWD.out.mono ?_
  rintro e w1 ⟨rfl, hw⟩
  obtain rfl := hw.symm
  clear hw HWD
  go_wp2_with fail
  refine HWK.out.mono ?_
  rintro e w1 ⟨rfl, hw⟩
  obtain rfl := hw.symm
  clear hw HWK
  go_wp2_with fail
  refine HPL.out.mono ?_
  rintro e w1 ⟨rfl, hw⟩
  obtain rfl := hw.symm
  clear hw HPL
  go_wp2_with fail
  refine seq_start (S := fun w' => w'.cell? ⟨w.heap.size, 0, none⟩ = some (.int .i64 d) ∧ w'.cell? ⟨w.heap.size, 1, none⟩ = some (.int .i64 3) ∧ w'.cell? ⟨cb, 1, none⟩ = some (.int .i64 c.last)) (by kernel_rfl) (by kernel_rfl) (by exact ⟨c0, c1, l1⟩) ?_
  repeat (first | refine tk0 (h := ?_) | refine tkG (h := ?_) | refine skG (h := ?_))
  refine seq_done (by kernel_rfl) ?_
  go_wp2_with fail
  go_ret
  exact ⟨rfl, HJ.out.drew.mono (Nat.le_of_lt HLT.out)⟩
theorem add_again (i cb : Nat) (rv ov : Value) (c : CasD) (d p : Int) (w : World) (h : CasW w cb rv ov c) (hd : (decide (0 ≤ d) && decide (d ≤ 1000000)) = true) (hi : 0 < i) (hl : ¬ d < c.last) :
    Calls Tryz.prog 47 #[.pointer (some ⟨cb, 0, none⟩), .int .i64 (i : Int), .agg #[.int .i64 d, .int .i64 0, .int .i64 p]] w fun e w' => e = .returned (.int .i64 7) ∧ Below cb w w' := by
  have hi0 : (0 : Int) < (i : Int) := by omega
  have hin : ¬ (i : Int) = 0 := by omega
  have hdl : decide (d < c.last) = false := decide_eq_false hl
  have hib : ((i : Int) == 0) = false := beq_false_of_ne hin
  obtain ⟨W1, HW1, HB1, HS1, j1⟩ := st_al0 w #[.int .i64 d, .int .i64 0, .int .i64 p] 63
  have HH := Lib.hid (h.stay j1)
  have HJ := Lib.hid j1
  have HLT : Hid (cb < w.heap.size) := h.lt
  have c0 := kC HB1 0 rfl
  have c1 := kC HB1 1 rfl
  have c2 := kC HB1 2 rfl
  have HBK := Lib.hid HH.out.blk
  have l1 := kC (cs := [.int .i64 c.born, .int .i64 c.last, .int .i64 c.ret, rv, ov]) HBK 1 rfl
  have HWD := Lib.hid (withinB d 0 1000000 W1)
  rw [hd] at HWD
  have HWK := Lib.hid (withinB 0 0 3 W1)
  rw [show (decide ((0 : Int) ≤ 0) && decide ((0 : Int) ≤ 3)) = true by decide] at HWK
  clear h hd j1 HS1
  go_enter Tryz.func47, Tryz.ntmps47
  go_wp2_with fail
  rw [← HW1.out]
  go_wp2_with fail
  refine HWD.out.mono ?_
  rintro e w1 ⟨rfl, hw⟩
  obtain rfl := hw.symm
  clear hw HWD
  go_wp2_with fail
  refine HWK.out.mono ?_
  rintro e w1 ⟨rfl, hw⟩
  obtain rfl := hw.symm
  clear hw HWK
  go_wp2_with fail
  refine seq_start (S := fun w' => w'.cell? ⟨w.heap.size, 0, none⟩ = some (.int .i64 d) ∧ w'.cell? ⟨w.heap.size, 1, none⟩ = some (.int .i64 0) ∧ w'.cell? ⟨cb, 1, none⟩ = some (.int .i64 c.last)) (by kernel_rfl) (by kernel_rfl) (by exact ⟨c0, c1, l1⟩) ?_
  repeat (first | refine tk0 (h := ?_) | refine tkG (h := ?_) | refine skG (h := ?_))
  refine seq_done (by kernel_rfl) ?_
  go_wp2_with fail
  go_ret
  exact ⟨rfl, HJ.out.drew.mono (Nat.le_of_lt HLT.out)⟩
/-- A row of one's own grows by the int of a block, in a drawn region. -/
theorem op_push {ops : Array Oper} {Q : Exit → Act → World → Prop} {S : World → Prop} {rest : List (Nat × Oper)} {a : Act} {W : World} {K : Act → World → Prop} {o : Oper} {v : Value} {xs : List Int} {z : Int} {B n bx k : Nat}
    (hK : Shut (∀ a w, S w → Seq Tryz.prog ops Q S rest a w → K a w)) (hown : OwnI W B v xs) (hn : xs.length = n) (hl : n ≤ 1000) (hB : B ≤ W.heap.size) (hb : W.heap[bx]? = some (.cells #[.int .i64 z] 3 (0, 0)))
    (hS : ∀ v' w', OwnI w' B v' (xs ++ [z]) → W.grownBy w' v.ownBlock → S w')
    (s x : Operand) (hg : o.guard = none := by rfl) (ho : o.op = .call { callee := .builtin .append, args := #[s, x], argTypes := #[31, 31] } := by rfl) (hs : a.eval s = v := by rfl) (hx : a.eval x = .slice (some ⟨bx, 0, none⟩) 1 k := by rfl)
    (h : ∀ A c w', OwnI w' B (.slice A (n + 1) c) (xs ++ [z]) → W.grownBy w' v.ownBlock → (∀ b, (Value.slice A (n + 1) c).ownBlock = some b → v.ownBlock = some b ∨ W.heap.size ≤ b) → Seq Tryz.prog ops Q S rest (a.put o.dst (.slice A (n + 1) c)) w') : Oper.wp Tryz.prog o a W K Q := by
  subst hn
  obtain ⟨i0, hi0, hz0, hz1, hz2⟩ := info_parts info3
  refine op_append_own hg s x 31 ho B 3 i0 (.int .i64 0) 1 8 Tryz.underlying31 hi0 hz0 hz1 hz2 rfl (by decide) v xs.length (xs.map intV) hs hown ⟨bx, 0, none⟩ 1 k [.int .i64 z] hx rfl (fun j u hu => ?_) (fun u hu => by rw [List.mem_singleton.1 hu]; rfl) (by unfold maxLen; omega) (by omega) hB fun v' w' h2 h3 h4 => ?_
  · exact blk_one hb j u hu
  · obtain ⟨A, c', rfl⟩ := ownsRow_slice h2
    have h5 : OwnI w' B (.slice A (xs.length + 1) c') (xs ++ [z]) := by unfold OwnI; rw [List.length_append, List.map_append]; exact h2
    exact hK.out _ _ (hS _ _ h5 h3) (h A c' w' h5 h3 h4)
end Go.Proofs.YtfondpakbiagjaaGreatDoor
