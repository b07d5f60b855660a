/- The walks of a casing's add, where it goes on (printed by add.py). -/
import Derived.Test.YtfondpakbiagjaaGreatDoorHCsE
namespace Go.Proofs.YtfondpakbiagjaaGreatDoor
open Go.RowKit
set_option linter.unusedVariables false
set_option linter.unusedSimpArgs false
set_option maxRecDepth 100000
set_option maxHeartbeats 4000000
theorem add_k0 (i cb : Nat) (rv ov : Value) (c : CasD) (d p : Int) (w : World) (h : CasW w cb rv ov c) (hd : (decide (0 ≤ d) && decide (d ≤ 1000000)) = true) (hi : i = 0) :
    Calls Tryz.prog 47 #[.pointer (some ⟨cb, 0, none⟩), .int .i64 (i : Int), .agg #[.int .i64 d, .int .i64 0, .int .i64 p]] w fun e w' => e = .returned (.int .i64 0) ∧ (∃ rv' ov', CasW w' cb rv' ov' ⟨d, d, c.ret, c.rep, c.opn⟩) ∧ Below cb w w' := by
  subst hi
  obtain ⟨W1, HW1, HB1, HS1, j1⟩ := st_al0 w #[.int .i64 d, .int .i64 0, .int .i64 p] 63
  have HH := Lib.hid (h.stay j1)
  have HJ := Lib.hid j1
  have HLT : Hid (cb < w.heap.size) := h.lt
  have c0 := kC HB1 0 rfl
  have c1 := kC HB1 1 rfl
  have c2 := kC HB1 2 rfl
  have HBK := Lib.hid HH.out.blk
  have l1 := kC (cs := [.int .i64 c.born, .int .i64 c.last, .int .i64 c.ret, rv, ov]) HBK 1 rfl
  have HWD := Lib.hid (withinB d 0 1000000 W1)
  rw [hd] at HWD
  have HWK := Lib.hid (withinB 0 0 3 W1)
  rw [show (decide ((0 : Int) ≤ 0) && decide ((0 : Int) ≤ 3)) = true by decide] at HWK
  clear h hd j1 HS1
  go_enter Tryz.func47, Tryz.ntmps47
  go_wp2_with fail
  rw [← HW1.out]
  go_wp2_with fail
  refine HWD.out.mono ?_
  rintro e w1 ⟨rfl, hw⟩
  obtain rfl := hw.symm
  clear hw HWD
  go_wp2_with fail
  refine HWK.out.mono ?_
  rintro e w1 ⟨rfl, hw⟩
  obtain rfl := hw.symm
  clear hw HWK
  go_wp2_with fail
  refine seq_start (S := fun w' => w'.cell? ⟨w.heap.size, 0, none⟩ = some (.int .i64 d) ∧ w'.cell? ⟨w.heap.size, 1, none⟩ = some (.int .i64 0) ∧ w'.cell? ⟨cb, 1, none⟩ = some (.int .i64 c.last)) (by kernel_rfl) (by kernel_rfl) (by exact ⟨c0, c1, l1⟩) ?_
  repeat (first | refine tk0 (h := ?_) | refine tkG (h := ?_) | refine skG (h := ?_))
  refine seq_done (by kernel_rfl) ?_
  obtain ⟨V, hV⟩ : ∃ V, V = W1.drew := ⟨_, rfl⟩
  rw [← hV]
  have jV : Below W1.heap.size W1 V := by rw [hV]; exact (Below.refl _ _).drew
  replace HB1 := kB HB1 jV
  replace HH : Hid (CasW V cb rv ov c) := HH.out.stay jV
  replace HJ := kU HJ jV
  have HBE : Hid (w.heap.size ≠ cb) := Nat.ne_of_gt HLT.out
  obtain ⟨W2, HW2⟩ : ∃ W, Hid (W = V.setCell ⟨cb, 1, none⟩ (.int .i64 d)) := ⟨_, rfl⟩
  have HH2 : Hid (CasW W2 cb rv ov ⟨c.born, d, c.ret, c.rep, c.opn⟩) := by show CasW _ _ _ _ _; rw [HW2.out]; exact HH.out.last d
  have HB2 := kO (kM1 HW2) HB1 HBE.out
  have HJ2 : Hid (Below cb w W2) := by show Below _ _ _; rw [HW2.out]; exact (HJ.out.mono (Nat.le_of_lt HLT.out)).setCell (Nat.le_refl _) _
  have HBV := Lib.hid HH.out.blk
  have HBW := Lib.hid HH2.out.blk
  clear hV jV HBK
  replace c0 := kC HB1 0 rfl
  replace l1 := kC (cs := [.int .i64 c.born, .int .i64 c.last, .int .i64 c.ret, rv, ov]) HBV 1 rfl
  have g1 := kF HBV 1
  replace c1 := kC HB2 1 rfl
  have d0 := kC HB2 0 rfl
  have d2 := kC HB2 2 rfl
  have m0 := kC (cs := [.int .i64 c.born, .int .i64 d, .int .i64 c.ret, rv, ov]) HBW 0 rfl
  have g0 := kF HBW 0
  obtain ⟨W3, HW3⟩ : ∃ W, Hid (W = W2.setCell ⟨cb, 0, none⟩ (.int .i64 d)) := ⟨_, rfl⟩
  have HH3 : Hid (CasW W3 cb rv ov ⟨d, d, c.ret, c.rep, c.opn⟩) := by show CasW _ _ _ _ _; rw [HW3.out]; exact HH2.out.born d
  have HJ3 : Hid (Below cb w W3) := by show Below _ _ _; rw [HW3.out]; exact HJ2.out.setCell (Nat.le_refl _) _
  rw [HW2.out] at c1 d0 m0 g0
  clear c2 d2
  go_wp2_with fail
  rw [← HW2.out, ← HW3.out]
  go_ret
  exact ⟨rfl, ⟨rv, ov, HH3.out⟩, HJ3.out⟩
theorem add_k1 (i cb : Nat) (rv ov : Value) (c : CasD) (d p : Int) (w : World) (h : CasW w cb rv ov c) (hd : (decide (0 ≤ d) && decide (d ≤ 1000000)) = true) (hi : 0 < i) (hl : ¬ d < c.last) (hr : 0 ≤ c.ret ∧ c.ret ≤ 1000) :
    Calls Tryz.prog 47 #[.pointer (some ⟨cb, 0, none⟩), .int .i64 (i : Int), .agg #[.int .i64 d, .int .i64 1, .int .i64 p]] w fun e w' => e = .returned (.int .i64 0) ∧ (∃ rv' ov', CasW w' cb rv' ov' ⟨c.born, d, c.ret + 1, c.rep, c.opn⟩) ∧ Below cb w w' := by
  have hi0 : (0 : Int) < (i : Int) := by omega
  have hin : ¬ (i : Int) = 0 := by omega
  have hdl : decide (d < c.last) = false := decide_eq_false hl
  have hib : ((i : Int) == 0) = false := beq_false_of_ne hin
  obtain ⟨W1, HW1, HB1, HS1, j1⟩ := st_al0 w #[.int .i64 d, .int .i64 1, .int .i64 p] 63
  have HH := Lib.hid (h.stay j1)
  have HJ := Lib.hid j1
  have HLT : Hid (cb < w.heap.size) := h.lt
  have c0 := kC HB1 0 rfl
  have c1 := kC HB1 1 rfl
  have c2 := kC HB1 2 rfl
  have HBK := Lib.hid HH.out.blk
  have l1 := kC (cs := [.int .i64 c.born, .int .i64 c.last, .int .i64 c.ret, rv, ov]) HBK 1 rfl
  have HWD := Lib.hid (withinB d 0 1000000 W1)
  rw [hd] at HWD
  have HWK := Lib.hid (withinB 1 0 3 W1)
  rw [show (decide ((0 : Int) ≤ 1) && decide ((1 : Int) ≤ 3)) = true by decide] at HWK
  clear h hd j1 HS1
  go_enter Tryz.func47, Tryz.ntmps47
  go_wp2_with fail
  rw [← HW1.out]
  go_wp2_with fail
  refine HWD.out.mono ?_
  rintro e w1 ⟨rfl, hw⟩
  obtain rfl := hw.symm
  clear hw HWD
  go_wp2_with fail
  refine HWK.out.mono ?_
  rintro e w1 ⟨rfl, hw⟩
  obtain rfl := hw.symm
  clear hw HWK
  go_wp2_with fail
  refine seq_start (S := fun w' => w'.cell? ⟨w.heap.size, 0, none⟩ = some (.int .i64 d) ∧ w'.cell? ⟨w.heap.size, 1, none⟩ = some (.int .i64 1) ∧ w'.cell? ⟨cb, 1, none⟩ = some (.int .i64 c.last)) (by kernel_rfl) (by kernel_rfl) (by exact ⟨c0, c1, l1⟩) ?_
  repeat (first | refine tk0 (h := ?_) | refine tkG (h := ?_) | refine skG (h := ?_))
  refine seq_done (by kernel_rfl) ?_
  obtain ⟨V, hV⟩ : ∃ V, V = W1.drew := ⟨_, rfl⟩
  rw [← hV]
  have jV : Below W1.heap.size W1 V := by rw [hV]; exact (Below.refl _ _).drew
  replace HB1 := kB HB1 jV
  replace HH : Hid (CasW V cb rv ov c) := HH.out.stay jV
  replace HJ := kU HJ jV
  have HBE : Hid (w.heap.size ≠ cb) := Nat.ne_of_gt HLT.out
  obtain ⟨W2, HW2⟩ : ∃ W, Hid (W = V.setCell ⟨cb, 1, none⟩ (.int .i64 d)) := ⟨_, rfl⟩
  have HH2 : Hid (CasW W2 cb rv ov ⟨c.born, d, c.ret, c.rep, c.opn⟩) := by show CasW _ _ _ _ _; rw [HW2.out]; exact HH.out.last d
  have HB2 := kO (kM1 HW2) HB1 HBE.out
  have HJ2 : Hid (Below cb w W2) := by show Below _ _ _; rw [HW2.out]; exact (HJ.out.mono (Nat.le_of_lt HLT.out)).setCell (Nat.le_refl _) _
  have HBV := Lib.hid HH.out.blk
  have HBW := Lib.hid HH2.out.blk
  clear hV jV HBK
  replace c0 := kC HB1 0 rfl
  replace l1 := kC (cs := [.int .i64 c.born, .int .i64 c.last, .int .i64 c.ret, rv, ov]) HBV 1 rfl
  have g1 := kF HBV 1
  replace c1 := kC HB2 1 rfl
  have d0 := kC HB2 0 rfl
  have d2 := kC HB2 2 rfl
  have m2 := kC (cs := [.int .i64 c.born, .int .i64 d, .int .i64 c.ret, rv, ov]) HBW 2 rfl
  have g2 := kF HBW 2
  have hwr : IntKind.i64.wrap (c.ret + 1) = c.ret + 1 := IntWalk.i64_in _ (by omega)
  obtain ⟨W3, HW3⟩ : ∃ W, Hid (W = W2.setCell ⟨cb, 2, none⟩ (.int .i64 (c.ret + 1))) := ⟨_, rfl⟩
  have HH3 : Hid (CasW W3 cb rv ov ⟨c.born, d, c.ret + 1, c.rep, c.opn⟩) := by show CasW _ _ _ _ _; rw [HW3.out]; exact HH2.out.ret (c.ret + 1)
  have HJ3 : Hid (Below cb w W3) := by show Below _ _ _; rw [HW3.out]; exact HJ2.out.setCell (Nat.le_refl _) _
  rw [HW2.out] at c1 m2 g2
  clear c2 d0 d2 hr
  go_wp2_with fail
  rw [← HW2.out, ← HW3.out]
  go_ret
  exact ⟨rfl, ⟨rv, ov, HH3.out⟩, HJ3.out⟩
theorem add_k2 (i cb : Nat) (rv ov : Value) (c : CasD) (d p : Int) (w : World) (h : CasW w cb rv ov c) (hd : (decide (0 ≤ d) && decide (d ≤ 1000000)) = true) (hp : placeB p = true) (hi : 0 < i) (hl : ¬ d < c.last) (hlo : c.opn.length ≤ 100) :
    Calls Tryz.prog 47 #[.pointer (some ⟨cb, 0, none⟩), .int .i64 (i : Int), .agg #[.int .i64 d, .int .i64 2, .int .i64 p]] w fun e w' => e = .returned (.int .i64 0) ∧ (∃ rv' ov', CasW w' cb rv' ov' ⟨c.born, d, c.ret, c.rep, c.opn ++ [p]⟩) ∧ Below cb w w' := by
  have hro := h.ro
  obtain ⟨Ao, ko, rfl⟩ := h.ro.slice
  have hi0 : (0 : Int) < (i : Int) := by omega
  have hin : ¬ (i : Int) = 0 := by omega
  have hdl : decide (d < c.last) = false := decide_eq_false hl
  have hib : ((i : Int) == 0) = false := beq_false_of_ne hin
  obtain ⟨W1, HW1, HB1, HS1, j1⟩ := st_al0 w #[.int .i64 d, .int .i64 2, .int .i64 p] 63
  have HH := Lib.hid (h.stay j1)
  have HJ := Lib.hid j1
  have HLT : Hid (cb < w.heap.size) := h.lt
  have c0 := kC HB1 0 rfl
  have c1 := kC HB1 1 rfl
  have c2 := kC HB1 2 rfl
  have HBK := Lib.hid HH.out.blk
  have l1 := kC (cs := [.int .i64 c.born, .int .i64 c.last, .int .i64 c.ret, rv, .slice Ao c.opn.length ko]) HBK 1 rfl
  have HWD := Lib.hid (withinB d 0 1000000 W1)
  rw [hd] at HWD
  have HWK := Lib.hid (withinB 2 0 3 W1)
  rw [show (decide ((0 : Int) ≤ 2) && decide ((2 : Int) ≤ 3)) = true by decide] at HWK
  have HPL := Lib.hid (isPlace_any p W1)
  rw [hp] at HPL
  clear h hd j1 HS1 hp
  go_enter Tryz.func47, Tryz.ntmps47
  go_wp2_with fail
  rw [← HW1.out]
  go_wp2_with fail
  refine HWD.out.mono ?_
  rintro e w1 ⟨rfl, hw⟩
  obtain rfl := hw.symm
  clear hw HWD
  go_wp2_with fail
  refine HWK.out.mono ?_
  rintro e w1 ⟨rfl, hw⟩
  obtain rfl := hw.symm
  clear hw HWK
  go_wp2_with fail
  refine HPL.out.mono ?_
  rintro e w1 ⟨rfl, hw⟩
  obtain rfl := hw.symm
  clear hw HPL
  go_wp2_with fail
  refine seq_start (S := fun w' => w'.cell? ⟨w.heap.size, 0, none⟩ = some (.int .i64 d) ∧ w'.cell? ⟨w.heap.size, 1, none⟩ = some (.int .i64 2) ∧ w'.cell? ⟨cb, 1, none⟩ = some (.int .i64 c.last)) (by kernel_rfl) (by kernel_rfl) (by exact ⟨c0, c1, l1⟩) ?_
  repeat (first | refine tk0 (h := ?_) | refine tkG (h := ?_) | refine skG (h := ?_))
  refine seq_done (by kernel_rfl) ?_
  obtain ⟨V, hV⟩ : ∃ V, V = W1.drew := ⟨_, rfl⟩
  rw [← hV]
  have jV : Below W1.heap.size W1 V := by rw [hV]; exact (Below.refl _ _).drew
  replace HB1 := kB HB1 jV
  replace HH : Hid (CasW V cb rv (.slice Ao c.opn.length ko) c) := HH.out.stay jV
  replace HJ := kU HJ jV
  have HBE : Hid (w.heap.size ≠ cb) := Nat.ne_of_gt HLT.out
  obtain ⟨W2, HW2⟩ : ∃ W, Hid (W = V.setCell ⟨cb, 1, none⟩ (.int .i64 d)) := ⟨_, rfl⟩
  have HH2 : Hid (CasW W2 cb rv (.slice Ao c.opn.length ko) ⟨c.born, d, c.ret, c.rep, c.opn⟩) := by show CasW _ _ _ _ _; rw [HW2.out]; exact HH.out.last d
  have HB2 := kO (kM1 HW2) HB1 HBE.out
  have HJ2 : Hid (Below cb w W2) := by show Below _ _ _; rw [HW2.out]; exact (HJ.out.mono (Nat.le_of_lt HLT.out)).setCell (Nat.le_refl _) _
  have HBV := Lib.hid HH.out.blk
  have HBW := Lib.hid HH2.out.blk
  clear hV jV HBK
  replace c0 := kC HB1 0 rfl
  replace l1 := kC (cs := [.int .i64 c.born, .int .i64 c.last, .int .i64 c.ret, rv, .slice Ao c.opn.length ko]) HBV 1 rfl
  have g1 := kF HBV 1
  replace c1 := kC HB2 1 rfl
  have d0 := kC HB2 0 rfl
  have d2 := kC HB2 2 rfl
  have m4 := kC (cs := [.int .i64 c.born, .int .i64 d, .int .i64 c.ret, rv, .slice Ao c.opn.length ko]) HBW 4 rfl
  have g4 := kF HBW 4
  have HRO := Lib.hid hro
  have hd2 := d2
  rw [HW2.out] at c1
  clear c2 d0 hro d2
  go_wp2_with fail
  rw [← HW2.out]
  refine seq_start (S := fun w' => w'.cell? ⟨w.heap.size, 2, none⟩ = some (.int .i64 p)) (by kernel_rfl) (by kernel_rfl) (by exact hd2) ?_
  obtain ⟨V2, hV2⟩ : ∃ V, V = W2.drew := ⟨_, rfl⟩
  have jV2 : Below W2.heap.size W2 V2 := by rw [hV2]; exact (Below.refl _ _).drew
  have HHV := Lib.hid (HH2.out.stay jV2)
  have HBV2 := kB HB2 jV2
  have HJV : Hid (Below cb w V2) := HJ2.out.trans (jV2.mono (Nat.le_of_lt HH2.out.lt))
  rw [← hV2]
  clear hV2 jV2 hd2
  obtain ⟨W4, HW4, HB4, HS4, j4⟩ := st_al0 V2 #[.int .i64 p] 3
  have HH4 := Lib.hid (HHV.out.stay j4)
  have HBE4 := kB HBV2 j4
  have HJ4 : Hid (Below cb w W4) := HJV.out.trans (j4.mono (Nat.le_of_lt HHV.out.lt))
  have HL4 : Hid (cb + 1 ≤ W4.heap.size) := HH4.out.lt
  have m1 : V2.cell? ⟨cb, 4, none⟩ = some (.slice Ao c.opn.length ko) := (blk_cell HHV.out.blk 4).trans rfl
  have m2 : W4.cell? ⟨cb, 4, none⟩ = some (.slice Ao c.opn.length ko) := (blk_cell HH4.out.blk 4).trans rfl
  clear j4
  repeat (first | refine tk0 (h := ?_) | refine tkG (h := ?_) | refine skG (h := ?_))
  refine plq 1 (h := ?_)
  repeat (first | refine tk0 (h := ?_) | refine tkG (h := ?_) | refine skG (h := ?_))
  refine plq 1 (h := ?_)
  repeat (first | refine tk0 (h := ?_) | refine tkG (h := ?_) | refine skG (h := ?_))
  refine seq_both (by kernel_rfl) (by rfl) (by rfl) ?_ ?_
  focus
    intro K9 hK9
    go_simp
    refine ckk hK9 (kC HBV2 2 rfl) (h := ?_)
    clear hK9 K9
    refine sop (h := fun K9 hK9 => ?_)
    go_simp
    rw [← HW4.out]
    refine ckk hK9 (kC HBE4 2 rfl) (h := ?_)
    clear hK9 K9
  rotate_left
  focus
    intro K9 hK9
    go_simp
    rw [← HW4.out]
    refine ckk hK9 (kC HBE4 2 rfl) (h := ?_)
    clear hK9 K9
    refine sop (h := fun K9 hK9 => ?_)
    go_simp
    refine ckk hK9 (kC HBE4 2 rfl) (h := ?_)
    clear hK9 K9
  all_goals
    clear m1 m2
    refine sop (h := fun K9 hK9 => ?_)
    refine op_push (n := c.opn.length) hK9 HH4.out.ro rfl (by omega) HL4.out HB4.out (fun v' w' h5 g5 => ?_) _ _ (h := fun A5 k5 W5 h5 g5 f5 => ?_)
    · rw [World.cell?_of_block (w := W4) (g5.block w.heap.size (blk_lt HBE4.out) (fun e => by have := (World.ownsRow.lt HRO.out _ e.symm).2; omega))]
      exact kC HBE4 2 rfl
    · have HH5 := Lib.hid (HH4.out.newO g5 f5 h5)
      have HB5 := Lib.hid (HH4.out.blkO g5)
      have HE5 : Hid (W5.heap[w.heap.size]? = some (.cells #[.int .i64 d, .int .i64 2, .int .i64 p] 63 (0, 0))) := (g5.block w.heap.size (blk_lt HBE4.out) (fun e => by have := (World.ownsRow.lt HRO.out _ e.symm).2; omega)).trans HBE4.out
      have HJ5 : Hid (Below cb w W5) := HJ4.out.grown g5 (Nat.le_of_lt HH4.out.lt) (fun k hk => Nat.le_of_lt (HH4.out.no k hk))
      obtain ⟨W6, HW6⟩ : ∃ W, Hid (W = W5.setCell ⟨cb, 4, none⟩ (.slice A5 (c.opn.length + 1) k5)) := ⟨_, rfl⟩
      rw [← HW6.out] at HH5
      have HJ6 : Hid (Below cb w W6) := by show Below _ _ _; rw [HW6.out]; exact HJ5.out.setCell (Nat.le_refl _) _
      have HE6 := kO (kM1 HW6) HE5 HBE.out
      clear hK9 K9 h5 g5 f5
      refine nrm (h := ?_)
      repeat (first | refine tk0 (h := ?_) | refine tkG (h := ?_) | refine skG (h := ?_))
      refine sop (h := fun K9 hK9 => ?_)
      have m5 := (blk_cell HB5.out 4).trans rfl
      have g5 := blk_free HB5.out 4
      go_simp
      rw [← HW6.out]
      refine ckk hK9 (kC HE6 2 rfl) (h := ?_)
      clear hK9 K9 m5 g5
      refine seq_done (by kernel_rfl) ?_
      go_wp2_with fail
      go_ret
      exact ⟨rfl, ⟨_, _, HH5.out⟩, HJ6.out⟩
end Go.Proofs.YtfondpakbiagjaaGreatDoor
