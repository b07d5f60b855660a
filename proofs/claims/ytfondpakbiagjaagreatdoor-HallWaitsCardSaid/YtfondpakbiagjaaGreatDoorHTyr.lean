/- Tyres of a hall in memory; walks of cmp.Compare, the search's closure and the binary search. -/
import Derived.Test.YtfondpakbiagjaaGreatDoorHPack
import Derived.Test.YtfondpakbiagjaaGreatDoorRdK
namespace Go.Proofs.YtfondpakbiagjaaGreatDoor
open Go.RowKit Go.Lib
set_option linter.unusedVariables false
set_option linter.unusedSimpArgs false
set_option maxRecDepth 100000
set_option maxHeartbeats 4000000
def cmpI (x y : Int) : Int := if x < y then -1 else if y < x then 1 else 0
theorem isNaN_no (x : Int) (w : World) : Calls Tryz.prog 190 #[.int .i64 x] w fun e w' => e = .returned (.bool false) ∧ w' = w := by
  go_enter Tryz.func190, Tryz.ntmps190
  go_wp2_with fail
  go_ret
  exact ⟨by simp, rfl⟩
theorem compare_any (x y : Int) (w : World) : Calls Tryz.prog 141 #[.int .i64 x, .int .i64 y] w fun e w' => e = .returned (.int .i64 (cmpI x y)) ∧ w' = w := by
  unfold cmpI
  rcases Int.lt_trichotomy x y with h | h | h
  · rw [if_pos h]
    go_enter Tryz.func141, Tryz.ntmps141
    go_wp2_with fail
    refine (isNaN_no x w).mono ?_
    rintro e w1 ⟨rfl, hw⟩
    obtain rfl := hw.symm
    clear hw
    go_wp2_with fail
    refine (isNaN_no y _).mono ?_
    rintro e w1 ⟨rfl, hw⟩
    obtain rfl := hw.symm
    clear hw
    go_wp2_with fail
    go_ret
    exact ⟨rfl, rfl⟩
  · subst h
    rw [if_neg (Int.lt_irrefl _), if_neg (Int.lt_irrefl _)]
    go_enter Tryz.func141, Tryz.ntmps141
    go_wp2_with fail
    refine (isNaN_no x w).mono ?_
    rintro e w1 ⟨rfl, hw⟩
    obtain rfl := hw.symm
    clear hw
    go_wp2_with fail
    refine (isNaN_no x _).mono ?_
    rintro e w1 ⟨rfl, hw⟩
    obtain rfl := hw.symm
    clear hw
    go_wp2_with fail
    go_ret
    exact ⟨rfl, rfl⟩
  · have hn : ¬ x < y := by omega
    rw [if_neg hn, if_pos h]
    go_enter Tryz.func141, Tryz.ntmps141
    go_wp2_with fail
    refine (isNaN_no x w).mono ?_
    rintro e w1 ⟨rfl, hw⟩
    obtain rfl := hw.symm
    clear hw
    go_wp2_with fail
    refine (isNaN_no y _).mono ?_
    rintro e w1 ⟨rfl, hw⟩
    obtain rfl := hw.symm
    clear hw
    go_wp2_with fail
    go_ret
    exact ⟨rfl, rfl⟩
/-- A tyre that was neither measured nor mended. -/
structure TyD where
  id : Int
  st : Int
/-- Its cells. -/
def tyC (p : TyD) : List Value := [.int .i64 p.id, .int .i64 p.st, .int .i64 0, .int .i64 0, .int .i64 0, .complex .f32 0 0, .complex .f32 0 0, .complex .f32 0 0, .complex .f32 0 0, .complex .f32 0 0, .complex .f32 0 0, .complex .f32 0 0, .complex .f32 0 0, .complex .f32 0 0, .complex .f32 0 0, .complex .f32 0 0, .complex .f32 0 0, .complex .f32 0 0]
theorem tyC_len (p : TyD) : (tyC p).length = 18 := rfl
theorem tyC_0 (p : TyD) : ∃ u, (tyC p)[0]? = some u := ⟨_, rfl⟩
theorem infoT : (Tryz.prog.info? 184).map (fun i => (i.zero, i.size, i.bytes)) = some (some (.agg #[.int .i64 0, .int .i64 0, .int .i64 0, .int .i64 0, .int .i64 0, .complex .f32 0 0, .complex .f32 0 0, .complex .f32 0 0, .complex .f32 0 0, .complex .f32 0 0, .complex .f32 0 0, .complex .f32 0 0, .complex .f32 0 0, .complex .f32 0 0, .complex .f32 0 0, .complex .f32 0 0, .complex .f32 0 0, .complex .f32 0 0]), 18, 144) := by kernel_rfl
/-- A slice of tyres. -/
def RdT (w : World) (v : Value) (T : List TyD) : Prop := RdK 18 tyC w (fun _ => True) v T
theorem RdT.below {w w' : World} {v : Value} {T : List TyD} (h : RdT w v T) (hb : Below w.heap.size w w') : RdT w' v T := RdK.below h tyC_0 hb
/-- Its element's cells as a range. -/
theorem RdT.at {w : World} {v : Value} {T : List TyD} (h : RdT w v T) : ∃ A cap, v = .slice A T.length cap ∧ T.length ≤ 9223372036854775807 ∧
    ∀ k p, T[k]? = some p → ∃ b off, A = some ⟨b, off, none⟩ ∧ b < w.heap.size ∧ w.rangeAt b (off + k * 18) (tyC p) := by
  obtain ⟨A, cap, rfl, h1, h2, h3⟩ := h
  refine ⟨A, cap, rfl, by unfold maxLen at h2; omega, fun k p hp => ?_⟩
  obtain ⟨b, off, rfl, -, hc⟩ := h3 (fun e => by rw [e] at hp; simp at hp)
  exact ⟨b, off, rfl, World.block_lt_of_cell? w ⟨b, _, none⟩ (hc k p hp 0 _ rfl), fun j v hv => hc k p hp j v hv⟩
theorem find1_any (p : TyD) (id : Int) (w : World) : Calls Tryz.prog 172 #[.agg (tyC p).toArray, .int .i64 id] w fun e w' => e = .returned (.int .i64 (cmpI p.id id)) ∧ Below w.heap.size w w' := by
  unfold tyC
  obtain ⟨W1, HW1, HB1, HS1, j1⟩ := st_al0 w #[.int .i64 p.id, .int .i64 p.st, .int .i64 0, .int .i64 0, .int .i64 0, .complex .f32 0 0, .complex .f32 0 0, .complex .f32 0 0, .complex .f32 0 0, .complex .f32 0 0, .complex .f32 0 0, .complex .f32 0 0, .complex .f32 0 0, .complex .f32 0 0, .complex .f32 0 0, .complex .f32 0 0, .complex .f32 0 0, .complex .f32 0 0] 184
  have HJ := Lib.hid j1
  clear j1 HS1 HB1
  go_enter Tryz.func172, Tryz.ntmps172
  go_wp2_with fail
  rw [← HW1.out]
  refine (compare_any p.id id _).mono ?_
  rintro e w1 ⟨rfl, hw⟩
  obtain rfl := hw.symm
  clear hw HW1
  go_wp2_with fail
  go_ret
  exact ⟨rfl, HJ.out⟩
end Go.Proofs.YtfondpakbiagjaaGreatDoor
