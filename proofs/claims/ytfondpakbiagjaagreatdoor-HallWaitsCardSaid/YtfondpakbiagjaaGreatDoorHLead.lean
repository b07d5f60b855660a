/- The walks of lead, cure, judge; changes. -/
import Derived.Test.YtfondpakbiagjaaGreatDoorHFit
import Derived.Maps.OwnSet
namespace Go.Proofs.YtfondpakbiagjaaGreatDoor
open Go.RowKit Go.Lib Go.Maps
set_option linter.unusedVariables false
set_option linter.unusedSimpArgs false
set_option maxRecDepth 100000
set_option maxHeartbeats 4000000
theorem lead_yes (b o : Nat) (x y : Int) (w : World) (h : w.cell? ⟨b, o + 1, none⟩ = some (.int .i64 x)) (hf : w.frozen? ⟨b, o + 1, none⟩ = false) :
    Calls Tryz.prog 222 #[.pointer (some ⟨b, o, none⟩), .int .i64 x, .int .i64 y] w fun e w' => e = .returned (.int .i64 0) ∧ w' = w.setCell ⟨b, o + 1, none⟩ (.int .i64 y) := by
  go_enter Tryz.func222, Tryz.ntmps222
  go_wp2_with fail
  go_ret
  exact ⟨rfl, rfl⟩
theorem lead_no (b o : Nat) (s x y : Int) (w : World) (h : w.cell? ⟨b, o + 1, none⟩ = some (.int .i64 s)) (hs : s ≠ x) :
    Calls Tryz.prog 222 #[.pointer (some ⟨b, o, none⟩), .int .i64 x, .int .i64 y] w fun e w' => e = .returned (.int .i64 100) ∧ w' = w := by
  have hb : (s == x) = false := beq_false_of_ne hs
  go_enter Tryz.func222, Tryz.ntmps222
  go_wp2_with fail
  go_ret
  exact ⟨rfl, rfl⟩
/-- A function value as an element. -/
def fnR (v : Value) : Option (DataW Unit × List MemPlace) := match v with
  | .func (.func f) a b => if a.size = 0 ∧ b.size = 0 then some (.lit (.int .i64 (f : Int)), []) else none
  | .nilFunc => some (.lit (.bool false), [])
  | _ => none
theorem fnR_inv {v : Value} {f : Nat} {ps : List MemPlace} (h : fnR v = some (.lit (.int .i64 (f : Int)), ps)) : v = .func (.func f) #[] #[] := by
  unfold fnR at h
  split at h
  · rename_i g a b
    split at h
    · rename_i he
      obtain rfl := Array.eq_empty_of_size_eq_zero he.1
      obtain rfl := Array.eq_empty_of_size_eq_zero he.2
      simp at h
      have : g = f := Int.ofNat.inj h.1
      rw [this]
    · cases h
  · simp at h
  · cases h
theorem keyI : Keyed Tryz.prog 3 := int_keyed Tryz.underlying3
theorem key_i (k : Int) (h : (Lit.int .i64 k).wf = true) : keyOf Tryz.prog 3 (.int .i64 k) = some (.int .i64 k) := keyOf_int_mk Tryz.underlying3 h
def chD : DataW Unit := (((((((((DataW.map [] : DataW Unit).put (.int .i64 3) (.lit (.int .i64 (179 : Nat)))).put (.int .i64 4) (.lit (.int .i64 (180 : Nat)))).put (.int .i64 5) (.lit (.int .i64 (181 : Nat)))).put (.int .i64 6) (.lit (.int .i64 (182 : Nat)))).put (.int .i64 7) (.lit (.int .i64 (183 : Nat)))).put (.int .i64 8) (.lit (.int .i64 (184 : Nat)))).put (.int .i64 9) (.lit (.int .i64 (185 : Nat)))).put (.int .i64 10) (.lit (.int .i64 (186 : Nat))))
theorem changes_any (w : World) : Calls Tryz.prog 136 #[] w fun e w' => e = .returned (.map (some w.heap.size)) ∧ w'.ownsMap Tryz.prog 3 fnR w.heap.size 8 chD ∧ Below w.heap.size w w' := by
  have h0 := World.ownsMap_made (H := Unit) w Tryz.prog 3 fnR
  have hmm := @run_makeMap Tryz.prog
  have b0 : Below w.heap.size w (w.alloc (.map #[] 0)) := (Below.refl _ _).alloc (Nat.le_refl _) _
  obtain ⟨w1, r1, h1, g1⟩ := h0.update keyI Tryz.underlying229 (by unfold maxLen; omega) (key_i 3 (by decide)) (show fnR (.func (.func 179) #[] #[]) = _ from rfl)
  have b1 : Below w.heap.size w w1 := b0.grown g1 (by first | (simp; omega) | (have := b0.size; omega)) (fun k hk => by injection hk with hk; omega)
  obtain ⟨w2, r2, h2, g2⟩ := h1.update keyI Tryz.underlying229 (by unfold maxLen; omega) (key_i 4 (by decide)) (show fnR (.func (.func 180) #[] #[]) = _ from rfl)
  have b2 : Below w.heap.size w w2 := b1.grown g2 (by first | (simp; omega) | (have := b1.size; omega)) (fun k hk => by injection hk with hk; omega)
  obtain ⟨w3, r3, h3, g3⟩ := h2.update keyI Tryz.underlying229 (by unfold maxLen; omega) (key_i 5 (by decide)) (show fnR (.func (.func 181) #[] #[]) = _ from rfl)
  have b3 : Below w.heap.size w w3 := b2.grown g3 (by first | (simp; omega) | (have := b2.size; omega)) (fun k hk => by injection hk with hk; omega)
  obtain ⟨w4, r4, h4, g4⟩ := h3.update keyI Tryz.underlying229 (by unfold maxLen; omega) (key_i 6 (by decide)) (show fnR (.func (.func 182) #[] #[]) = _ from rfl)
  have b4 : Below w.heap.size w w4 := b3.grown g4 (by first | (simp; omega) | (have := b3.size; omega)) (fun k hk => by injection hk with hk; omega)
  obtain ⟨w5, r5, h5, g5⟩ := h4.update keyI Tryz.underlying229 (by unfold maxLen; omega) (key_i 7 (by decide)) (show fnR (.func (.func 183) #[] #[]) = _ from rfl)
  have b5 : Below w.heap.size w w5 := b4.grown g5 (by first | (simp; omega) | (have := b4.size; omega)) (fun k hk => by injection hk with hk; omega)
  obtain ⟨w6, r6, h6, g6⟩ := h5.update keyI Tryz.underlying229 (by unfold maxLen; omega) (key_i 8 (by decide)) (show fnR (.func (.func 184) #[] #[]) = _ from rfl)
  have b6 : Below w.heap.size w w6 := b5.grown g6 (by first | (simp; omega) | (have := b5.size; omega)) (fun k hk => by injection hk with hk; omega)
  obtain ⟨w7, r7, h7, g7⟩ := h6.update keyI Tryz.underlying229 (by unfold maxLen; omega) (key_i 9 (by decide)) (show fnR (.func (.func 185) #[] #[]) = _ from rfl)
  have b7 : Below w.heap.size w w7 := b6.grown g7 (by first | (simp; omega) | (have := b6.size; omega)) (fun k hk => by injection hk with hk; omega)
  obtain ⟨w8, r8, h8, g8⟩ := h7.update keyI Tryz.underlying229 (by unfold maxLen; omega) (key_i 10 (by decide)) (show fnR (.func (.func 186) #[] #[]) = _ from rfl)
  have b8 : Below w.heap.size w w8 := b7.grown g8 (by first | (simp; omega) | (have := b7.size; omega)) (fun k hk => by injection hk with hk; omega)
  have HF := Lib.hid h8
  have HB := Lib.hid b8
  clear h0 h1 h2 h3 h4 h5 h6 h7 h8 g1 g2 g3 g4 g5 g6 g7 g8 b0 b1 b2 b3 b4 b5 b6 b7 b8
  go_enter Tryz.func136, Tryz.ntmps136
  go_wp2_with fail
  go_ret
  exact ⟨rfl, HF.out, HB.out⟩
theorem zeroFn (w : World) : (zeroValue 227).run Tryz.prog w = .ok .nilFunc w := by kernel_rfl
theorem look_at {w : World} {r : Nat} (h : w.ownsMap Tryz.prog 3 fnR r 8 chD) (k : Int) (f : Nat) (hk : (Lit.int .i64 k).wf = true) (hD : chD.atKey (.int .i64 k) (.lit (.bool false)) = .lit (.int .i64 (f : Int))) (hh : Maps.has chD (.int .i64 k) = true) :
    (Instr.lookup 229 (.map (some r)) (.int .i64 k) true).run Tryz.prog w = .ok (.tuple #[.func (.func f) #[] #[], .bool true]) w := by
  obtain ⟨v, ps, h1, h2⟩ := h.look_ok keyI Tryz.underlying229 (zeroFn w) (show fnR .nilFunc = some (.lit (.bool false), []) from rfl) (key_i k hk)
  rw [hD] at h2
  rw [h1, hh, fnR_inv h2]
theorem look_none {w : World} {r : Nat} (h : w.ownsMap Tryz.prog 3 fnR r 8 chD) (k : Int) (hk : (Lit.int .i64 k).wf = true) (hh : Maps.has chD (.int .i64 k) = false) :
    ∃ v, (Instr.lookup 229 (.map (some r)) (.int .i64 k) true).run Tryz.prog w = .ok (.tuple #[v, .bool false]) w := by
  obtain ⟨v, ps, h1, h2⟩ := h.look_ok keyI Tryz.underlying229 (zeroFn w) (show fnR .nilFunc = some (.lit (.bool false), []) from rfl) (key_i k hk)
  exact ⟨v, by rw [h1, hh]⟩
theorem at_cure : chD.atKey (.int .i64 3) (.lit (.bool false)) = .lit (.int .i64 (179 : Nat)) ∧ Maps.has chD (.int .i64 3) = true := ⟨by rfl, by rfl⟩
theorem at_judge : chD.atKey (.int .i64 4) (.lit (.bool false)) = .lit (.int .i64 (180 : Nat)) ∧ Maps.has chD (.int .i64 4) = true := ⟨by rfl, by rfl⟩
theorem at_build : Maps.has chD (.int .i64 2) = false := by rfl
end Go.Proofs.YtfondpakbiagjaaGreatDoor
