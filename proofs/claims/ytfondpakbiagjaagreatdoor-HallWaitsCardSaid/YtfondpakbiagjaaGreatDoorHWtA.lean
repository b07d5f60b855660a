/- Rows of lines; the closure of report, IndexFunc. -/
import Derived.Test.YtfondpakbiagjaaGreatDoorHWtM
namespace Go.Proofs.YtfondpakbiagjaaGreatDoor
open Go.RowKit
set_option linter.unusedVariables false
set_option linter.unusedSimpArgs false
set_option maxRecDepth 100000
set_option maxHeartbeats 4000000
theorem infoC : (Tryz.prog.info? 102).map (fun i => (i.zero, i.size, i.bytes)) = some (some (.chan none), 1, 8) := by kernel_rfl
/-- A row of lines of one's own. -/
def OwnC (w : World) (B : Nat) (v : Value) (cs : List Nat) : Prop := w.ownsRow B 102 1 v cs.length (cs.map chV)
theorem OwnC.slice {w : World} {B : Nat} {v : Value} {xs : List Nat} (h : OwnC w B v xs) : ∃ A c, v = .slice A xs.length c := ownsRow_slice h
theorem OwnC.nil (w : World) (B : Nat) : OwnC w B (.slice none 0 0) [] := World.ownsRow_nil w B 102 1
theorem OwnC.rd {w : World} {B : Nat} {v : Value} {xs : List Nat} (h : OwnC w B v xs) : Rd chV w (fun _ => True) v xs := (Rd.of_own (f := chV) (xs := xs) h).mono fun _ _ => trivial
theorem OwnC.stay {w w' : World} {B : Nat} {v : Value} {xs : List Nat} (h : OwnC w B v xs) (hb : Below w.heap.size w w') : OwnC w' B v xs :=
  World.ownsRow.kept h ⟨hb.os, hb.tape, hb.output, hb.size, fun k hk _ => hb.block k hk⟩ (Classical.em _)
theorem OwnC.kept {w w' : World} {B : Nat} {v : Value} {xs : List Nat} {row : Option Nat} (h : OwnC w B v xs) (hg : w.grownBy w' row) (hn : v.ownBlock = none ∨ v.ownBlock ≠ row) : OwnC w' B v xs := World.ownsRow.kept h hg hn
theorem OwnC.form {w : World} {B : Nat} {v : Value} {xs : List Nat} (h : OwnC w B v xs) (hx : xs ≠ []) : ∃ g cap cur, v = .slice (some ⟨g, 0, none⟩) xs.length cap ∧ B ≤ g ∧ w.heap[g]? = some (.cells cur 102 (0, 0)) ∧ xs.length ≤ cap ∧ cap ≤ maxLen ∧ cur.size = cap ∧ cur.toList.take xs.length = xs.map chV := by
  rcases h with ⟨h1, ⟨rfl, h2⟩ | ⟨g, cap, cur, h2, h3, h4, h5, h6, h7, h8⟩⟩
  · exact absurd (List.length_eq_zero_iff.1 h2) hx
  · rw [Nat.mul_one] at h7 h8
    exact ⟨g, cap, cur, h2, h3, h4, h5, h6, h7, h8⟩
theorem rep1_any (x c bx : Nat) (w : World) (hc : w.cell? ⟨bx, 0, none⟩ = some (.chan (some c))) :
    Calls Tryz.prog 75 #[.chan (some x), .pointer (some ⟨bx, 0, none⟩)] w fun e w' => e = .returned (.bool (x == c)) ∧ w' = w := by
  have hq : ∀ W, (binOp .eql 102 (.chan (some x)) (.chan (some c))).run Tryz.prog W = .ok (.bool (x == c)) W := fun W => by
    have h : (binOp .eql 102 (.chan (some x)) (.chan (some c))).run Tryz.prog W = .ok (.bool (some x == some c)) W := by kernel_rfl
    rw [h]; simp
  obtain ⟨b, hb⟩ : ∃ b, b = (x == c) := ⟨_, rfl⟩
  rw [← hb] at hq ⊢
  clear hb
  go_enter Tryz.func75, Tryz.ntmps75
  go_wp2_with fail
  go_ret
  exact ⟨rfl, rfl⟩
theorem idxC_any (v : Value) (cs : List Nat) (c bx : Nat) (S : Nat → Prop) (w : World) (hv : Rd chV w S v cs) (hl : cs.length ≤ 1000) (hc : w.cell? ⟨bx, 0, none⟩ = some (.chan (some c))) :
    Calls Tryz.prog 94 #[v, .func (.func 75) #[] #[.pointer (some ⟨bx, 0, none⟩)]] w
      fun e w' => ((∃ i : Nat, e = .returned (.int .i64 (i : Int)) ∧ cs[i]? = some c ∧ ∀ j, j < i → cs[j]? ≠ some c) ∨ (e = .returned (.int .i64 (-1)) ∧ ∀ j : Nat, cs[j]? ≠ some c)) ∧ w' = w := by
  obtain ⟨A, n, cap, rfl, hnl, hcap, hmax, hca⟩ := hv.open_
  have HN := Lib.hid hnl
  have HC := Lib.hid hca
  have hn1 : n ≤ 1000 := by omega
  have HR := Lib.hid (fun x => rep1_any x c bx w hc)
  clear hnl hca hv hl hc
  go_enter Tryz.func94, Tryz.ntmps94
  go_wp2_with fail
  go_loopw [8] (fun iv wr => ∃ i : Nat, i ≤ n ∧ iv = .int .i64 (i : Int) ∧ Hid (∀ j, j < i → cs[j]? ≠ some c) ∧ wr = w) (fun iv _ => n - (RowKit.intOf iv).toNat)
  case atStart => exact ⟨0, Nat.zero_le _, rfl, fun j h => absurd h (Nat.not_lt_zero _), rfl⟩
  case round =>
    obtain ⟨i, hi, rfl, HI, hw⟩ := hrel
    obtain rfl := hw.symm
    clear hw
    by_cases hlt : i < n
    · obtain ⟨b, off, p, rfl, -, hp, hcell⟩ := HC.out i hlt
      have HP := Lib.hid hp
      have hcell' : w.cell? ⟨b, off + i, none⟩ = some (.chan (some p)) := hcell
      have HRP := Lib.hid (HR.out p)
      have hii : (i : Int) < (n : Int) := by omega
      have hi0 : (0 : Int) ≤ (i : Int) := by omega
      have hwi : IntKind.i64.wrap ((i : Int) + 1) = (i : Int) + 1 := IntWalk.i64_in _ (by omega)
      clear hp hcell
      go_wp2_with fail
      refine HRP.out.mono ?_
      rintro e w1 ⟨rfl, hw⟩
      obtain rfl := hw.symm
      clear hw HRP
      by_cases hpx : p = c
      · have hb : (p == c) = true := by simp [hpx]
        rw [hb]
        have HHIT : Hid (cs[i]? = some c) := by show _ = _; rw [← hpx]; exact HP.out
        clear hb
        go_wp2_with fail
        go_ret
        exact ⟨.inl ⟨i, rfl, HHIT.out, HI.out⟩, rfl⟩
      · have hb : (p == c) = false := by simp [hpx]
        rw [hb]
        have HI1 : Hid (∀ j, j < i + 1 → cs[j]? ≠ some c) := fun j hj => by
          rcases Nat.lt_or_ge j i with h | h
          · exact HI.out j h
          · obtain rfl : j = i := by omega
            rw [HP.out]; intro e; injection e with e; exact hpx e
        clear hb
        go_wp2_with fail
        go_roundw
        case rel => exact ⟨i + 1, by omega, by go_num, HI1.out, trivial⟩
        case measure => simp [RowKit.intOf]; omega
    · obtain rfl : i = n := by omega
      have HR2 : Hid (∀ j : Nat, cs[j]? ≠ some c) := fun j h => HI.out j (by have := (List.getElem?_eq_some_iff.1 h).1; have := HN.out; omega) h
      have hii : ¬ (i : Int) < (i : Int) := by omega
      go_wp2_with fail
      go_ret
      exact ⟨.inr ⟨rfl, HR2.out⟩, rfl⟩
end Go.Proofs.YtfondpakbiagjaaGreatDoor
