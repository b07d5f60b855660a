/- Lines (channels) and the map of their numbers: what their operations do. -/
import Derived.Test.YtfondpakbiagjaaGreatDoorHWtR
namespace Go.Proofs.YtfondpakbiagjaaGreatDoor
open Go.RowKit
set_option maxRecDepth 100000
set_option linter.unusedSimpArgs false
def chV (b : Nat) : Value := .chan (some b)
theorem run_mk (w : World) : (Instr.makeChan 102 (.int .i64 0)).run Tryz.prog w = .ok (.chan (some w.heap.size)) (w.alloc (.chan 0 #[] false 0 0 false)) := by kernel_rfl
theorem run_eq (a b : Nat) (w : World) : (Op.equal 102 (chV a) (chV b)).run Tryz.prog w = .ok (a == b) w := by
  have h : (Op.equal 102 (chV a) (chV b)).run Tryz.prog w = .ok (some a == some b) w := by kernel_rfl
  rw [h]; simp
/-- An entry of the map of numbers: a number and its line. -/
def entF (p : Nat × Nat) : MapEntry := ⟨chV p.2, .int .i64 (p.1 : Int), p.1⟩
theorem find_miss (c : Nat) (w : World) : ∀ (es : List (Nat × Nat)) (i : Nat), (∀ p ∈ es, p.2 ≠ c) → (Instr.findAsking 102 (chV c) (es.map entF) i).run Tryz.prog w = .ok none w
  | [], i, _ => by simp [Instr.findAsking]
  | p :: es, i, h => by
    have ih := find_miss c w es (i + 1) (fun q hq => h q (List.mem_cons_of_mem _ hq))
    have he : (Op.equal 102 (chV c) (entF p).key).run Tryz.prog w = .ok (c == p.2) w := run_eq c p.2 w
    have hne : ¬ c = p.2 := fun e => h p (List.mem_cons_self ..) e.symm
    simp only [List.map_cons, Instr.findAsking]
    simp [he, ih, hne]
theorem find_hit (c k : Nat) (w : World) : ∀ (es : List (Nat × Nat)) (j i : Nat), es[j]? = some (k, c) → (∀ (q : Nat) p, q < j → es[q]? = some p → p.2 ≠ c) → (Instr.findAsking 102 (chV c) (es.map entF) i).run Tryz.prog w = .ok (some (i + j, .int .i64 (k : Int))) w
  | [], j, i, h, _ => by simp at h
  | p :: es, 0, i, h, _ => by
    simp at h
    subst h
    have he : (Op.equal 102 (chV c) (chV c)).run Tryz.prog w = .ok (c == c) w := run_eq c c w
    simp only [List.map_cons, Instr.findAsking, entF]
    simp [he]
  | p :: es, j + 1, i, h, hn => by
    have ih := find_hit c k w es j (i + 1) (by simpa using h) (fun q p' hq hp => hn (q + 1) p' (by omega) (by simpa using hp))
    have he : (Op.equal 102 (chV c) (entF p).key).run Tryz.prog w = .ok (c == p.2) w := run_eq c p.2 w
    have hne : ¬ c = p.2 := fun e => hn 0 p (by omega) (by simp) e.symm
    simp only [List.map_cons, Instr.findAsking]
    simp [he, ih, hne]
    omega
theorem run_findKey (c : Nat) (w : World) (es : List (Nat × Nat)) (res : Option (Nat × Value)) (h : (Instr.findAsking 102 (chV c) (es.map entF)).run Tryz.prog w = .ok res w) : (Instr.findKey 102 (chV c) (es.map entF)).run Tryz.prog w = .ok res w := by
  unfold Instr.findKey
  cases es with
  | nil =>
    simp [Instr.findAsking] at h
    subst h
    simp [Instr.findNow, Tryz.underlying102]
  | cons p es =>
    simp [Instr.findNow, Instr.sameNow, chV, Tryz.underlying102]
    exact h
theorem run_check (b : Bool) (c : Nat) (w : World) : (Instr.checkKey b 10000 102 (chV c)).run Tryz.prog w = .ok () w := by
  cases b <;> kernel_rfl
/-- The number that a line has. -/
theorem run_number (r c k : Nat) (w : World) (es : List (Nat × Nat)) (cl : Nat) (j : Nat) (hw : w.heap[r]? = some (.map (es.map entF).toArray cl)) (hj : es[j]? = some (k, c)) (hn : ∀ (q : Nat) p, q < j → es[q]? = some p → p.2 ≠ c) :
    (Instr.lookup 105 (.map (some r)) (chV c) false).run Tryz.prog w = .ok (.int .i64 (k : Int)) w := by
  have hf := run_findKey c w es _ (find_hit c k w es j 0 hj hn)
  have hc := fun b => run_check b c w
  have hu : Tryz.prog.underlying 105 = some (.map 102 3) := Tryz.underlying105
  generalize hT : 105 = T at hu ⊢
  simp [Instr.lookup, run_underlying hu, Go.MapKept.run_getObj_map hw, hc, hf]
theorem run_enter (r c k : Nat) (w : World) (es : List (Nat × Nat)) (cl : Nat) (hw : w.heap[r]? = some (.map (es.map entF).toArray cl)) (hn : ∀ p ∈ es, p.2 ≠ c) (hcl : cl = k) :
    ∃ W, (Instr.mapUpdate 105 (.map (some r)) (chV c) (.int .i64 (k : Int))).run Tryz.prog w = .ok () W ∧ W.heap[r]? = some (.map ((es ++ [(k, c)]).map entF).toArray (k + 1)) ∧ (∀ q, q ≠ r → W.heap[q]? = w.heap[q]?) ∧ W.heap.size = w.heap.size ∧ W.os = w.os ∧ W.tape = w.tape ∧ W.output = w.output := by
  have hf := run_findKey c w es _ (find_miss c w es 0 hn)
  have hc := fun b => run_check b c w
  have hu : Tryz.prog.underlying 105 = some (.map 102 3) := Tryz.underlying105
  generalize hT : 105 = T at hu ⊢
  have hlt : r < w.heap.size := (Array.getElem?_eq_some_iff.1 hw).1
  refine ⟨{ w with heap := w.heap.setIfInBounds r (.map (es.map entF ++ [(⟨chV c, .int .i64 (k : Int), cl⟩ : MapEntry)]).toArray (cl + 1)) }, by simp only [Instr.mapUpdate]; simp [run_underlying hu, Go.MapKept.run_getObj_map hw, hc, hf, Go.MapKept.run_setObj_map _ hw], ?_, fun q hq => ?_, ?_, rfl, rfl, rfl⟩
  · subst hcl
    show (w.heap.setIfInBounds r _)[r]? = _
    rw [Array.getElem?_setIfInBounds_self_of_lt hlt, List.map_append]
    rfl
  · show (w.heap.setIfInBounds r _)[q]? = _
    rw [Array.getElem?_setIfInBounds_ne (fun e => hq e.symm)]
  · show (w.heap.setIfInBounds r _).size = _
    simp
end Go.Proofs.YtfondpakbiagjaaGreatDoor
