/- Steps of a drawn region in short words: their side goals are told by default tactics. -/
import Derived.Test.YtfondpakbiagjaaGreatDoorSeqB
import Derived.StillTailTactics
namespace Go.Proofs.YtfondpakbiagjaaGreatDoor
set_option linter.unusedVariables false
section
variable {P : Program} {ops : Array Oper} {Q : Exit → Act → World → Prop} {S : World → Prop}
theorem tk0 {i : Nat} {o : Oper} {rest : List (Nat × Oper)} {a b : Act} {w : World} {v : Value} (hg : o.guard = none := by rfl) (hQ : ∀ c a w, Q (.panic c) (a.put o.dst v) w → Q (.panic c) a w := by exact fun _ _ _ h => h) (hok : okTake ops (i, o) rest = true := by kernel_rfl)
    (hv : ∀ w', S w' → (execOp a.eval o).run P w' = .ok (.value v) w' := by intro w' hSw; (try dsimp only at hSw); go_simp; (try with_reducible rfl); first | done | fail)
    (hb : a.put o.dst v = b := by first | (simp only [Act.put, List.setIfInBounds_toArray, List.set_cons_zero, List.set_cons_succ]; rfl) | rfl) (h : Seq P ops Q S rest b w) : Seq P ops Q S ((i, o) :: rest) a w := by
  subst hb
  exact seq_take0 hg hQ hok hv h
theorem tkG {i : Nat} {o : Oper} {rest : List (Nat × Oper)} {a b : Act} {w : World} {v : Value} {g d : Nat} {c : Bool} {u : Value} (hg : o.guard = some (g, c) := by rfl) (hd : (ops[g]?).bind (·.dst) = some d := by rfl) (hu : a.tmps[d]? = some u := by rfl) (hi : isB u c = true := by first | rfl | (go_simp; first | done | fail))
    (hQ : ∀ c a w, Q (.panic c) (a.put o.dst v) w → Q (.panic c) a w := by exact fun _ _ _ h => h) (hok : okTake ops (i, o) rest = true := by kernel_rfl) (hv : ∀ w', S w' → (execOp a.eval o).run P w' = .ok (.value v) w' := by intro w' hSw; (try dsimp only at hSw); go_simp; (try with_reducible rfl); first | done | fail)
    (hb : a.put o.dst v = b := by first | (simp only [Act.put, List.setIfInBounds_toArray, List.set_cons_zero, List.set_cons_succ]; rfl) | rfl) (h : Seq P ops Q S rest b w) : Seq P ops Q S ((i, o) :: rest) a w := by
  subst hb
  exact seq_takeG hg hd hu hi hQ hok hv h
theorem skG {i : Nat} {o : Oper} {rest : List (Nat × Oper)} {a b : Act} {w : World} {g d : Nat} {c : Bool} {u : Value} (hg : o.guard = some (g, c) := by rfl) (hd : (ops[g]?).bind (·.dst) = some d := by rfl) (hu : a.tmps[d]? = some u := by rfl) (hi : isB u c = false := by first | rfl | (go_simp; first | done | fail))
    (hQ : ∀ c a w, Q (.panic c) (a.put o.dst undef) w → Q (.panic c) a w := by exact fun _ _ _ h => h) (hok : okTake ops (i, o) rest = true := by kernel_rfl)
    (hb : a.put o.dst undef = b := by first | (simp only [Act.put, List.setIfInBounds_toArray, List.set_cons_zero, List.set_cons_succ]; rfl) | rfl) (h : Seq P ops Q S rest b w) : Seq P ops Q S ((i, o) :: rest) a w := by
  subst hb
  exact seq_skipG hg hd hu hi hQ hok h
theorem sop {i : Nat} {o : Oper} {rest : List (Nat × Oper)} {a : Act} {w : World} (hok : okOnly ops (i, o) rest = true := by kernel_rfl) (hw : Region.wanted o (yielded ops a.tmps) = true := by rfl)
    (h : ∀ K : Act → World → Prop, Shut (∀ a w, S w → Seq P ops Q S rest a w → K a w) → Oper.wp P o a w K Q) : Seq P ops Q S ((i, o) :: rest) a w := seq_op hok hw h
theorem ckk {rest : List (Nat × Oper)} {a b : Act} {w : World} {K : Act → World → Prop} (hK : Shut (∀ a w, S w → Seq P ops Q S rest a w → K a w)) (hS : S w) (hb : a = b := by first | (simp only [Act.put, List.setIfInBounds_toArray, List.set_cons_zero, List.set_cons_succ]; rfl) | rfl) (h : Seq P ops Q S rest b w) : K a w := by
  subst hb
  exact hK.out a w hS h
theorem nrm {rest : List (Nat × Oper)} {a b : Act} {w : World} (hb : a = b := by first | (simp only [Act.put, List.setIfInBounds_toArray, List.set_cons_zero, List.set_cons_succ]; rfl) | rfl) (h : Seq P ops Q S rest b w) : Seq P ops Q S rest a w := by
  subst hb
  exact h
end
end Go.Proofs.YtfondpakbiagjaaGreatDoor
