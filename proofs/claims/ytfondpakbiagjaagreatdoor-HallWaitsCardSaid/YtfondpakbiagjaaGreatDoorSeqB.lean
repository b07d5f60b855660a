/- Where two or three operations of a drawn region may come up: each of them in turn. -/
import Derived.Test.YtfondpakbiagjaaGreatDoorSeq
namespace Go.Proofs.YtfondpakbiagjaaGreatDoor
set_option linter.unusedVariables false
section
variable {P : Program} {ops : Array Oper} {Q : Exit → Act → World → Prop} {S : World → Prop}
theorem listedOf_perm {n : Nat} {l l' : List (Nat × Oper)} (h : l'.Perm l) : listedOf n l = listedOf n l' := by
  unfold listedOf
  congr 1
  refine List.map_congr_left fun i _ => ?_
  congr 1
  rw [Bool.eq_iff_iff, List.any_eq_true, List.any_eq_true]
  exact ⟨fun ⟨x, h1, h2⟩ => ⟨x, h.mem_iff.2 h1, h2⟩, fun ⟨x, h1, h2⟩ => ⟨x, h.mem_iff.1 h1, h2⟩⟩
theorem seq_perm {l l' : List (Nat × Oper)} {a : Act} {w : World} (h : l'.Perm l) (hs : Seq P ops Q S l' a w) : Seq P ops Q S l a w := fun hS hc hin => by
  have := hs hS hc (fun p hp => hin p (h.mem_iff.1 hp))
  rw [listedOf_perm h, ← h.length_eq]
  exact this
/-- None but p, q, r may come up. -/
def okThree (ops : Array Oper) (p q r : Nat × Oper) (rest : List (Nat × Oper)) : Bool :=
  (Region.ready .any ops (listedOf ops.size (p :: q :: r :: rest))).all (fun i => i == p.1 || i == q.1 || i == r.1) && !(Region.ready .any ops (listedOf ops.size (p :: q :: r :: rest))).isEmpty &&
    !((q :: r :: rest).any fun x => x.1 == p.1) && !((p :: r :: rest).any fun x => x.1 == q.1) && !((p :: q :: rest).any fun x => x.1 == r.1)
def okTwo (ops : Array Oper) (p q : Nat × Oper) (rest : List (Nat × Oper)) : Bool :=
  (Region.ready .any ops (listedOf ops.size (p :: q :: rest))).all (fun i => i == p.1 || i == q.1) && !(Region.ready .any ops (listedOf ops.size (p :: q :: rest))).isEmpty &&
    !((q :: rest).any fun x => x.1 == p.1) && !((p :: rest).any fun x => x.1 == q.1)
/-- One of them, carried out. -/
def StepTo (P : Program) (ops : Array Oper) (Q : Exit → Act → World → Prop) (S : World → Prop) (o : Oper) (rest : List (Nat × Oper)) (a : Act) (w : World) : Prop :=
  ∀ K : Act → World → Prop, Shut (∀ a w, S w → Seq P ops Q S rest a w → K a w) → Oper.wp P o a w K Q
theorem stepTo_op {i : Nat} {o : Oper} {rest all : List (Nat × Oper)} {a : Act} {w : World} (hc : calmOps ops = true) (hin : ∀ p ∈ all, ops[p.1]? = some p.2) (hperm : ((i, o) :: rest).Perm all) (hno : (rest.any fun x => x.1 == i) = false)
    (hw : Region.wanted o (yielded ops a.tmps) = true) (h : StepTo P ops Q S o rest a w) :
    wpOp P ops Q i (fun a' w' => S w' ∧ wpAnyH P .any ops Q S rest.length ((listedOf ops.size all).setIfInBounds i true) a' w') a w := by
  refine wpOp_step (hin _ (hperm.mem_iff.1 (List.mem_cons_self ..))) (fun K hK => ?_)
  rw [if_pos hw]
  refine h K fun a' w' hS' hq => hK a' w' ⟨hS', ?_⟩
  rw [listedOf_perm hperm, listedOf_next hno]
  exact hq hS' hc (fun p hp => hin p (hperm.mem_iff.1 (List.mem_cons_of_mem _ hp)))
theorem seq_three {p q r : Nat × Oper} {rest : List (Nat × Oper)} {a : Act} {w : World} (hok : okThree ops p q r rest = true)
    (hp : Region.wanted p.2 (yielded ops a.tmps) = true) (hq : Region.wanted q.2 (yielded ops a.tmps) = true) (hr : Region.wanted r.2 (yielded ops a.tmps) = true)
    (h1 : StepTo P ops Q S p.2 (q :: r :: rest) a w) (h2 : StepTo P ops Q S q.2 (p :: r :: rest) a w) (h3 : StepTo P ops Q S r.2 (p :: q :: rest) a w) : Seq P ops Q S (p :: q :: r :: rest) a w := by
  intro hS hc hin
  unfold okThree at hok
  simp only [Bool.and_eq_true, Bool.not_eq_true', List.isEmpty_eq_false_iff] at hok
  obtain ⟨⟨⟨⟨k1, k2⟩, k3⟩, k4⟩, k5⟩ := hok
  refine wpAnyH_ready rfl k2 fun i hi => ?_
  have := List.all_eq_true.1 k1 i hi
  simp only [Bool.or_eq_true, beq_iff_eq] at this
  rcases this with (e | e) | e
  · subst e; exact stepTo_op (rest := q :: r :: rest) hc hin (List.Perm.refl _) k3 hp h1
  · subst e; exact stepTo_op (rest := p :: r :: rest) hc hin (List.Perm.swap ..) k4 hq h2
  · subst e; exact stepTo_op (rest := p :: q :: rest) hc hin ((List.Perm.swap ..).trans (List.Perm.cons _ (List.Perm.swap ..))) k5 hr h3
theorem seq_both {p q : Nat × Oper} {rest : List (Nat × Oper)} {a : Act} {w : World} (hok : okTwo ops p q rest = true)
    (hp : Region.wanted p.2 (yielded ops a.tmps) = true) (hq : Region.wanted q.2 (yielded ops a.tmps) = true)
    (h1 : StepTo P ops Q S p.2 (q :: rest) a w) (h2 : StepTo P ops Q S q.2 (p :: rest) a w) : Seq P ops Q S (p :: q :: rest) a w := by
  intro hS hc hin
  unfold okTwo at hok
  simp only [Bool.and_eq_true, Bool.not_eq_true', List.isEmpty_eq_false_iff] at hok
  obtain ⟨⟨⟨k1, k2⟩, k3⟩, k4⟩ := hok
  refine wpAnyH_ready rfl k2 fun i hi => ?_
  have := List.all_eq_true.1 k1 i hi
  simp only [Bool.or_eq_true, beq_iff_eq] at this
  rcases this with e | e
  · subst e; exact stepTo_op (rest := q :: rest) hc hin (List.Perm.refl _) k3 hp h1
  · subst e; exact stepTo_op (rest := p :: rest) hc hin (List.Perm.swap ..) k4 hq h2
end
end Go.Proofs.YtfondpakbiagjaaGreatDoor
