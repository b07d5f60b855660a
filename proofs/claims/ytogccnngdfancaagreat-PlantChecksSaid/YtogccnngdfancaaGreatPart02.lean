/- A region that draws its order, walked operation after operation: plain, and in the body of a round. Where two or three operations of a drawn region may come up: each of them in turn. Plain laws of schedules: when a job fits; the earliest time that fits is the start or an end of a job of the kind. Plain laws of bounds: no schedule without an error ends before Bound. The walks of works: up, end, running, check. Slices whose elements take several cells each, read as lists. -/
import Derived.Deep.RegionHeld
import Derived.OrdersIn
import Derived.RowKit
import Derived.Test.YtogccnngdfancaaGreatPart01
import Derived.IntWalk
namespace Go.Proofs.YtogccnngdfancaaGreat
set_option linter.unusedVariables false
section
variable {P : Program} {ops : Array Oper} {Q : Exit → Act → World → Prop} {S : World → Prop}
/-- The operations with their places. -/
def places : Nat → List Oper → List (Nat × Oper)
  | _, [] => []
  | k, o :: l => (k, o) :: places (k + 1) l
theorem places_get : ∀ (l : List Oper) (k : Nat) (p : Nat × Oper), p ∈ places k l → k ≤ p.1 ∧ l[p.1 - k]? = some p.2
  | [], _, _, h => by cases h
  | o :: l, k, p, h => by
    rcases List.mem_cons.1 h with rfl | h
    · exact ⟨Nat.le_refl _, by simp⟩
    · obtain ⟨h1, h2⟩ := places_get l (k + 1) p h
      refine ⟨by omega, ?_⟩
      rw [show p.1 - k = (p.1 - (k + 1)) + 1 by omega]
      exact h2
theorem places_len : ∀ (l : List Oper) (k : Nat), (places k l).length = l.length
  | [], _ => rfl
  | o :: l, k => by simp [places, places_len l (k + 1)]
theorem places_has : ∀ (l : List Oper) (k i : Nat), k ≤ i → i < k + l.length → (places k l).any (fun p => p.1 == i) = true
  | [], k, i, h1, h2 => by simp at h2; omega
  | o :: l, k, i, h1, h2 => by
    simp only [places, List.any_cons, Bool.or_eq_true, beq_iff_eq]
    by_cases h : k = i
    · exact .inl h
    · exact .inr (places_has l (k + 1) i (by omega) (by simp at h2; omega))
/-- Which operations have come up, out of those that have not. -/
def listedOf (n : Nat) (rest : List (Nat × Oper)) : Array Bool := ((List.range n).map fun i => !(rest.any fun p => p.1 == i)).toArray
theorem listedOf_size (n : Nat) (rest : List (Nat × Oper)) : (listedOf n rest).size = n := by simp [listedOf]
theorem listedOf_get (n : Nat) (rest : List (Nat × Oper)) (i : Nat) : (listedOf n rest)[i]? = if i < n then some (!(rest.any fun p => p.1 == i)) else none := by
  unfold listedOf
  rw [List.getElem?_toArray, List.getElem?_map]
  split
  · rename_i h; rw [List.getElem?_range h]; rfl
  · rename_i h; rw [List.getElem?_eq_none (by simpa using h)]; rfl
theorem listedOf_start (l : List Oper) : listedOf l.toArray.size (places 0 l) = Array.replicate l.toArray.size false := by
  refine Array.ext_getElem? fun i => ?_
  rw [listedOf_get, Array.getElem?_replicate]
  split
  · rename_i h; rw [places_has l 0 i (by omega) (by simpa using h)]; rfl
  · rfl
theorem listedOf_next {n i : Nat} {o : Oper} {rest : List (Nat × Oper)} (h : (rest.any fun p => p.1 == i) = false) : (listedOf n ((i, o) :: rest)).setIfInBounds i true = listedOf n rest := by
  refine Array.ext_getElem? fun j => ?_
  rw [Array.getElem?_setIfInBounds, listedOf_size, listedOf_get, listedOf_get]
  by_cases hj : i = j
  · subst hj
    rw [if_pos rfl]
    split
    · rw [h]; rfl
    · rfl
  · rw [if_neg hj]
    split
    · simp [hj]
    · rfl
theorem listedOf_swap {n : Nat} {p q : Nat × Oper} {rest : List (Nat × Oper)} : listedOf n (p :: q :: rest) = listedOf n (q :: p :: rest) := by
  refine Array.ext_getElem? fun j => ?_
  rw [listedOf_get, listedOf_get]
  simp only [List.any_cons]
  rw [Bool.or_left_comm]
/-- Operation i may be taken first. -/
def okTake (ops : Array Oper) (p : Nat × Oper) (rest : List (Nat × Oper)) : Bool :=
  Region.free .any ops (listedOf ops.size (p :: rest)) p.1 && (Region.ready .any ops (listedOf ops.size (p :: rest))).contains p.1 && !(rest.any fun q => q.1 == p.1)
/-- Operation i alone may come up. -/
def okOnly (ops : Array Oper) (p : Nat × Oper) (rest : List (Nat × Oper)) : Bool :=
  (Region.ready .any ops (listedOf ops.size (p :: rest)) == [p.1]) && !(rest.any fun q => q.1 == p.1)
def calmOps (ops : Array Oper) : Bool := ops.all fun o => match o.op with | .select .. => false | .defer .. => false | _ => true
theorem calm_select (h : calmOps ops = true) : Region.noSelect ops = true := by
  unfold calmOps at h
  unfold Region.noSelect
  rw [Array.all_eq_true_iff_forall_mem] at h ⊢
  intro o ho
  have := h o ho
  split at this <;> simp_all
/-! What a guard says, out of the value in its temporary. -/
def isB (u : Value) (b : Bool) : Bool := match u with | .bool c => c == b | _ => false
theorem wanted_free {o : Oper} {a : Act} (h : o.guard = none) : Region.wanted o (yielded ops a.tmps) = true := by simp [Region.wanted, h]
theorem wanted_isB {o : Oper} {a : Act} {g d : Nat} {b : Bool} {u : Value} (hg : o.guard = some (g, b)) (hd : (ops[g]?).bind (·.dst) = some d) (hv : a.tmps[d]? = some u) : Region.wanted o (yielded ops a.tmps) = isB u b := by
  unfold Region.wanted yielded
  rw [hg]
  simp only [hd, Option.bind_some, hv]
  cases u <;> simp [isB]

/-! In no fence. -/
/-- What is left of a region, in the order in which it is walked. -/
def Seq (P : Program) (ops : Array Oper) (Q : Exit → Act → World → Prop) (S : World → Prop) (rest : List (Nat × Oper)) (a : Act) (w : World) : Prop :=
  S w → calmOps ops = true → (∀ p ∈ rest, ops[p.1]? = some p.2) → wpAnyH P .any ops Q S rest.length (listedOf ops.size rest) a w
theorem seq_start {id : Nat} {l : List Oper} {a : Act} {w : World} (hm : P.follows .mixedOrders = true) (hc : calmOps l.toArray = true) (hS : S w.drew) (h : Seq P l.toArray Q S (places 0 l) a w.drew) : (Code.region id l.toArray true).wp P Q a w := by
  refine wp_region_held_drew hm hS fun _ => ?_
  have := h hS hc (fun p hp => by have := places_get l 0 p hp; simpa using this.2)
  rw [listedOf_start, places_len] at this
  simpa using this
theorem seq_yield {i : Nat} {o : Oper} {rest : List (Nat × Oper)} {a : Act} {w : World} {v : Value} (hQ : ∀ c a w, Q (.panic c) (a.put o.dst v) w → Q (.panic c) a w) (hok : okTake ops (i, o) rest = true) (hy : YieldsIf P ops S o v a) (h : Seq P ops Q S rest (a.put o.dst v) w) : Seq P ops Q S ((i, o) :: rest) a w := by
  intro hS hc hin
  unfold okTake at hok
  simp only [Bool.and_eq_true, Bool.not_eq_true'] at hok
  obtain ⟨⟨h1, h2⟩, h3⟩ := hok
  have h4 := h hS hc (fun p hp => hin p (List.mem_cons_of_mem _ hp))
  rw [← listedOf_next (o := o) h3] at h4
  exact wpAnyH_take (hin _ (List.mem_cons_self ..)) (calm_select hc) h1 h2 hQ hy hS h4
theorem seq_skip {i : Nat} {o : Oper} {rest : List (Nat × Oper)} {a : Act} {w : World} (hw : Region.wanted o (yielded ops a.tmps) = false) (hQ : ∀ c a w, Q (.panic c) (a.put o.dst undef) w → Q (.panic c) a w) (hok : okTake ops (i, o) rest = true) (h : Seq P ops Q S rest (a.put o.dst undef) w) : Seq P ops Q S ((i, o) :: rest) a w :=
  seq_yield hQ hok (.inr ⟨hw, rfl⟩) h
theorem seq_take {i : Nat} {o : Oper} {rest : List (Nat × Oper)} {a : Act} {w : World} {v : Value} (hw : Region.wanted o (yielded ops a.tmps) = true) (hQ : ∀ c a w, Q (.panic c) (a.put o.dst v) w → Q (.panic c) a w) (hok : okTake ops (i, o) rest = true) (hv : ∀ w', S w' → (execOp a.eval o).run P w' = .ok (.value v) w') (h : Seq P ops Q S rest (a.put o.dst v) w) : Seq P ops Q S ((i, o) :: rest) a w :=
  seq_yield hQ hok (.inl ⟨hw, hv⟩) h
theorem seq_take0 {i : Nat} {o : Oper} {rest : List (Nat × Oper)} {a : Act} {w : World} {v : Value} (hg : o.guard = none) (hQ : ∀ c a w, Q (.panic c) (a.put o.dst v) w → Q (.panic c) a w) (hok : okTake ops (i, o) rest = true) (hv : ∀ w', S w' → (execOp a.eval o).run P w' = .ok (.value v) w') (h : Seq P ops Q S rest (a.put o.dst v) w) : Seq P ops Q S ((i, o) :: rest) a w :=
  seq_take (wanted_free hg) hQ hok hv h
theorem seq_takeG {i : Nat} {o : Oper} {rest : List (Nat × Oper)} {a : Act} {w : World} {v : Value} {g d : Nat} {b : Bool} {u : Value} (hg : o.guard = some (g, b)) (hd : (ops[g]?).bind (·.dst) = some d) (hu : a.tmps[d]? = some u) (hb : isB u b = true) (hQ : ∀ c a w, Q (.panic c) (a.put o.dst v) w → Q (.panic c) a w) (hok : okTake ops (i, o) rest = true) (hv : ∀ w', S w' → (execOp a.eval o).run P w' = .ok (.value v) w') (h : Seq P ops Q S rest (a.put o.dst v) w) : Seq P ops Q S ((i, o) :: rest) a w :=
  seq_take ((wanted_isB hg hd hu).trans hb) hQ hok hv h
theorem seq_skipG {i : Nat} {o : Oper} {rest : List (Nat × Oper)} {a : Act} {w : World} {g d : Nat} {b : Bool} {u : Value} (hg : o.guard = some (g, b)) (hd : (ops[g]?).bind (·.dst) = some d) (hu : a.tmps[d]? = some u) (hb : isB u b = false) (hQ : ∀ c a w, Q (.panic c) (a.put o.dst undef) w → Q (.panic c) a w) (hok : okTake ops (i, o) rest = true) (h : Seq P ops Q S rest (a.put o.dst undef) w) : Seq P ops Q S ((i, o) :: rest) a w :=
  seq_skip ((wanted_isB hg hd hu).trans hb) hQ hok h
/-- The one operation that may come up. -/
theorem seq_op {i : Nat} {o : Oper} {rest : List (Nat × Oper)} {a : Act} {w : World} (hok : okOnly ops (i, o) rest = true) (hw : Region.wanted o (yielded ops a.tmps) = true)
    (h : ∀ K : Act → World → Prop, Shut (∀ a w, S w → Seq P ops Q S rest a w → K a w) → Oper.wp P o a w K Q) : Seq P ops Q S ((i, o) :: rest) a w := by
  intro hS hc hin
  unfold okOnly at hok
  simp only [Bool.and_eq_true, Bool.not_eq_true', beq_iff_eq] at hok
  obtain ⟨h1, h2⟩ := hok
  refine wpAnyH_ready h1 (by simp) (AllReadyH.cons (hin _ (List.mem_cons_self ..)) (fun K hK => ?_) AllReadyH.nil)
  rw [if_pos hw]
  refine h K fun a' w' hS' hq => hK a' w' hS' fun _ => ?_
  rw [listedOf_next h2]
  exact hq hS' hc (fun p hp => hin p (List.mem_cons_of_mem _ hp))
theorem seq_swap {p q : Nat × Oper} {rest : List (Nat × Oper)} {a : Act} {w : World} (h : Seq P ops Q S (q :: p :: rest) a w) : Seq P ops Q S (p :: q :: rest) a w := fun hS hc hin => by
  rw [listedOf_swap]
  exact h hS hc (fun r hr => hin r (by simp at hr ⊢; rcases hr with h | h | h <;> simp [h]))
theorem seq_done {a : Act} {w : World} (hok : Region.ready .any ops (listedOf ops.size []) = []) (h : Q .normal a w) : Seq P ops Q S [] a w := fun _ _ _ => wpAnyH_done hok h _

/-! In a fence that keeps no function out, and no depth. -/
variable {F : Fence} {n : Nat}
end
end Go.Proofs.YtogccnngdfancaaGreat
namespace Go.Proofs.YtogccnngdfancaaGreat
set_option linter.unusedVariables false
section
variable {P : Program} {ops : Array Oper} {Q : Exit → Act → World → Prop} {S : World → Prop}
theorem listedOf_perm {n : Nat} {l l' : List (Nat × Oper)} (h : l'.Perm l) : listedOf n l = listedOf n l' := by
  unfold listedOf
  congr 1
  refine List.map_congr_left fun i _ => ?_
  congr 1
  rw [Bool.eq_iff_iff, List.any_eq_true, List.any_eq_true]
  exact ⟨fun ⟨x, h1, h2⟩ => ⟨x, h.mem_iff.2 h1, h2⟩, fun ⟨x, h1, h2⟩ => ⟨x, h.mem_iff.1 h1, h2⟩⟩
theorem seq_perm {l l' : List (Nat × Oper)} {a : Act} {w : World} (h : l'.Perm l) (hs : Seq P ops Q S l' a w) : Seq P ops Q S l a w := fun hS hc hin => by
  have := hs hS hc (fun p hp => hin p (h.mem_iff.1 hp))
  rw [listedOf_perm h, ← h.length_eq]
  exact this
def okTwo (ops : Array Oper) (p q : Nat × Oper) (rest : List (Nat × Oper)) : Bool :=
  (Region.ready .any ops (listedOf ops.size (p :: q :: rest))).all (fun i => i == p.1 || i == q.1) && !(Region.ready .any ops (listedOf ops.size (p :: q :: rest))).isEmpty &&
    !((q :: rest).any fun x => x.1 == p.1) && !((p :: rest).any fun x => x.1 == q.1)
/-- One of them, carried out. -/
def StepTo (P : Program) (ops : Array Oper) (Q : Exit → Act → World → Prop) (S : World → Prop) (o : Oper) (rest : List (Nat × Oper)) (a : Act) (w : World) : Prop :=
  ∀ K : Act → World → Prop, Shut (∀ a w, S w → Seq P ops Q S rest a w → K a w) → Oper.wp P o a w K Q
theorem stepTo_op {i : Nat} {o : Oper} {rest all : List (Nat × Oper)} {a : Act} {w : World} (hc : calmOps ops = true) (hin : ∀ p ∈ all, ops[p.1]? = some p.2) (hperm : ((i, o) :: rest).Perm all) (hno : (rest.any fun x => x.1 == i) = false)
    (hw : Region.wanted o (yielded ops a.tmps) = true) (h : StepTo P ops Q S o rest a w) :
    wpOp P ops Q i (fun a' w' => S w' ∧ wpAnyH P .any ops Q S rest.length ((listedOf ops.size all).setIfInBounds i true) a' w') a w := by
  refine wpOp_step (hin _ (hperm.mem_iff.1 (List.mem_cons_self ..))) (fun K hK => ?_)
  rw [if_pos hw]
  refine h K fun a' w' hS' hq => hK a' w' ⟨hS', ?_⟩
  rw [listedOf_perm hperm, listedOf_next hno]
  exact hq hS' hc (fun p hp => hin p (hperm.mem_iff.1 (List.mem_cons_of_mem _ hp)))
theorem seq_both {p q : Nat × Oper} {rest : List (Nat × Oper)} {a : Act} {w : World} (hok : okTwo ops p q rest = true)
    (hp : Region.wanted p.2 (yielded ops a.tmps) = true) (hq : Region.wanted q.2 (yielded ops a.tmps) = true)
    (h1 : StepTo P ops Q S p.2 (q :: rest) a w) (h2 : StepTo P ops Q S q.2 (p :: rest) a w) : Seq P ops Q S (p :: q :: rest) a w := by
  intro hS hc hin
  unfold okTwo at hok
  simp only [Bool.and_eq_true, Bool.not_eq_true', List.isEmpty_eq_false_iff] at hok
  obtain ⟨⟨⟨k1, k2⟩, k3⟩, k4⟩ := hok
  refine wpAnyH_ready rfl k2 fun i hi => ?_
  have := List.all_eq_true.1 k1 i hi
  simp only [Bool.or_eq_true, beq_iff_eq] at this
  rcases this with e | e
  · subst e; exact stepTo_op (rest := q :: rest) hc hin (List.Perm.refl _) k3 hp h1
  · subst e; exact stepTo_op (rest := p :: rest) hc hin (List.Perm.swap ..) k4 hq h2
end
end Go.Proofs.YtogccnngdfancaaGreat
namespace Go.Proofs.YtogccnngdfancaaGreat
set_option linter.unusedVariables false
structure WorksD where
  presses : Int
  change : Int
  cure : List Int
  need : List Int
  moulds : List Int
structure JobD where
  press : Int
  kind : Int
  start : Int
deriving DecidableEq
def cureOf (w : WorksD) (k : Int) : Int := w.cure.getD k.toNat 0
def needOf (w : WorksD) (k : Int) : Int := w.need.getD k.toNat 0
def mouldOf (w : WorksD) (k : Int) : Int := w.moulds.getD k.toNat 0
def endJ (w : WorksD) (j : JobD) : Int := j.start + cureOf w j.kind
/-- Does a job of a kind run at a time? -/
def runB (w : WorksD) (kind t : Int) (j : JobD) : Bool := decide (j.kind = kind) && (decide (j.start ≤ t) && decide (t < endJ w j))
def runN (w : WorksD) (l : List JobD) (kind t : Int) : Nat := l.countP (runB w kind t)
theorem runN_snoc (w : WorksD) (l : List JobD) (j : JobD) (kind t : Int) : runN w (l ++ [j]) kind t = runN w l kind t + if runB w kind t j = true then 1 else 0 := by
  unfold runN
  rw [List.countP_append, List.countP_cons, List.countP_nil]
  simp
end Go.Proofs.YtogccnngdfancaaGreat
namespace Go.Proofs.YtogccnngdfancaaGreat
set_option linter.unusedVariables false
/-! Sums over the first n numbers. -/
def sumR : Nat → (Nat → Int) → Int
  | 0, _ => 0
  | n + 1, f => sumR n f + f n
/-! Schedules without an error. -/
def chg (w : WorksD) (a b : JobD) : Int := if a.kind = b.kind then 0 else w.change
def Sep (w : WorksD) (a b : JobD) : Prop := endJ w a + chg w a b ≤ b.start
def PairOk (w : WorksD) (a b : JobD) : Prop := a.press = b.press → Sep w a b ∨ Sep w b a
structure InRange (w : WorksD) (j : JobD) : Prop where
  p0 : 0 ≤ j.press
  p1 : j.press < w.presses
  k0 : 0 ≤ j.kind
  k1 : j.kind < w.cure.length
  s0 : 0 ≤ j.start
  s1 : j.start ≤ 1000000
def kindN (l : List JobD) (k : Int) : Nat := l.countP (fun j => decide (j.kind = k))
structure WOk (w : WorksD) : Prop where
  p1 : 1 ≤ w.presses
  p8 : w.presses ≤ 8
  c0 : 0 ≤ w.change
  c1 : w.change ≤ 1000
  n1 : w.need.length = w.cure.length
  n2 : w.moulds.length = w.cure.length
  n8 : w.cure.length ≤ 8
  cure : ∀ k : Nat, k < w.cure.length → 1 ≤ cureOf w k ∧ cureOf w k ≤ 1000
  need : ∀ k : Nat, k < w.cure.length → 0 ≤ needOf w k
  mould : ∀ k : Nat, k < w.cure.length → 1 ≤ mouldOf w k
structure Valid (w : WorksD) (l : List JobD) : Prop where
  rng : ∀ j ∈ l, InRange w j
  pair : l.Pairwise (PairOk w)
  mould : ∀ j ∈ l, (runN w l j.kind j.start : Int) ≤ mouldOf w j.kind
  need : ∀ k : Nat, k < w.cure.length → (kindN l k : Int) = needOf w k
/-- a/b, rounded up. -/
def upZ (a b : Int) : Int := (a + b - 1) / b
/-! The work of the presses. -/
/-! All presses together. -/
/-- The work and the changes of all presses. -/
def workOf (w : WorksD) : Int := sumR w.cure.length (fun k => cureOf w k * needOf w k)
def kindsOf (w : WorksD) : Int := sumR w.cure.length (fun k => if 0 < needOf w k then 1 else 0)
/-- A time before which no schedule ends. -/
def boundK (w : WorksD) : Nat → Int
  | 0 => 0
  | k + 1 => max (boundK w k) (cureOf w k * upZ (needOf w k) (min (mouldOf w k) w.presses))
def boundW (w : WorksD) : Int := max (boundK w w.cure.length) (upZ (workOf w + w.change * max (kindsOf w - w.presses) 0) w.presses)
end Go.Proofs.YtogccnngdfancaaGreat
namespace Go.Proofs.YtogccnngdfancaaGreat
open Go.RowKit
set_option linter.unusedVariables false
set_option linter.unusedSimpArgs false
/-- A struct of works: its lists can be read. -/
def WkV (w : World) (S : Nat → Prop) (v : Value) (d : WorksD) : Prop := ∃ vc vn vm, v = .agg #[.int .i64 d.presses, .int .i64 d.change, vc, vn, vm] ∧ Rd (Value.int .i64) w S vc d.cure ∧ Rd (Value.int .i64) w S vn d.need ∧ Rd (Value.int .i64) w S vm d.moulds
theorem WkV.below {w w' : World} {S : Nat → Prop} {v : Value} {d : WorksD} (h : WkV w S v d) (hb : Below w.heap.size w w') : WkV w' S v d :=
  let ⟨vc, vn, vm, e, h1, h2, h3⟩ := h; ⟨vc, vn, vm, e, h1.below hb, h2.below hb, h3.below hb⟩
theorem WkV.lt {w : World} {S : Nat → Prop} {v : Value} {d : WorksD} (h : WkV w S v d) : WkV w (fun b => S b ∧ b < w.heap.size) v d :=
  let ⟨vc, vn, vm, e, h1, h2, h3⟩ := h; ⟨vc, vn, vm, e, h1.lt, h2.lt, h3.lt⟩
theorem up_any (a b : Int) (w : World) (ha : 0 ≤ a) (ha2 : a ≤ 1000000000) (hb : 1 ≤ b) (hb2 : b ≤ 1000000000) :
    Calls Tryz.prog 25 #[.int .i64 a, .int .i64 b] w fun e w' => e = .returned (.int .i64 (upZ a b)) ∧ w = w' := by
  have hne : ¬ (b = 0) := by omega
  have h0 : 0 ≤ a + b - 1 := by omega
  go_enter Tryz.func25, Tryz.ntmps25
  go_wp2_with fail
  go_ret
  refine ⟨?_, rfl⟩
  rfl
theorem cure_at {d : WorksD} {k : Int} (h0 : 0 ≤ k) (h1 : k < d.cure.length) : d.cure[k.toNat]? = some (cureOf d k) := by
  unfold cureOf
  rw [List.getD_eq_getElem?_getD, List.getElem?_eq_getElem (by omega)]
  rfl
def JobV (j : JobD) : Value := .agg #[.int .i64 j.press, .int .i64 j.kind, .int .i64 j.start]
set_option maxRecDepth 100000 in
set_option maxHeartbeats 1000000 in
theorem end_any (v : Value) (d : WorksD) (j : JobD) (S : Nat → Prop) (w : World) (hv : WkV w S v d) (h0 : 0 ≤ j.kind) (h1 : j.kind < d.cure.length) (hs : -1000000000000 ≤ j.start ∧ j.start ≤ 1000000000000) (hc : -1000000000000 ≤ cureOf d j.kind ∧ cureOf d j.kind ≤ 1000000000000) :
    Calls Tryz.prog 22 #[v, JobV j] w fun e w' => e = .returned (.int .i64 (endJ d j)) ∧ Below w.heap.size w w' := by
  have hca := cure_at h0 h1
  obtain ⟨vc, vn, vm, rfl, hcl, -, -⟩ := hv
  obtain ⟨A, n, cap, rfl, hn, hcap, hmax, hcc⟩ := hcl.lt.open_
  obtain ⟨b, off, x, rfl, ⟨_, hbl⟩, hx, hcell⟩ := hcc j.kind.toNat (by omega)
  obtain rfl := Option.some.inj (hx.symm.trans hca)
  obtain ⟨jp, jk, js⟩ := j
  simp only [JobV] at *
  obtain ⟨k, rfl⟩ : ∃ k : Nat, jk = (k : Int) := ⟨jk.toNat, by omega⟩
  rw [Int.toNat_natCast] at hcell
  have hE : Hid (endJ d ⟨jp, k, js⟩ = js + cureOf d k) := rfl
  obtain ⟨c, hcE⟩ : ∃ c, c = cureOf d k := ⟨_, rfl⟩
  rw [← hcE] at hE hc hcell
  obtain ⟨vn', hvn'⟩ : ∃ x, x = vn := ⟨_, rfl⟩
  obtain ⟨w1, hw1⟩ : ∃ w1, w1 = (w.alloc (.cells #[.int .i64 d.presses, .int .i64 d.change, .slice (some ⟨b, off, none⟩) n cap, vn, vm] 38)).alloc (.cells #[.int .i64 jp, .int .i64 k, .int .i64 js] 79) := ⟨_, rfl⟩
  have hb1 : Below w.heap.size w w1 := by rw [hw1]; exact ((Below.refl _ w).alloc (Nat.le_refl _) _).alloc (by simp) _
  have m0 : w1.heap[w.heap.size]? = some (.cells #[.int .i64 d.presses, .int .i64 d.change, .slice (some ⟨b, off, none⟩) n cap, vn, vm] 38) := by rw [hw1, Below.heap_alloc _ _ _ (by simp)]; exact heap_alloc_new w _
  have m1 : w1.heap[w.heap.size + 1]? = some (.cells #[.int .i64 jp, .int .i64 k, .int .i64 js] 79) := by rw [hw1]; have := heap_alloc_new (w.alloc (.cells #[.int .i64 d.presses, .int .i64 d.change, .slice (some ⟨b, off, none⟩) n cap, vn, vm] 38)) (.cells #[.int .i64 jp, .int .i64 k, .int .i64 js] 79); simpa using this
  have c2 : w1.cell? ⟨w.heap.size, 2, none⟩ = some (.slice (some ⟨b, off, none⟩) n cap) := cell_of_row w1 _ 2 _ _ _ m0
  have d1 : w1.cell? ⟨w.heap.size + 1, 1, none⟩ = some (.int .i64 k) := cell_of_row w1 _ 1 _ _ _ m1
  have d2 : w1.cell? ⟨w.heap.size + 1, 2, none⟩ = some (.int .i64 js) := cell_of_row w1 _ 2 _ _ _ m1
  have e0 : w1.cell? ⟨b, off + k, none⟩ = some (.int .i64 c) := (hb1.cell (p := ⟨b, _, none⟩) hbl).trans hcell
  have hk0 : (0 : Int) ≤ (k : Int) := by omega
  have hk1 : (k : Int) < (n : Int) := by omega
  have hwr : IntKind.i64.wrap (js + c) = js + c := IntWalk.i64_in _ (by omega)
  have HW1 := Lib.hid hw1
  have HB1 := Lib.hid hb1
  clear hw1 hb1 m0 m1 hcell hcc hx hca hcl hn hcE hvn'
  go_enter Tryz.func22, Tryz.ntmps22
  go_wp2_with fail
  rw [← HW1.out]
  refine seq_start (S := fun w' => w'.cell? ⟨w.heap.size, 2, none⟩ = some (.slice (some ⟨b, off, none⟩) n cap) ∧ w'.cell? ⟨w.heap.size + 1, 1, none⟩ = some (.int .i64 k) ∧ w'.cell? ⟨w.heap.size + 1, 2, none⟩ = some (.int .i64 js) ∧ w'.cell? ⟨b, off + k, none⟩ = some (.int .i64 c)) (by kernel_rfl) (by kernel_rfl) (by exact ⟨c2, d1, d2, e0⟩) ?_
  repeat (first
    | (refine seq_take0 (v := ?_) ?_ (fun _ _ _ h => h) (by kernel_rfl) ?_ ?_; rotate_left; (focus rfl); (focus (intro w' hSw; (try dsimp only at hSw); go_simp; (try with_reducible rfl); done)); (try simp only [Act.put, List.setIfInBounds_toArray, List.set_cons_zero, List.set_cons_succ]))
    | (refine seq_takeG (v := ?_) (g := ?_) (d := ?_) (b := ?_) (u := ?_) ?_ ?_ ?_ ?_ (fun _ _ _ h => h) (by kernel_rfl) ?_ ?_; rotate_left 5; (focus rfl); (focus rfl); (focus rfl); (focus (first | rfl | (go_simp; done))); (focus (intro w' hSw; (try dsimp only at hSw); go_simp; (try with_reducible rfl); done)); (try simp only [Act.put, List.setIfInBounds_toArray, List.set_cons_zero, List.set_cons_succ]))
    | (refine seq_skipG (g := ?_) (d := ?_) (b := ?_) (u := ?_) ?_ ?_ ?_ ?_ (fun _ _ _ h => h) (by kernel_rfl) ?_; rotate_left 4; (focus rfl); (focus rfl); (focus rfl); (focus (first | rfl | (go_simp; done))); (try simp only [Act.put, List.setIfInBounds_toArray, List.set_cons_zero, List.set_cons_succ])))
  refine seq_done (by kernel_rfl) ?_
  go_wp2_with fail
  go_ret
  exact ⟨by rw [hE.out]; rfl, HB1.out.drew⟩
end Go.Proofs.YtogccnngdfancaaGreat
namespace Go.Proofs.YtogccnngdfancaaGreat
open Go.RowKit
set_option linter.unusedVariables false
/-- The slice value v holds the list xs, k cells an element. -/
def RdK {α : Type} (k : Nat) (f : α → List Value) (w : World) (S : Nat → Prop) (v : Value) (xs : List α) : Prop :=
  ∃ A cap, v = .slice A xs.length cap ∧ xs.length ≤ cap ∧ cap ≤ maxLen ∧
    (xs ≠ [] → ∃ b off, A = some ⟨b, off, none⟩ ∧ S b ∧ ∀ (i : Nat) (x : α), xs[i]? = some x → ∀ (j : Nat) (u : Value), (f x)[j]? = some u → w.cell? ⟨b, off + i * k + j, none⟩ = some u)
section
variable {α : Type} {k : Nat} {f : α → List Value} {w w' : World} {S S' : Nat → Prop} {v : Value} {xs : List α}
theorem RdK.keep (h : RdK k f w S v xs) (hk : Keep S w w') : RdK k f w' S v xs := by
  obtain ⟨A, cap, rfl, h1, h2, h3⟩ := h
  refine ⟨A, cap, rfl, h1, h2, fun hn => ?_⟩
  obtain ⟨b, off, rfl, hb, hc⟩ := h3 hn
  exact ⟨b, off, rfl, hb, fun i x hx j u hu => (hk.cell (p := ⟨b, _, none⟩) hb).trans (hc i x hx j u hu)⟩
theorem RdK.mono (h : RdK k f w S v xs) (hs : ∀ k, S k → S' k) : RdK k f w S' v xs := by
  obtain ⟨A, cap, rfl, h1, h2, h3⟩ := h
  refine ⟨A, cap, rfl, h1, h2, fun hn => ?_⟩
  obtain ⟨b, off, rfl, hb, hc⟩ := h3 hn
  exact ⟨b, off, rfl, hs b hb, hc⟩
theorem RdK.lt (h : RdK k f w S v xs) (hf : ∀ x, ∃ u, (f x)[0]? = some u) : RdK k f w (fun b => S b ∧ b < w.heap.size) v xs := by
  obtain ⟨A, cap, rfl, h1, h2, h3⟩ := h
  refine ⟨A, cap, rfl, h1, h2, fun hn => ?_⟩
  obtain ⟨b, off, rfl, hb, hc⟩ := h3 hn
  obtain ⟨x, l, rfl⟩ := List.exists_cons_of_ne_nil hn
  obtain ⟨u, hu⟩ := hf x
  exact ⟨b, off, rfl, ⟨hb, World.block_lt_of_cell? w ⟨b, _, none⟩ (hc 0 x rfl 0 u hu)⟩, hc⟩
theorem RdK.below (h : RdK k f w S v xs) (hf : ∀ x, ∃ u, (f x)[0]? = some u) (hb : Below w.heap.size w w') : RdK k f w' S v xs :=
  (((h.lt hf).mono (S' := fun b => b < w.heap.size ∧ S b) (fun _ hk => ⟨hk.2, hk.1⟩)).keep ((Keep.of_below hb).mono fun _ hk => hk.1)).mono fun _ hk => hk.2
theorem RdK.open_ (h : RdK k f w S v xs) : ∃ A n cap, v = .slice A n cap ∧ xs.length = n ∧ n ≤ cap ∧ n ≤ 9223372036854775807 ∧
    (∀ i, i < n → ∃ b off x, A = some ⟨b, off, none⟩ ∧ S b ∧ xs[i]? = some x ∧ ∀ (j : Nat) (u : Value), (f x)[j]? = some u → w.cell? ⟨b, off + i * k + j, none⟩ = some u) := by
  obtain ⟨A, cap, rfl, h1, h2, h3⟩ := h
  refine ⟨A, xs.length, cap, rfl, rfl, h1, by unfold maxLen at h2; omega, fun i hi => ?_⟩
  obtain ⟨b, off, rfl, hb, hc⟩ := h3 (fun e => by subst e; simp at hi)
  exact ⟨b, off, _, rfl, hb, List.getElem?_eq_getElem hi, hc i _ (List.getElem?_eq_getElem hi)⟩
theorem flat_len (hf : ∀ x, (f x).length = k) : ∀ (xs : List α), (xs.flatMap f).length = xs.length * k
  | [] => by simp
  | x :: xs => by rw [List.flatMap_cons, List.length_append, hf, flat_len hf xs, List.length_cons, Nat.add_mul]; omega
theorem flat_at (hf : ∀ x, (f x).length = k) : ∀ (xs : List α) (i : Nat) (x : α), xs[i]? = some x → ∀ (j : Nat) (u : Value), (f x)[j]? = some u → (xs.flatMap f)[i * k + j]? = some u
  | [], i, x, h, _, _, _ => by simp at h
  | y :: xs, 0, x, h, j, u, hu => by
    simp only [List.getElem?_cons_zero, Option.some.injEq] at h
    subst h
    rw [List.flatMap_cons, Nat.zero_mul, Nat.zero_add, List.getElem?_append_left (List.getElem?_eq_some_iff.1 hu).1, hu]
  | y :: xs, i + 1, x, h, j, u, hu => by
    simp only [List.getElem?_cons_succ] at h
    rw [List.flatMap_cons, List.getElem?_append_right (by rw [hf, Nat.add_mul]; omega), hf, show (i + 1) * k + j - k = i * k + j from by rw [Nat.add_mul]; omega]
    exact flat_at hf xs i x h j u hu
theorem RdK.of_own {base : Nat} {e : TypeId} {n : Nat} (hf : ∀ x, (f x).length = k) (h : w.ownsRow base e k v n (xs.flatMap f)) (hn : xs.length = n) : RdK k f w (base ≤ ·) v xs := by
  rcases h.2 with ⟨rfl, rfl⟩ | ⟨g, cap, cur, rfl, hb, hg, h1, h2, h3, h4⟩
  · exact ⟨none, 0, by rw [hn], by omega, by simp [maxLen], fun h0 => absurd (List.length_eq_zero_iff.1 hn) h0⟩
  · refine ⟨_, cap, by rw [hn], by omega, h2, fun _ => ⟨g, 0, rfl, hb, fun i x hx j u hu => ?_⟩⟩
    have hat := flat_at hf xs i x hx j u hu
    have hlt := (List.getElem?_eq_some_iff.1 hat).1
    have hc := h.cellAt (i * k + j) (by rw [flat_len hf] at hlt; rw [← hn]; exact hlt)
    rw [Nat.zero_add, hc, hat]
end
end Go.Proofs.YtogccnngdfancaaGreat
