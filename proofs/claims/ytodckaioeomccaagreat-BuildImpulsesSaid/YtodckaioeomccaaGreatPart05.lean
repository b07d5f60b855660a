/- The walks of slices.Clone and of plant.copied. A region that draws its order, walked operation after operation: plain, and in the body of a round. Where two or three operations of a drawn region may come up: each of them in turn. Walks of the natural numbers of the package exact: cut, word, isOne, cmp. -/
import Derived.Test.YtodckaioeomccaaGreatPart02
import Derived.Deep.RegionWith
import Derived.Deep.RegionHeld
import Derived.OrdersIn
namespace Go.Proofs.YtodckaioeomccaaGreat
open Go.RowKit

theorem ownsRow_slice {w : World} {base : Nat} {e : TypeId} {size : Nat} {v : Value} {n : Nat} {xs : List Value} (h : w.ownsRow base e size v n xs) : ∃ A c, v = .slice A n c := by
  rcases h.2 with ⟨rfl, rfl⟩ | ⟨g, cap, cur, rfl, _⟩
  · exact ⟨_, _, rfl⟩
  · exact ⟨_, _, rfl⟩
theorem ownsRow_mono {w : World} {base base' : Nat} {e : TypeId} {size : Nat} {v : Value} {n : Nat} {xs : List Value} (h : w.ownsRow base e size v n xs) (hb : base' ≤ base) : w.ownsRow base' e size v n xs := by
  refine ⟨h.1, h.2.imp id ?_⟩
  rintro ⟨g, cap, cur, e1, e2, e3⟩
  exact ⟨g, cap, cur, e1, by omega, e3⟩
end Go.Proofs.YtodckaioeomccaaGreat
namespace Go.Proofs.YtodckaioeomccaaGreat
set_option linter.unusedVariables false
section
variable {P : Program} {ops : Array Oper} {Q : Exit → Act → World → Prop} {S : World → Prop}
/-- The operations with their places. -/
def places : Nat → List Oper → List (Nat × Oper)
  | _, [] => []
  | k, o :: l => (k, o) :: places (k + 1) l
theorem places_get : ∀ (l : List Oper) (k : Nat) (p : Nat × Oper), p ∈ places k l → k ≤ p.1 ∧ l[p.1 - k]? = some p.2
  | [], _, _, h => by cases h
  | o :: l, k, p, h => by
    rcases List.mem_cons.1 h with rfl | h
    · exact ⟨Nat.le_refl _, by simp⟩
    · obtain ⟨h1, h2⟩ := places_get l (k + 1) p h
      refine ⟨by omega, ?_⟩
      rw [show p.1 - k = (p.1 - (k + 1)) + 1 by omega]
      exact h2
theorem places_len : ∀ (l : List Oper) (k : Nat), (places k l).length = l.length
  | [], _ => rfl
  | o :: l, k => by simp [places, places_len l (k + 1)]
theorem places_has : ∀ (l : List Oper) (k i : Nat), k ≤ i → i < k + l.length → (places k l).any (fun p => p.1 == i) = true
  | [], k, i, h1, h2 => by simp at h2; omega
  | o :: l, k, i, h1, h2 => by
    simp only [places, List.any_cons, Bool.or_eq_true, beq_iff_eq]
    by_cases h : k = i
    · exact .inl h
    · exact .inr (places_has l (k + 1) i (by omega) (by simp at h2; omega))
/-- Which operations have come up, out of those that have not. -/
def listedOf (n : Nat) (rest : List (Nat × Oper)) : Array Bool := ((List.range n).map fun i => !(rest.any fun p => p.1 == i)).toArray
theorem listedOf_size (n : Nat) (rest : List (Nat × Oper)) : (listedOf n rest).size = n := by simp [listedOf]
theorem listedOf_get (n : Nat) (rest : List (Nat × Oper)) (i : Nat) : (listedOf n rest)[i]? = if i < n then some (!(rest.any fun p => p.1 == i)) else none := by
  unfold listedOf
  rw [List.getElem?_toArray, List.getElem?_map]
  split
  · rename_i h; rw [List.getElem?_range h]; rfl
  · rename_i h; rw [List.getElem?_eq_none (by simpa using h)]; rfl
theorem listedOf_start (l : List Oper) : listedOf l.toArray.size (places 0 l) = Array.replicate l.toArray.size false := by
  refine Array.ext_getElem? fun i => ?_
  rw [listedOf_get, Array.getElem?_replicate]
  split
  · rename_i h; rw [places_has l 0 i (by omega) (by simpa using h)]; rfl
  · rfl
theorem listedOf_next {n i : Nat} {o : Oper} {rest : List (Nat × Oper)} (h : (rest.any fun p => p.1 == i) = false) : (listedOf n ((i, o) :: rest)).setIfInBounds i true = listedOf n rest := by
  refine Array.ext_getElem? fun j => ?_
  rw [Array.getElem?_setIfInBounds, listedOf_size, listedOf_get, listedOf_get]
  by_cases hj : i = j
  · subst hj
    rw [if_pos rfl]
    split
    · rw [h]; rfl
    · rfl
  · rw [if_neg hj]
    split
    · simp [hj]
    · rfl
theorem listedOf_swap {n : Nat} {p q : Nat × Oper} {rest : List (Nat × Oper)} : listedOf n (p :: q :: rest) = listedOf n (q :: p :: rest) := by
  refine Array.ext_getElem? fun j => ?_
  rw [listedOf_get, listedOf_get]
  simp only [List.any_cons]
  rw [Bool.or_left_comm]
/-- Operation i may be taken first. -/
def okTake (ops : Array Oper) (p : Nat × Oper) (rest : List (Nat × Oper)) : Bool :=
  Region.free .any ops (listedOf ops.size (p :: rest)) p.1 && (Region.ready .any ops (listedOf ops.size (p :: rest))).contains p.1 && !(rest.any fun q => q.1 == p.1)
/-- Operation i alone may come up. -/
def okOnly (ops : Array Oper) (p : Nat × Oper) (rest : List (Nat × Oper)) : Bool :=
  (Region.ready .any ops (listedOf ops.size (p :: rest)) == [p.1]) && !(rest.any fun q => q.1 == p.1)
def calmOps (ops : Array Oper) : Bool := ops.all fun o => match o.op with | .select .. => false | .defer .. => false | _ => true
theorem calm_select (h : calmOps ops = true) : Region.noSelect ops = true := by
  unfold calmOps at h
  unfold Region.noSelect
  rw [Array.all_eq_true_iff_forall_mem] at h ⊢
  intro o ho
  have := h o ho
  split at this <;> simp_all
/-! What a guard says, out of the value in its temporary. -/
def isB (u : Value) (b : Bool) : Bool := match u with | .bool c => c == b | _ => false
theorem wanted_free {o : Oper} {a : Act} (h : o.guard = none) : Region.wanted o (yielded ops a.tmps) = true := by simp [Region.wanted, h]
theorem wanted_isB {o : Oper} {a : Act} {g d : Nat} {b : Bool} {u : Value} (hg : o.guard = some (g, b)) (hd : (ops[g]?).bind (·.dst) = some d) (hv : a.tmps[d]? = some u) : Region.wanted o (yielded ops a.tmps) = isB u b := by
  unfold Region.wanted yielded
  rw [hg]
  simp only [hd, Option.bind_some, hv]
  cases u <;> simp [isB]

/-! In no fence. -/
/-- What is left of a region, in the order in which it is walked. -/
def Seq (P : Program) (ops : Array Oper) (Q : Exit → Act → World → Prop) (S : World → Prop) (rest : List (Nat × Oper)) (a : Act) (w : World) : Prop :=
  S w → calmOps ops = true → (∀ p ∈ rest, ops[p.1]? = some p.2) → wpAnyH P .any ops Q S rest.length (listedOf ops.size rest) a w
theorem seq_start {id : Nat} {l : List Oper} {a : Act} {w : World} (hm : P.follows .mixedOrders = true) (hc : calmOps l.toArray = true) (hS : S w.drew) (h : Seq P l.toArray Q S (places 0 l) a w.drew) : (Code.region id l.toArray true).wp P Q a w := by
  refine wp_region_held_drew hm hS fun _ => ?_
  have := h hS hc (fun p hp => by have := places_get l 0 p hp; simpa using this.2)
  rw [listedOf_start, places_len] at this
  simpa using this
theorem seq_yield {i : Nat} {o : Oper} {rest : List (Nat × Oper)} {a : Act} {w : World} {v : Value} (hQ : ∀ c a w, Q (.panic c) (a.put o.dst v) w → Q (.panic c) a w) (hok : okTake ops (i, o) rest = true) (hy : YieldsIf P ops S o v a) (h : Seq P ops Q S rest (a.put o.dst v) w) : Seq P ops Q S ((i, o) :: rest) a w := by
  intro hS hc hin
  unfold okTake at hok
  simp only [Bool.and_eq_true, Bool.not_eq_true'] at hok
  obtain ⟨⟨h1, h2⟩, h3⟩ := hok
  have h4 := h hS hc (fun p hp => hin p (List.mem_cons_of_mem _ hp))
  rw [← listedOf_next (o := o) h3] at h4
  exact wpAnyH_take (hin _ (List.mem_cons_self ..)) (calm_select hc) h1 h2 hQ hy hS h4
theorem seq_skip {i : Nat} {o : Oper} {rest : List (Nat × Oper)} {a : Act} {w : World} (hw : Region.wanted o (yielded ops a.tmps) = false) (hQ : ∀ c a w, Q (.panic c) (a.put o.dst undef) w → Q (.panic c) a w) (hok : okTake ops (i, o) rest = true) (h : Seq P ops Q S rest (a.put o.dst undef) w) : Seq P ops Q S ((i, o) :: rest) a w :=
  seq_yield hQ hok (.inr ⟨hw, rfl⟩) h
theorem seq_take {i : Nat} {o : Oper} {rest : List (Nat × Oper)} {a : Act} {w : World} {v : Value} (hw : Region.wanted o (yielded ops a.tmps) = true) (hQ : ∀ c a w, Q (.panic c) (a.put o.dst v) w → Q (.panic c) a w) (hok : okTake ops (i, o) rest = true) (hv : ∀ w', S w' → (execOp a.eval o).run P w' = .ok (.value v) w') (h : Seq P ops Q S rest (a.put o.dst v) w) : Seq P ops Q S ((i, o) :: rest) a w :=
  seq_yield hQ hok (.inl ⟨hw, hv⟩) h
theorem seq_take0 {i : Nat} {o : Oper} {rest : List (Nat × Oper)} {a : Act} {w : World} {v : Value} (hg : o.guard = none) (hQ : ∀ c a w, Q (.panic c) (a.put o.dst v) w → Q (.panic c) a w) (hok : okTake ops (i, o) rest = true) (hv : ∀ w', S w' → (execOp a.eval o).run P w' = .ok (.value v) w') (h : Seq P ops Q S rest (a.put o.dst v) w) : Seq P ops Q S ((i, o) :: rest) a w :=
  seq_take (wanted_free hg) hQ hok hv h
theorem seq_takeG {i : Nat} {o : Oper} {rest : List (Nat × Oper)} {a : Act} {w : World} {v : Value} {g d : Nat} {b : Bool} {u : Value} (hg : o.guard = some (g, b)) (hd : (ops[g]?).bind (·.dst) = some d) (hu : a.tmps[d]? = some u) (hb : isB u b = true) (hQ : ∀ c a w, Q (.panic c) (a.put o.dst v) w → Q (.panic c) a w) (hok : okTake ops (i, o) rest = true) (hv : ∀ w', S w' → (execOp a.eval o).run P w' = .ok (.value v) w') (h : Seq P ops Q S rest (a.put o.dst v) w) : Seq P ops Q S ((i, o) :: rest) a w :=
  seq_take ((wanted_isB hg hd hu).trans hb) hQ hok hv h
theorem seq_skipG {i : Nat} {o : Oper} {rest : List (Nat × Oper)} {a : Act} {w : World} {g d : Nat} {b : Bool} {u : Value} (hg : o.guard = some (g, b)) (hd : (ops[g]?).bind (·.dst) = some d) (hu : a.tmps[d]? = some u) (hb : isB u b = false) (hQ : ∀ c a w, Q (.panic c) (a.put o.dst undef) w → Q (.panic c) a w) (hok : okTake ops (i, o) rest = true) (h : Seq P ops Q S rest (a.put o.dst undef) w) : Seq P ops Q S ((i, o) :: rest) a w :=
  seq_skip ((wanted_isB hg hd hu).trans hb) hQ hok h
/-- The one operation that may come up. -/
theorem seq_op {i : Nat} {o : Oper} {rest : List (Nat × Oper)} {a : Act} {w : World} (hok : okOnly ops (i, o) rest = true) (hw : Region.wanted o (yielded ops a.tmps) = true)
    (h : ∀ K : Act → World → Prop, Shut (∀ a w, S w → Seq P ops Q S rest a w → K a w) → Oper.wp P o a w K Q) : Seq P ops Q S ((i, o) :: rest) a w := by
  intro hS hc hin
  unfold okOnly at hok
  simp only [Bool.and_eq_true, Bool.not_eq_true', beq_iff_eq] at hok
  obtain ⟨h1, h2⟩ := hok
  refine wpAnyH_ready h1 (by simp) (AllReadyH.cons (hin _ (List.mem_cons_self ..)) (fun K hK => ?_) AllReadyH.nil)
  rw [if_pos hw]
  refine h K fun a' w' hS' hq => hK a' w' hS' fun _ => ?_
  rw [listedOf_next h2]
  exact hq hS' hc (fun p hp => hin p (List.mem_cons_of_mem _ hp))
theorem seq_swap {p q : Nat × Oper} {rest : List (Nat × Oper)} {a : Act} {w : World} (h : Seq P ops Q S (q :: p :: rest) a w) : Seq P ops Q S (p :: q :: rest) a w := fun hS hc hin => by
  rw [listedOf_swap]
  exact h hS hc (fun r hr => hin r (by simp at hr ⊢; rcases hr with h | h | h <;> simp [h]))
theorem seq_done {a : Act} {w : World} (hok : Region.ready .any ops (listedOf ops.size []) = []) (h : Q .normal a w) : Seq P ops Q S [] a w := fun _ _ _ => wpAnyH_done hok h _

/-! In a fence that keeps no function out, and no depth. -/
variable {F : Fence} {n : Nat}
end
end Go.Proofs.YtodckaioeomccaaGreat
namespace Go.Proofs.YtodckaioeomccaaGreat
set_option linter.unusedVariables false
section
variable {P : Program} {ops : Array Oper} {Q : Exit → Act → World → Prop} {S : World → Prop}
theorem listedOf_perm {n : Nat} {l l' : List (Nat × Oper)} (h : l'.Perm l) : listedOf n l = listedOf n l' := by
  unfold listedOf
  congr 1
  refine List.map_congr_left fun i _ => ?_
  congr 1
  rw [Bool.eq_iff_iff, List.any_eq_true, List.any_eq_true]
  exact ⟨fun ⟨x, h1, h2⟩ => ⟨x, h.mem_iff.2 h1, h2⟩, fun ⟨x, h1, h2⟩ => ⟨x, h.mem_iff.1 h1, h2⟩⟩
theorem seq_perm {l l' : List (Nat × Oper)} {a : Act} {w : World} (h : l'.Perm l) (hs : Seq P ops Q S l' a w) : Seq P ops Q S l a w := fun hS hc hin => by
  have := hs hS hc (fun p hp => hin p (h.mem_iff.1 hp))
  rw [listedOf_perm h, ← h.length_eq]
  exact this
/-- None but p, q, r may come up. -/
def okThree (ops : Array Oper) (p q r : Nat × Oper) (rest : List (Nat × Oper)) : Bool :=
  (Region.ready .any ops (listedOf ops.size (p :: q :: r :: rest))).all (fun i => i == p.1 || i == q.1 || i == r.1) && !(Region.ready .any ops (listedOf ops.size (p :: q :: r :: rest))).isEmpty &&
    !((q :: r :: rest).any fun x => x.1 == p.1) && !((p :: r :: rest).any fun x => x.1 == q.1) && !((p :: q :: rest).any fun x => x.1 == r.1)
def okTwo (ops : Array Oper) (p q : Nat × Oper) (rest : List (Nat × Oper)) : Bool :=
  (Region.ready .any ops (listedOf ops.size (p :: q :: rest))).all (fun i => i == p.1 || i == q.1) && !(Region.ready .any ops (listedOf ops.size (p :: q :: rest))).isEmpty &&
    !((q :: rest).any fun x => x.1 == p.1) && !((p :: rest).any fun x => x.1 == q.1)
/-- One of them, carried out. -/
def StepTo (P : Program) (ops : Array Oper) (Q : Exit → Act → World → Prop) (S : World → Prop) (o : Oper) (rest : List (Nat × Oper)) (a : Act) (w : World) : Prop :=
  ∀ K : Act → World → Prop, Shut (∀ a w, S w → Seq P ops Q S rest a w → K a w) → Oper.wp P o a w K Q
theorem stepTo_op {i : Nat} {o : Oper} {rest all : List (Nat × Oper)} {a : Act} {w : World} (hc : calmOps ops = true) (hin : ∀ p ∈ all, ops[p.1]? = some p.2) (hperm : ((i, o) :: rest).Perm all) (hno : (rest.any fun x => x.1 == i) = false)
    (hw : Region.wanted o (yielded ops a.tmps) = true) (h : StepTo P ops Q S o rest a w) :
    wpOp P ops Q i (fun a' w' => S w' ∧ wpAnyH P .any ops Q S rest.length ((listedOf ops.size all).setIfInBounds i true) a' w') a w := by
  refine wpOp_step (hin _ (hperm.mem_iff.1 (List.mem_cons_self ..))) (fun K hK => ?_)
  rw [if_pos hw]
  refine h K fun a' w' hS' hq => hK a' w' ⟨hS', ?_⟩
  rw [listedOf_perm hperm, listedOf_next hno]
  exact hq hS' hc (fun p hp => hin p (hperm.mem_iff.1 (List.mem_cons_of_mem _ hp)))
theorem seq_three {p q r : Nat × Oper} {rest : List (Nat × Oper)} {a : Act} {w : World} (hok : okThree ops p q r rest = true)
    (hp : Region.wanted p.2 (yielded ops a.tmps) = true) (hq : Region.wanted q.2 (yielded ops a.tmps) = true) (hr : Region.wanted r.2 (yielded ops a.tmps) = true)
    (h1 : StepTo P ops Q S p.2 (q :: r :: rest) a w) (h2 : StepTo P ops Q S q.2 (p :: r :: rest) a w) (h3 : StepTo P ops Q S r.2 (p :: q :: rest) a w) : Seq P ops Q S (p :: q :: r :: rest) a w := by
  intro hS hc hin
  unfold okThree at hok
  simp only [Bool.and_eq_true, Bool.not_eq_true', List.isEmpty_eq_false_iff] at hok
  obtain ⟨⟨⟨⟨k1, k2⟩, k3⟩, k4⟩, k5⟩ := hok
  refine wpAnyH_ready rfl k2 fun i hi => ?_
  have := List.all_eq_true.1 k1 i hi
  simp only [Bool.or_eq_true, beq_iff_eq] at this
  rcases this with (e | e) | e
  · subst e; exact stepTo_op (rest := q :: r :: rest) hc hin (List.Perm.refl _) k3 hp h1
  · subst e; exact stepTo_op (rest := p :: r :: rest) hc hin (List.Perm.swap ..) k4 hq h2
  · subst e; exact stepTo_op (rest := p :: q :: rest) hc hin ((List.Perm.swap ..).trans (List.Perm.cons _ (List.Perm.swap ..))) k5 hr h3
theorem seq_both {p q : Nat × Oper} {rest : List (Nat × Oper)} {a : Act} {w : World} (hok : okTwo ops p q rest = true)
    (hp : Region.wanted p.2 (yielded ops a.tmps) = true) (hq : Region.wanted q.2 (yielded ops a.tmps) = true)
    (h1 : StepTo P ops Q S p.2 (q :: rest) a w) (h2 : StepTo P ops Q S q.2 (p :: rest) a w) : Seq P ops Q S (p :: q :: rest) a w := by
  intro hS hc hin
  unfold okTwo at hok
  simp only [Bool.and_eq_true, Bool.not_eq_true', List.isEmpty_eq_false_iff] at hok
  obtain ⟨⟨⟨k1, k2⟩, k3⟩, k4⟩ := hok
  refine wpAnyH_ready rfl k2 fun i hi => ?_
  have := List.all_eq_true.1 k1 i hi
  simp only [Bool.or_eq_true, beq_iff_eq] at this
  rcases this with e | e
  · subst e; exact stepTo_op (rest := q :: rest) hc hin (List.Perm.refl _) k3 hp h1
  · subst e; exact stepTo_op (rest := p :: rest) hc hin (List.Perm.swap ..) k4 hq h2
end
end Go.Proofs.YtodckaioeomccaaGreat
namespace Go.Proofs.YtodckaioeomccaaGreat
open Go.RowKit
set_option linter.unusedVariables false
set_option linter.unusedSimpArgs false
def B64 : Nat := 18446744073709551616
theorem B64_2 : 2 ≤ B64 := by unfold B64; omega
theorem B64_eq : B64 = 18446744073709551616 := rfl
def u64V (k : Nat) : Value := .int .u64 (k : Int)
/-- A list of words in memory, for reading. -/
def RdW (w : World) (v : Value) (xs : List Nat) : Prop := Rd u64V w (fun _ => True) v xs
/-- A natural number in memory. -/
def RdN (w : World) (v : Value) (n : Nat) : Prop := RdW w v (digs B64 n)
theorem RdN.below {w w' : World} {v : Value} {n : Nat} (h : RdN w v n) (hb : Below w.heap.size w w') : RdN w' v n := Rd.below h hb
theorem RdW.open_ {w : World} {v : Value} {xs : List Nat} (h : RdW w v xs) :
    ∃ A n cap, v = .slice A n cap ∧ xs.length = n ∧ n ≤ cap ∧ n ≤ 9223372036854775807 ∧ cap ≤ maxLen ∧
      (∀ k, k < n → ∃ b off x, A = some ⟨b, off, none⟩ ∧ b < w.heap.size ∧ xs[k]? = some x ∧ w.cell? ⟨b, off + k, none⟩ = some (.int .u64 (x : Int))) := by
  have h0 := Rd.lt h
  obtain ⟨A, cap, rfl, h1, h2, h3⟩ := h0
  refine ⟨A, xs.length, cap, rfl, rfl, h1, by unfold maxLen at h2; omega, h2, fun k hk => ?_⟩
  obtain ⟨b, off, rfl, hb, hc⟩ := h3 (fun e => by subst e; simp at hk)
  exact ⟨b, off, xs[k], rfl, hb.2, List.getElem?_eq_getElem hk, hc k hk⟩
/-- A natural number in blocks of a kind. -/
def RdNS (w : World) (S : Nat → Prop) (v : Value) (n : Nat) : Prop := Rd u64V w S v (digs B64 n)
theorem RdNS.all {w : World} {S : Nat → Prop} {v : Value} {n : Nat} (h : RdNS w S v n) : RdN w v n := Rd.mono h fun _ _ => trivial
theorem RdNS.below {w w' : World} {S : Nat → Prop} {v : Value} {n : Nat} (h : RdNS w S v n) (hb : Below w.heap.size w w') : RdNS w' S v n := Rd.below h hb
theorem Rd.take64 {w : World} {S : Nat → Prop} {A : Option Addr} {n cap : Nat} {xs : List Nat} (h : Rd u64V w S (.slice A n cap) xs) {k : Nat} (hk : k ≤ n) : Rd u64V w S (.slice A k cap) (xs.take k) := by
  obtain ⟨A', cap', he, h1, h2, h3⟩ := h
  simp only [Value.slice.injEq] at he
  obtain ⟨rfl, rfl, rfl⟩ := he
  have hl : (xs.take k).length = k := by simp; omega
  refine ⟨A, cap, by rw [hl], by omega, h2, fun hn => ?_⟩
  obtain ⟨b, off, rfl, hb, hc⟩ := h3 (fun e => hn (by rw [e]; simp))
  refine ⟨b, off, rfl, hb, fun i hi => ?_⟩
  rw [hc i (by omega), List.getElem_take]
theorem getD_of {xs : List Nat} {k x : Nat} (h : xs[k]? = some x) : xs.getD k 0 = x := by rw [List.getD_eq_getElem?_getD, h]; rfl
theorem cutN_step (xs : List Nat) {k x : Nat} (h : xs[k]? = some x) : cutN xs (k + 1) = if x = 0 then cutN xs k else k + 1 := by
  simp only [cutN]; rw [getD_of h]
set_option maxHeartbeats 1000000 in
theorem cut_anyS (S : Nat → Prop) (v : Value) (xs : List Nat) (w : World) (h : Rd u64V w S v xs) :
    Calls Tryz.prog 232 #[v] w fun e w' => (∃ v', e = .returned v' ∧ Rd u64V w S v' (xs.take (cutN xs xs.length)) ∧ ∃ A c, v' = .slice A (cutN xs xs.length) c) ∧ w = w' := by
  have HV := Lib.hid h
  obtain ⟨A, n, cap, rfl, hn, hcap, hmax, hcm, hc⟩ := RdW.open_ (h.mono (S' := fun _ => True) fun _ _ => trivial)
  rw [hn]
  have HC := Lib.hid hc
  have HN := Lib.hid hn
  clear hn hc h
  go_enter Tryz.func232, Tryz.ntmps232
  go_wp2_with fail
  go_loop [0] (fun v0 => ∃ k : Nat, k ≤ n ∧ v0 = .slice A k cap ∧ Hid (cutN xs n = cutN xs k)) (fun v0 => match v0 with | .slice _ k _ => k | _ => 0)
  case atStart => exact ⟨n, Nat.le_refl _, rfl, rfl⟩
  case round =>
    obtain ⟨k, hk, rfl, HK⟩ := hrel
    by_cases h0 : k = 0
    · have HZ : Hid (cutN xs n = 0) := by show _ = _; rw [HK.out, h0]; rfl
      subst h0
      clear HK
      go_wp2_with fail
      go_ret
      rw [HZ.out]
      exact ⟨⟨_, rfl, HV.out.take64 (Nat.zero_le _), _, _, rfl⟩, rfl⟩
    · obtain ⟨j, rfl⟩ : ∃ j, k = j + 1 := ⟨k - 1, by omega⟩
      obtain ⟨b, off, x, rfl, hb, hx, hcell⟩ := HC.out j (by omega)
      have HS := Lib.hid (cutN_step xs hx)
      have hpos : (0 : Int) < ((j + 1 : Nat) : Int) := by omega
      have hj : (((j + 1 : Nat) : Int) - 1) = (j : Int) := by omega
      have hjn : (j : Int) < ((j + 1 : Nat) : Int) := by omega
      clear hx h0
      by_cases hx0 : x = 0
      · have HQ : Hid (cutN xs n = cutN xs j) := by show _ = _; rw [HK.out, HS.out, if_pos hx0]
        have hxb : ((x : Int) == 0) = true := by simp [hx0]
        clear hx0 HK HS
        go_wp2_with fail
        go_round
        case rel => exact ⟨j, by omega, rfl, HQ.out⟩
        case measure => simp
      · have HQ : Hid (cutN xs n = j + 1) := by show _ = _; rw [HK.out, HS.out, if_neg hx0]
        have hxb : ((x : Int) == 0) = false := by simp; omega
        clear hx0 HK HS
        go_wp2_with fail
        go_ret
        rw [HQ.out]
        exact ⟨⟨_, rfl, HV.out.take64 hk, _, _, rfl⟩, rfl⟩
theorem cut_any (v : Value) (xs : List Nat) (w : World) (h : RdW w v xs) :
    Calls Tryz.prog 232 #[v] w fun e w' => (∃ v', e = .returned v' ∧ RdW w v' (xs.take (cutN xs xs.length)) ∧ ∃ A c, v' = .slice A (cutN xs xs.length) c) ∧ w = w' := cut_anyS _ v xs w h
theorem digs_one : digs B64 1 = [1] := digs_small B64_2 (by decide) (by unfold B64; omega)
theorem isOne_any (v : Value) (n : Nat) (w : World) (h : RdN w v n) :
    Calls Tryz.prog 226 #[v] w fun e w' => e = .returned (.bool (decide (n = 1))) ∧ w = w' := by
  obtain ⟨A, k, cap, rfl, hn, hcap, hmax, hcm, hc⟩ := RdW.open_ h
  obtain ⟨b, hb⟩ : ∃ b, b = decide (n = 1) := ⟨_, rfl⟩
  rw [← hb]
  have HB := Lib.hid hb
  have HN := Lib.hid hn
  by_cases hk : k = 1
  · subst hk
    obtain ⟨bb, off, x, rfl, _, hx, hcell⟩ := hc 0 (by omega)
    have hd : digs B64 n = [x] := by
      match hq : digs B64 n, hn, hx with
      | [y], _, hx => simp at hx; rw [hx]
    rw [Nat.add_zero] at hcell
    have hnx : n = x := by rw [← val_digs B64_2 n, hd, val_one]
    clear hc h hn hx hd hb
    by_cases hx1 : x = 1
    · have HQ : Hid (b = true) := by show _ = _; rw [HB.out, hnx]; simp [hx1]
      have hxb : ((x : Int) == 1) = true := by simp [hx1]
      clear hx1 hnx HB
      go_enter Tryz.func226, Tryz.ntmps226
      go_wp2_with fail
      go_ret
      exact ⟨by rw [HQ.out]; rfl, rfl⟩
    · have HQ : Hid (b = false) := by show _ = _; rw [HB.out, hnx]; simp [hx1]
      have hxb : ((x : Int) == 1) = false := by simp; omega
      clear hx1 hnx HB
      go_enter Tryz.func226, Tryz.ntmps226
      go_wp2_with fail
      go_ret
      exact ⟨by rw [HQ.out]; rfl, rfl⟩
  · have HQ : Hid (b = false) := by
      show _ = _; rw [HB.out]
      refine decide_eq_false fun e => ?_
      subst e; rw [digs_one] at hn; simp at hn; omega
    have hkb : ((k : Int) == 1) = false := by simp; omega
    clear hc h hn hk HB hb
    go_enter Tryz.func226, Tryz.ntmps226
    go_wp2_with fail
    go_ret
    exact ⟨by rw [HQ.out]; rfl, rfl⟩
theorem cutN_all {xs : List Nat} (h : ∀ x ∈ xs, x < B64) : xs.take (cutN xs xs.length) = digs B64 (val B64 xs) := by
  have := cutN_digs B64_2 h xs.length (Nat.le_refl _)
  rwa [List.take_length] at this
theorem cut_numS (S : Nat → Prop) (v : Value) (xs : List Nat) (w : World) (h : Rd u64V w S v xs) (hx : ∀ x ∈ xs, x < B64) :
    Calls Tryz.prog 232 #[v] w fun e w' => (∃ v', e = .returned v' ∧ RdNS w S v' (val B64 xs)) ∧ w = w' :=
  (cut_anyS S v xs w h).mono fun e w' ⟨⟨v', h1, h2, _⟩, h3⟩ => ⟨⟨v', h1, by unfold RdNS; rw [← cutN_all hx]; exact h2⟩, h3⟩
/-- cut, of a list of words. -/
theorem cut_num (v : Value) (xs : List Nat) (w : World) (h : RdW w v xs) (hx : ∀ x ∈ xs, x < B64) :
    Calls Tryz.prog 232 #[v] w fun e w' => (∃ v', e = .returned v' ∧ RdN w v' (val B64 xs)) ∧ w = w' :=
  (cut_any v xs w h).mono fun e w' ⟨⟨v', h1, h2, _⟩, h3⟩ => ⟨⟨v', h1, by unfold RdN; rw [← cutN_all hx]; exact h2⟩, h3⟩
theorem word_any (n : Nat) (w : World) (hn : n < B64) :
    Calls Tryz.prog 209 #[.int .u64 (n : Int)] w fun e w' => (∃ v', e = .returned v' ∧ RdN w' v' n) ∧ Below w.heap.size w w' := by
  have hcm : (1 : Nat) ≤ maxLen := by unfold maxLen; omega
  have HR : Hid (RdW (w.alloc (.cells #[.int .u64 (n : Int)] 270)) (.slice (some ⟨w.heap.size, 0, none⟩) 1 1) [n]) :=
    ⟨_, 1, rfl, Nat.le_refl _, hcm, fun _ => ⟨_, _, rfl, trivial, fun i hi => by
      have : i = 0 := by simp at hi; omega
      subst this
      exact cell_of_row _ _ 0 _ _ _ (heap_alloc_new w _)⟩⟩
  have HC := Lib.hid (cut_num _ [n] _ HR.out (fun x hx => by rw [List.mem_singleton.1 hx]; exact hn))
  rw [val_one] at HC
  clear hn hcm
  go_enter Tryz.func209, Tryz.ntmps209
  go_wp2_with fail
  refine HC.out.mono ?_
  rintro e w2 ⟨⟨v', rfl, hr⟩, rfl⟩
  have HR2 := Lib.hid hr
  clear hr
  go_wp2_with fail
  go_ret
  exact ⟨⟨_, rfl, HR2.out⟩, (Below.refl _ w).alloc (Nat.le_refl _) _⟩
def cmpN (m n : Nat) : Int := if m < n then -1 else if n < m then 1 else 0
theorem cmpN_lt {m n : Nat} (h : m < n) : cmpN m n = -1 := if_pos h
theorem cmpN_gt {m n : Nat} (h : n < m) : cmpN m n = 1 := by unfold cmpN; rw [if_neg (by omega), if_pos h]
theorem cmpN_eq {m n : Nat} (h : m = n) : cmpN m n = 0 := by unfold cmpN; rw [if_neg (by omega), if_neg (by omega)]
set_option maxHeartbeats 2000000 in
theorem cmp_any (va vb : Value) (m n : Nat) (w : World) (ha : RdN w va m) (hb : RdN w vb n) :
    Calls Tryz.prog 127 #[va, vb] w fun e w' => e = .returned (.int .i64 (cmpN m n)) ∧ Below w.heap.size w w' := by
  obtain ⟨A1, k1, c1, rfl, e1, _, _, _, hc1⟩ := RdW.open_ ha
  obtain ⟨A2, k2, c2, rfl, e2, _, _, _, hc2⟩ := RdW.open_ hb
  obtain ⟨r, hr⟩ : ∃ r, r = cmpN m n := ⟨_, rfl⟩
  rw [← hr]
  have HR := Lib.hid hr
  have HC1 := Lib.hid hc1
  have HC2 := Lib.hid hc2
  have hlt1 := digs_lt B64_2 m
  have hlt2 := digs_lt B64_2 n
  have E1 := Lib.hid e1
  have E2 := Lib.hid e2
  have HLT1 := Lib.hid hlt1
  have HLT2 := Lib.hid hlt2
  clear ha hb hc1 hc2 hr hlt1 hlt2 e1 e2
  by_cases hk : k1 = k2
  · subst hk
    go_enter Tryz.func127, Tryz.ntmps127
    go_wp2_with fail
    go_loopw [5] (fun iv wr => ∃ k : Nat, k ≤ k1 ∧ iv = .int .i64 ((k : Int) - 1) ∧ Hid ((digs B64 m).drop k = (digs B64 n).drop k) ∧ Below w.heap.size w wr) (fun iv _ => (intOf iv + 1).toNat)
    case atStart => exact ⟨k1, Nat.le_refl _, rfl, by show _ = _; rw [List.drop_of_length_le (by rw [E1.out]; exact Nat.le_refl _), List.drop_of_length_le (by rw [E2.out]; exact Nat.le_refl _)], Below.refl _ _⟩
    case round =>
      obtain ⟨k, hk, rfl, HD, hbel⟩ := hrel
      have HBEL := Lib.hid hbel
      clear hbel
      by_cases hk0 : k = 0
      · have hneg : ¬ ((k : Int) - 1 ≥ 0) := by omega
        have HQ : Hid (r = 0) := by
          show _ = _; rw [HR.out]
          refine cmpN_eq (digs_inj B64_2 ?_)
          have := HD.out
          rw [hk0, List.drop_zero, List.drop_zero] at this
          exact this
        clear hk0
        go_wp2_with fail
        go_ret
        exact ⟨by rw [HQ.out]; rfl, HBEL.out⟩
      · obtain ⟨j, rfl⟩ : ∃ j, k = j + 1 := ⟨k - 1, by omega⟩
        have hj : (((j + 1 : Nat) : Int) - 1) = (j : Int) := by omega
        rw [hj]
        obtain ⟨b1, f1, x, rfl, hl1, hx, hcx⟩ := HC1.out j (by omega)
        obtain ⟨b2, f2, y, rfl, hl2, hy, hcy⟩ := HC2.out j (by omega)
        have hxB := HLT1.out x (List.mem_of_getElem? hx)
        have hyB := HLT2.out y (List.mem_of_getElem? hy)
        have hji : (j : Int) < (k1 : Int) := by omega
        have hj0 : (0 : Int) ≤ (j : Int) := by omega
        have HCL : Hid (∀ w', Below w.heap.size w w' → w'.cell? ⟨b1, f1 + j, none⟩ = some (.int .u64 (x : Int)) ∧ w'.cell? ⟨b2, f2 + j, none⟩ = some (.int .u64 (y : Int))) := fun w' h =>
          ⟨(h.cell (p := ⟨b1, _, none⟩) hl1).trans hcx, (h.cell (p := ⟨b2, _, none⟩) hl2).trans hcy⟩
        have HBD : Hid (Below w.heap.size w wr.drew) := HBEL.out.drew
        have HBD2 : Hid (Below w.heap.size w wr.drew.drew) := HBEL.out.drew.drew
        have HLS : Hid (x < y → r = -1) := fun h => by
          rw [HR.out]
          refine cmpN_lt ?_
          rw [← val_digs B64_2 m, ← val_digs B64_2 n]
          exact val_le_of B64_2 (by rw [E1.out, E2.out]) hx hy HLT1.out HD.out h
        have HGT : Hid (y < x → r = 1) := fun h => by
          rw [HR.out]
          refine cmpN_gt ?_
          rw [← val_digs B64_2 m, ← val_digs B64_2 n]
          exact val_le_of B64_2 (by rw [E1.out, E2.out]) hy hx HLT2.out HD.out.symm h
        have HEQ : Hid (x = y → (digs B64 m).drop j = (digs B64 n).drop j) := fun h => by
          subst h
          obtain ⟨h1, h2⟩ := List.getElem?_eq_some_iff.1 hx
          obtain ⟨h3, h4⟩ := List.getElem?_eq_some_iff.1 hy
          rw [List.drop_eq_getElem_cons h1, List.drop_eq_getElem_cons h3, HD.out, h2, h4]
        clear hx hy hcx hcy hj hk0 hxB hyB
        rcases Nat.lt_trichotomy x y with h | h | h
        · have hb1 : decide (x < y) = true := decide_eq_true h
          have HQ := Lib.hid (HLS.out h)
          clear h
          go_wp2_with fail
          refine seq_start (S := fun w' => w'.cell? ⟨b1, f1 + j, none⟩ = some (.int .u64 (x : Int)) ∧ w'.cell? ⟨b2, f2 + j, none⟩ = some (.int .u64 (y : Int))) (by kernel_rfl) (by kernel_rfl) (by exact HCL.out _ HBD.out) ?_
          repeat (first
            | (refine seq_take0 (v := ?_) ?_ (fun _ _ _ h => h) (by kernel_rfl) ?_ ?_; rotate_left; (focus rfl); (focus (intro w' hSw; (try dsimp only at hSw); go_simp; (try with_reducible rfl); done)); (try simp only [Act.put, List.setIfInBounds_toArray, List.set_cons_zero, List.set_cons_succ]))
            | (refine seq_takeG (v := ?_) (g := ?_) (d := ?_) (b := ?_) (u := ?_) ?_ ?_ ?_ ?_ (fun _ _ _ h => h) (by kernel_rfl) ?_ ?_; rotate_left 5; (focus rfl); (focus rfl); (focus rfl); (focus (first | rfl | (go_simp; done))); (focus (intro w' hSw; (try dsimp only at hSw); go_simp; (try with_reducible rfl); done)); (try simp only [Act.put, List.setIfInBounds_toArray, List.set_cons_zero, List.set_cons_succ]))
            | (refine seq_skipG (g := ?_) (d := ?_) (b := ?_) (u := ?_) ?_ ?_ ?_ ?_ (fun _ _ _ h => h) (by kernel_rfl) ?_; rotate_left 4; (focus rfl); (focus rfl); (focus rfl); (focus (first | rfl | (go_simp; done))); (try simp only [Act.put, List.setIfInBounds_toArray, List.set_cons_zero, List.set_cons_succ])))
          refine seq_done (by kernel_rfl) ?_
          go_wp2_with fail
          go_ret
          exact ⟨by rw [HQ.out]; rfl, HBD.out⟩
        · have hb1 : decide (x < y) = false := decide_eq_false (by omega)
          have hb2 : decide (y < x) = false := decide_eq_false (by omega)
          have HQ := Lib.hid (HEQ.out h)
          clear h
          go_wp2_with fail
          refine seq_start (S := fun w' => w'.cell? ⟨b1, f1 + j, none⟩ = some (.int .u64 (x : Int)) ∧ w'.cell? ⟨b2, f2 + j, none⟩ = some (.int .u64 (y : Int))) (by kernel_rfl) (by kernel_rfl) (by exact HCL.out _ HBD.out) ?_
          repeat (first
            | (refine seq_take0 (v := ?_) ?_ (fun _ _ _ h => h) (by kernel_rfl) ?_ ?_; rotate_left; (focus rfl); (focus (intro w' hSw; (try dsimp only at hSw); go_simp; (try with_reducible rfl); done)); (try simp only [Act.put, List.setIfInBounds_toArray, List.set_cons_zero, List.set_cons_succ]))
            | (refine seq_takeG (v := ?_) (g := ?_) (d := ?_) (b := ?_) (u := ?_) ?_ ?_ ?_ ?_ (fun _ _ _ h => h) (by kernel_rfl) ?_ ?_; rotate_left 5; (focus rfl); (focus rfl); (focus rfl); (focus (first | rfl | (go_simp; done))); (focus (intro w' hSw; (try dsimp only at hSw); go_simp; (try with_reducible rfl); done)); (try simp only [Act.put, List.setIfInBounds_toArray, List.set_cons_zero, List.set_cons_succ]))
            | (refine seq_skipG (g := ?_) (d := ?_) (b := ?_) (u := ?_) ?_ ?_ ?_ ?_ (fun _ _ _ h => h) (by kernel_rfl) ?_; rotate_left 4; (focus rfl); (focus rfl); (focus rfl); (focus (first | rfl | (go_simp; done))); (try simp only [Act.put, List.setIfInBounds_toArray, List.set_cons_zero, List.set_cons_succ])))
          refine seq_done (by kernel_rfl) ?_
          go_wp2_with fail
          refine seq_start (S := fun w' => w'.cell? ⟨b1, f1 + j, none⟩ = some (.int .u64 (x : Int)) ∧ w'.cell? ⟨b2, f2 + j, none⟩ = some (.int .u64 (y : Int))) (by kernel_rfl) (by kernel_rfl) (by exact HCL.out _ HBD2.out) ?_
          repeat (first
            | (refine seq_take0 (v := ?_) ?_ (fun _ _ _ h => h) (by kernel_rfl) ?_ ?_; rotate_left; (focus rfl); (focus (intro w' hSw; (try dsimp only at hSw); go_simp; (try with_reducible rfl); done)); (try simp only [Act.put, List.setIfInBounds_toArray, List.set_cons_zero, List.set_cons_succ]))
            | (refine seq_takeG (v := ?_) (g := ?_) (d := ?_) (b := ?_) (u := ?_) ?_ ?_ ?_ ?_ (fun _ _ _ h => h) (by kernel_rfl) ?_ ?_; rotate_left 5; (focus rfl); (focus rfl); (focus rfl); (focus (first | rfl | (go_simp; done))); (focus (intro w' hSw; (try dsimp only at hSw); go_simp; (try with_reducible rfl); done)); (try simp only [Act.put, List.setIfInBounds_toArray, List.set_cons_zero, List.set_cons_succ]))
            | (refine seq_skipG (g := ?_) (d := ?_) (b := ?_) (u := ?_) ?_ ?_ ?_ ?_ (fun _ _ _ h => h) (by kernel_rfl) ?_; rotate_left 4; (focus rfl); (focus rfl); (focus rfl); (focus (first | rfl | (go_simp; done))); (try simp only [Act.put, List.setIfInBounds_toArray, List.set_cons_zero, List.set_cons_succ])))
          refine seq_done (by kernel_rfl) ?_
          go_wp2_with fail
          go_roundw
          case rel => exact ⟨j, by omega, rfl, HQ.out, HBD2.out⟩
          case measure => simp [intOf]
        · have hb1 : decide (x < y) = false := decide_eq_false (by omega)
          have hb2 : decide (y < x) = true := decide_eq_true h
          have HQ := Lib.hid (HGT.out h)
          clear h
          go_wp2_with fail
          refine seq_start (S := fun w' => w'.cell? ⟨b1, f1 + j, none⟩ = some (.int .u64 (x : Int)) ∧ w'.cell? ⟨b2, f2 + j, none⟩ = some (.int .u64 (y : Int))) (by kernel_rfl) (by kernel_rfl) (by exact HCL.out _ HBD.out) ?_
          repeat (first
            | (refine seq_take0 (v := ?_) ?_ (fun _ _ _ h => h) (by kernel_rfl) ?_ ?_; rotate_left; (focus rfl); (focus (intro w' hSw; (try dsimp only at hSw); go_simp; (try with_reducible rfl); done)); (try simp only [Act.put, List.setIfInBounds_toArray, List.set_cons_zero, List.set_cons_succ]))
            | (refine seq_takeG (v := ?_) (g := ?_) (d := ?_) (b := ?_) (u := ?_) ?_ ?_ ?_ ?_ (fun _ _ _ h => h) (by kernel_rfl) ?_ ?_; rotate_left 5; (focus rfl); (focus rfl); (focus rfl); (focus (first | rfl | (go_simp; done))); (focus (intro w' hSw; (try dsimp only at hSw); go_simp; (try with_reducible rfl); done)); (try simp only [Act.put, List.setIfInBounds_toArray, List.set_cons_zero, List.set_cons_succ]))
            | (refine seq_skipG (g := ?_) (d := ?_) (b := ?_) (u := ?_) ?_ ?_ ?_ ?_ (fun _ _ _ h => h) (by kernel_rfl) ?_; rotate_left 4; (focus rfl); (focus rfl); (focus rfl); (focus (first | rfl | (go_simp; done))); (try simp only [Act.put, List.setIfInBounds_toArray, List.set_cons_zero, List.set_cons_succ])))
          refine seq_done (by kernel_rfl) ?_
          go_wp2_with fail
          refine seq_start (S := fun w' => w'.cell? ⟨b1, f1 + j, none⟩ = some (.int .u64 (x : Int)) ∧ w'.cell? ⟨b2, f2 + j, none⟩ = some (.int .u64 (y : Int))) (by kernel_rfl) (by kernel_rfl) (by exact HCL.out _ HBD2.out) ?_
          repeat (first
            | (refine seq_take0 (v := ?_) ?_ (fun _ _ _ h => h) (by kernel_rfl) ?_ ?_; rotate_left; (focus rfl); (focus (intro w' hSw; (try dsimp only at hSw); go_simp; (try with_reducible rfl); done)); (try simp only [Act.put, List.setIfInBounds_toArray, List.set_cons_zero, List.set_cons_succ]))
            | (refine seq_takeG (v := ?_) (g := ?_) (d := ?_) (b := ?_) (u := ?_) ?_ ?_ ?_ ?_ (fun _ _ _ h => h) (by kernel_rfl) ?_ ?_; rotate_left 5; (focus rfl); (focus rfl); (focus rfl); (focus (first | rfl | (go_simp; done))); (focus (intro w' hSw; (try dsimp only at hSw); go_simp; (try with_reducible rfl); done)); (try simp only [Act.put, List.setIfInBounds_toArray, List.set_cons_zero, List.set_cons_succ]))
            | (refine seq_skipG (g := ?_) (d := ?_) (b := ?_) (u := ?_) ?_ ?_ ?_ ?_ (fun _ _ _ h => h) (by kernel_rfl) ?_; rotate_left 4; (focus rfl); (focus rfl); (focus rfl); (focus (first | rfl | (go_simp; done))); (try simp only [Act.put, List.setIfInBounds_toArray, List.set_cons_zero, List.set_cons_succ])))
          refine seq_done (by kernel_rfl) ?_
          go_wp2_with fail
          go_ret
          exact ⟨by rw [HQ.out]; rfl, HBD2.out⟩
  · have hkb : ((k1 : Int) != (k2 : Int)) = true := by simp; omega
    by_cases hlt : k1 < k2
    · have hki : (k1 : Int) < (k2 : Int) := by omega
      have HQ : Hid (r = -1) := by show _ = _; rw [HR.out]; exact cmpN_lt (len_lt_val B64_2 (by rw [E1.out, E2.out]; exact hlt))
      clear hk
      go_enter Tryz.func127, Tryz.ntmps127
      go_wp2_with fail
      go_ret
      exact ⟨by rw [HQ.out]; rfl, Below.refl _ _⟩
    · have hki : ¬ ((k1 : Int) < (k2 : Int)) := by omega
      have HQ : Hid (r = 1) := by show _ = _; rw [HR.out]; exact cmpN_gt (len_lt_val B64_2 (by rw [E1.out, E2.out]; omega))
      clear hk
      go_enter Tryz.func127, Tryz.ntmps127
      go_wp2_with fail
      go_ret
      exact ⟨by rw [HQ.out]; rfl, Below.refl _ _⟩
end Go.Proofs.YtodckaioeomccaaGreat
