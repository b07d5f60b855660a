/- Slices of whole numbers that came in. A region that draws its order, walked operation after operation: plain, and in the body of a round. Where two or three operations of a drawn region may come up: each of them in turn. The walks of slices.Clone and of plant.copied. An append to a row of the call's own: the new row is the old one, or lies in a new block. Two rows of the call's own that grow side by side in a region that draws its order; slices of structs of k cells. Appends whose source is a slice that reads as a list, nil or not; where the new row lies. -/
import Derived.Test.YtodckaioeomccaaGreatPart04
import Derived.Deep.Slices
import Derived.Deep.Fields
import Derived.ChangeSame
import Derived.OpenShut
import Derived.Deep.RegionHeld
import Derived.OrdersIn
import Derived.Test.YtodckaioeomccaaGreatPart02
import Derived.Deep.RegionWith
import Derived.Deep.RegionLaw
import Derived.Test.YtodckaioeomccaaGreatPart03
import Derived.Deep.RegionHeld3
import Derived.Deep.Upon
namespace Go.Proofs.YtodckaioeomccaaGreat
open Go.RowKit Go.ChangeShapes Go.WideShapes Go.Deep
theorem list_of_lt {α : Type} {P : Nat → α → Prop} {n : Nat} (h : ∀ i, i < n → ∃ a, P i a) : ∃ xs : List α, xs.length = n ∧ ∀ (i : Nat) (x : α), xs[i]? = some x → P i x := by
 induction n with
 | zero => exact ⟨[], rfl, fun i x h => by simp at h⟩
 | succ k ih =>
  obtain ⟨ys, hl, hy⟩ := ih fun i hi => h i (by omega)
  obtain ⟨a, ha⟩ := h k (by omega)
  refine ⟨ys ++ [a], by simp [hl], fun i z hz => ?_⟩
  rcases Nat.lt_or_ge i ys.length with hi | hi
  ·rw [List.getElem?_append_left hi] at hz; exact hy i z hz
  ·have hi' : i = ys.length := by have := (List.getElem?_eq_some_iff.1 hz).1; simp at this; omega
   subst hi'
   rw [List.getElem?_append_right (Nat.le_refl _)] at hz
   simp at hz
   subst hz
   rw [hl]
   exact ha
section
variable {H : Type} {enc : TypeId × Value → H} {w : World} {base : Nat} {spare : Nat → Bool} {held : Bool}
end
theorem bounds_int {n : Int} (h : (Lit.int .i64 n).wf = true) : -9223372036854775808 ≤ n ∧ n ≤ 9223372036854775807 := by
 simp only [Lit.wf, Bool.and_eq_true, decide_eq_true_eq] at h
 exact h
end Go.Proofs.YtodckaioeomccaaGreat
namespace Go.Proofs.YtodckaioeomccaaGreat
set_option linter.unusedVariables false
section
variable {P : Program} {ops : Array Oper} {Q : Exit → Act → World → Prop} {S : World → Prop}
def places : Nat → List Oper → List (Nat × Oper)
 | _, [] => []
 | k, o :: l => (k, o) :: places (k + 1) l
theorem places_get : ∀ (l : List Oper) (k : Nat) (p : Nat × Oper), p ∈ places k l → k ≤ p.1 ∧ l[p.1 - k]? = some p.2
 | [], _, _, h => by cases h
 | o :: l, k, p, h => by
  rcases List.mem_cons.1 h with rfl | h
  ·exact ⟨Nat.le_refl _, by simp⟩
  ·obtain ⟨h1, h2⟩ := places_get l (k + 1) p h
   refine ⟨by omega, ?_⟩
   rw [show p.1 - k = (p.1 - (k + 1)) + 1 by omega]
   exact h2
theorem places_len : ∀ (l : List Oper) (k : Nat), (places k l).length = l.length
 | [], _ => rfl
 | o :: l, k => by simp [places, places_len l (k + 1)]
theorem places_has : ∀ (l : List Oper) (k i : Nat), k ≤ i → i < k + l.length → (places k l).any (fun p => p.1 == i) = true
 | [], k, i, h1, h2 => by simp at h2; omega
 | o :: l, k, i, h1, h2 => by
  simp only [places, List.any_cons, Bool.or_eq_true, beq_iff_eq]
  by_cases h : k = i
  ·exact .inl h
  ·exact .inr (places_has l (k + 1) i (by omega) (by simp at h2; omega))
def listedOf (n : Nat) (rest : List (Nat × Oper)) : Array Bool := ((List.range n).map fun i => !(rest.any fun p => p.1 == i)).toArray
theorem listedOf_size (n : Nat) (rest : List (Nat × Oper)) : (listedOf n rest).size = n := by simp [listedOf]
theorem listedOf_get (n : Nat) (rest : List (Nat × Oper)) (i : Nat) : (listedOf n rest)[i]? = if i < n then some (!(rest.any fun p => p.1 == i)) else none := by
 unfold listedOf
 rw [List.getElem?_toArray, List.getElem?_map]
 split
 ·rename_i h; rw [List.getElem?_range h]; rfl
 ·rename_i h; rw [List.getElem?_eq_none (by simpa using h)]; rfl
theorem listedOf_start (l : List Oper) : listedOf l.toArray.size (places 0 l) = Array.replicate l.toArray.size false := by
 refine Array.ext_getElem? fun i => ?_
 rw [listedOf_get, Array.getElem?_replicate]
 split
 ·rename_i h; rw [places_has l 0 i (by omega) (by simpa using h)]; rfl
 ·rfl
theorem listedOf_next {n i : Nat} {o : Oper} {rest : List (Nat × Oper)} (h : (rest.any fun p => p.1 == i) = false) : (listedOf n ((i, o) :: rest)).setIfInBounds i true = listedOf n rest := by
 refine Array.ext_getElem? fun j => ?_
 rw [Array.getElem?_setIfInBounds, listedOf_size, listedOf_get, listedOf_get]
 by_cases hj : i = j
 ·subst hj
  rw [if_pos rfl]
  split
  ·rw [h]; rfl
  ·rfl
 ·rw [if_neg hj]
  split
  ·simp [hj]
  ·rfl
theorem listedOf_swap {n : Nat} {p q : Nat × Oper} {rest : List (Nat × Oper)} : listedOf n (p :: q :: rest) = listedOf n (q :: p :: rest) := by
 refine Array.ext_getElem? fun j => ?_
 rw [listedOf_get, listedOf_get]
 simp only [List.any_cons]
 rw [Bool.or_left_comm]
def okTake (ops : Array Oper) (p : Nat × Oper) (rest : List (Nat × Oper)) : Bool :=
 Region.free .any ops (listedOf ops.size (p :: rest)) p.1 && (Region.ready .any ops (listedOf ops.size (p :: rest))).contains p.1 && !(rest.any fun q => q.1 == p.1)
def okOnly (ops : Array Oper) (p : Nat × Oper) (rest : List (Nat × Oper)) : Bool :=
 (Region.ready .any ops (listedOf ops.size (p :: rest)) == [p.1]) && !(rest.any fun q => q.1 == p.1)
def calmOps (ops : Array Oper) : Bool := ops.all fun o => match o.op with | .select .. => false | .defer .. => false | _ => true
theorem calm_select (h : calmOps ops = true) : Region.noSelect ops = true := by
 unfold calmOps at h
 unfold Region.noSelect
 rw [Array.all_eq_true_iff_forall_mem] at h ⊢
 intro o ho
 have := h o ho
 split at this <;> simp_all
def isB (u : Value) (b : Bool) : Bool := match u with | .bool c => c == b | _ => false
theorem wanted_free {o : Oper} {a : Act} (h : o.guard = none) : Region.wanted o (yielded ops a.tmps) = true := by simp [Region.wanted, h]
theorem wanted_isB {o : Oper} {a : Act} {g d : Nat} {b : Bool} {u : Value} (hg : o.guard = some (g, b)) (hd : (ops[g]?).bind (·.dst) = some d) (hv : a.tmps[d]? = some u) : Region.wanted o (yielded ops a.tmps) = isB u b := by
 unfold Region.wanted yielded
 rw [hg]
 simp only [hd, Option.bind_some, hv]
 cases u <;> simp [isB]
def Seq (P : Program) (ops : Array Oper) (Q : Exit → Act → World → Prop) (S : World → Prop) (rest : List (Nat × Oper)) (a : Act) (w : World) : Prop :=
 S w → calmOps ops = true → (∀ p ∈ rest, ops[p.1]? = some p.2) → wpAnyH P .any ops Q S rest.length (listedOf ops.size rest) a w
theorem seq_start {id : Nat} {l : List Oper} {a : Act} {w : World} (hm : P.follows .mixedOrders = true) (hc : calmOps l.toArray = true) (hS : S w.drew) (h : Seq P l.toArray Q S (places 0 l) a w.drew) : (Code.region id l.toArray true).wp P Q a w := by
 refine wp_region_held_drew hm hS fun _ => ?_
 have := h hS hc (fun p hp => by have := places_get l 0 p hp; simpa using this.2)
 rw [listedOf_start, places_len] at this
 simpa using this
theorem seq_yield {i : Nat} {o : Oper} {rest : List (Nat × Oper)} {a : Act} {w : World} {v : Value} (hQ : ∀ c a w, Q (.panic c) (a.put o.dst v) w → Q (.panic c) a w) (hok : okTake ops (i, o) rest = true) (hy : YieldsIf P ops S o v a) (h : Seq P ops Q S rest (a.put o.dst v) w) : Seq P ops Q S ((i, o) :: rest) a w := by
 intro hS hc hin
 unfold okTake at hok
 simp only [Bool.and_eq_true, Bool.not_eq_true'] at hok
 obtain ⟨⟨h1, h2⟩, h3⟩ := hok
 have h4 := h hS hc (fun p hp => hin p (List.mem_cons_of_mem _ hp))
 rw [← listedOf_next (o := o) h3] at h4
 exact wpAnyH_take (hin _ (List.mem_cons_self ..)) (calm_select hc) h1 h2 hQ hy hS h4
theorem seq_skip {i : Nat} {o : Oper} {rest : List (Nat × Oper)} {a : Act} {w : World} (hw : Region.wanted o (yielded ops a.tmps) = false) (hQ : ∀ c a w, Q (.panic c) (a.put o.dst undef) w → Q (.panic c) a w) (hok : okTake ops (i, o) rest = true) (h : Seq P ops Q S rest (a.put o.dst undef) w) : Seq P ops Q S ((i, o) :: rest) a w :=
 seq_yield hQ hok (.inr ⟨hw, rfl⟩) h
theorem seq_take {i : Nat} {o : Oper} {rest : List (Nat × Oper)} {a : Act} {w : World} {v : Value} (hw : Region.wanted o (yielded ops a.tmps) = true) (hQ : ∀ c a w, Q (.panic c) (a.put o.dst v) w → Q (.panic c) a w) (hok : okTake ops (i, o) rest = true) (hv : ∀ w', S w' → (execOp a.eval o).run P w' = .ok (.value v) w') (h : Seq P ops Q S rest (a.put o.dst v) w) : Seq P ops Q S ((i, o) :: rest) a w :=
 seq_yield hQ hok (.inl ⟨hw, hv⟩) h
theorem seq_take0 {i : Nat} {o : Oper} {rest : List (Nat × Oper)} {a : Act} {w : World} {v : Value} (hg : o.guard = none) (hQ : ∀ c a w, Q (.panic c) (a.put o.dst v) w → Q (.panic c) a w) (hok : okTake ops (i, o) rest = true) (hv : ∀ w', S w' → (execOp a.eval o).run P w' = .ok (.value v) w') (h : Seq P ops Q S rest (a.put o.dst v) w) : Seq P ops Q S ((i, o) :: rest) a w :=
 seq_take (wanted_free hg) hQ hok hv h
theorem seq_takeG {i : Nat} {o : Oper} {rest : List (Nat × Oper)} {a : Act} {w : World} {v : Value} {g d : Nat} {b : Bool} {u : Value} (hg : o.guard = some (g, b)) (hd : (ops[g]?).bind (·.dst) = some d) (hu : a.tmps[d]? = some u) (hb : isB u b = true) (hQ : ∀ c a w, Q (.panic c) (a.put o.dst v) w → Q (.panic c) a w) (hok : okTake ops (i, o) rest = true) (hv : ∀ w', S w' → (execOp a.eval o).run P w' = .ok (.value v) w') (h : Seq P ops Q S rest (a.put o.dst v) w) : Seq P ops Q S ((i, o) :: rest) a w :=
 seq_take ((wanted_isB hg hd hu).trans hb) hQ hok hv h
theorem seq_skipG {i : Nat} {o : Oper} {rest : List (Nat × Oper)} {a : Act} {w : World} {g d : Nat} {b : Bool} {u : Value} (hg : o.guard = some (g, b)) (hd : (ops[g]?).bind (·.dst) = some d) (hu : a.tmps[d]? = some u) (hb : isB u b = false) (hQ : ∀ c a w, Q (.panic c) (a.put o.dst undef) w → Q (.panic c) a w) (hok : okTake ops (i, o) rest = true) (h : Seq P ops Q S rest (a.put o.dst undef) w) : Seq P ops Q S ((i, o) :: rest) a w :=
 seq_skip ((wanted_isB hg hd hu).trans hb) hQ hok h
theorem seq_op {i : Nat} {o : Oper} {rest : List (Nat × Oper)} {a : Act} {w : World} (hok : okOnly ops (i, o) rest = true) (hw : Region.wanted o (yielded ops a.tmps) = true)
  (h : ∀ K : Act → World → Prop, Shut (∀ a w, S w → Seq P ops Q S rest a w → K a w) → Oper.wp P o a w K Q) : Seq P ops Q S ((i, o) :: rest) a w := by
 intro hS hc hin
 unfold okOnly at hok
 simp only [Bool.and_eq_true, Bool.not_eq_true', beq_iff_eq] at hok
 obtain ⟨h1, h2⟩ := hok
 refine wpAnyH_ready h1 (by simp) (AllReadyH.cons (hin _ (List.mem_cons_self ..)) (fun K hK => ?_) AllReadyH.nil)
 rw [if_pos hw]
 refine h K fun a' w' hS' hq => hK a' w' hS' fun _ => ?_
 rw [listedOf_next h2]
 exact hq hS' hc (fun p hp => hin p (List.mem_cons_of_mem _ hp))
theorem seq_swap {p q : Nat × Oper} {rest : List (Nat × Oper)} {a : Act} {w : World} (h : Seq P ops Q S (q :: p :: rest) a w) : Seq P ops Q S (p :: q :: rest) a w := fun hS hc hin => by
 rw [listedOf_swap]
 exact h hS hc (fun r hr => hin r (by simp at hr ⊢; rcases hr with h | h | h <;> simp [h]))
theorem seq_done {a : Act} {w : World} (hok : Region.ready .any ops (listedOf ops.size []) = []) (h : Q .normal a w) : Seq P ops Q S [] a w := fun _ _ _ => wpAnyH_done hok h _
variable {F : Fence} {n : Nat}
end
end Go.Proofs.YtodckaioeomccaaGreat
namespace Go.Proofs.YtodckaioeomccaaGreat
set_option linter.unusedVariables false
section
variable {P : Program} {ops : Array Oper} {Q : Exit → Act → World → Prop} {S : World → Prop}
theorem listedOf_perm {n : Nat} {l l' : List (Nat × Oper)} (h : l'.Perm l) : listedOf n l = listedOf n l' := by
 unfold listedOf
 congr 1
 refine List.map_congr_left fun i _ => ?_
 congr 1
 rw [Bool.eq_iff_iff, List.any_eq_true, List.any_eq_true]
 exact ⟨fun ⟨x, h1, h2⟩ => ⟨x, h.mem_iff.2 h1, h2⟩, fun ⟨x, h1, h2⟩ => ⟨x, h.mem_iff.1 h1, h2⟩⟩
theorem seq_perm {l l' : List (Nat × Oper)} {a : Act} {w : World} (h : l'.Perm l) (hs : Seq P ops Q S l' a w) : Seq P ops Q S l a w := fun hS hc hin => by
 have := hs hS hc (fun p hp => hin p (h.mem_iff.1 hp))
 rw [listedOf_perm h, ← h.length_eq]
 exact this
def okThree (ops : Array Oper) (p q r : Nat × Oper) (rest : List (Nat × Oper)) : Bool :=
 (Region.ready .any ops (listedOf ops.size (p :: q :: r :: rest))).all (fun i => i == p.1 || i == q.1 || i == r.1) && !(Region.ready .any ops (listedOf ops.size (p :: q :: r :: rest))).isEmpty &&
  !((q :: r :: rest).any fun x => x.1 == p.1) && !((p :: r :: rest).any fun x => x.1 == q.1) && !((p :: q :: rest).any fun x => x.1 == r.1)
def okTwo (ops : Array Oper) (p q : Nat × Oper) (rest : List (Nat × Oper)) : Bool :=
 (Region.ready .any ops (listedOf ops.size (p :: q :: rest))).all (fun i => i == p.1 || i == q.1) && !(Region.ready .any ops (listedOf ops.size (p :: q :: rest))).isEmpty &&
  !((q :: rest).any fun x => x.1 == p.1) && !((p :: rest).any fun x => x.1 == q.1)
def StepTo (P : Program) (ops : Array Oper) (Q : Exit → Act → World → Prop) (S : World → Prop) (o : Oper) (rest : List (Nat × Oper)) (a : Act) (w : World) : Prop :=
 ∀ K : Act → World → Prop, Shut (∀ a w, S w → Seq P ops Q S rest a w → K a w) → Oper.wp P o a w K Q
theorem stepTo_op {i : Nat} {o : Oper} {rest all : List (Nat × Oper)} {a : Act} {w : World} (hc : calmOps ops = true) (hin : ∀ p ∈ all, ops[p.1]? = some p.2) (hperm : ((i, o) :: rest).Perm all) (hno : (rest.any fun x => x.1 == i) = false)
  (hw : Region.wanted o (yielded ops a.tmps) = true) (h : StepTo P ops Q S o rest a w) :
  wpOp P ops Q i (fun a' w' => S w' ∧ wpAnyH P .any ops Q S rest.length ((listedOf ops.size all).setIfInBounds i true) a' w') a w := by
 refine wpOp_step (hin _ (hperm.mem_iff.1 (List.mem_cons_self ..))) (fun K hK => ?_)
 rw [if_pos hw]
 refine h K fun a' w' hS' hq => hK a' w' ⟨hS', ?_⟩
 rw [listedOf_perm hperm, listedOf_next hno]
 exact hq hS' hc (fun p hp => hin p (hperm.mem_iff.1 (List.mem_cons_of_mem _ hp)))
theorem seq_three {p q r : Nat × Oper} {rest : List (Nat × Oper)} {a : Act} {w : World} (hok : okThree ops p q r rest = true)
  (hp : Region.wanted p.2 (yielded ops a.tmps) = true) (hq : Region.wanted q.2 (yielded ops a.tmps) = true) (hr : Region.wanted r.2 (yielded ops a.tmps) = true)
  (h1 : StepTo P ops Q S p.2 (q :: r :: rest) a w) (h2 : StepTo P ops Q S q.2 (p :: r :: rest) a w) (h3 : StepTo P ops Q S r.2 (p :: q :: rest) a w) : Seq P ops Q S (p :: q :: r :: rest) a w := by
 intro hS hc hin
 unfold okThree at hok
 simp only [Bool.and_eq_true, Bool.not_eq_true', List.isEmpty_eq_false_iff] at hok
 obtain ⟨⟨⟨⟨k1, k2⟩, k3⟩, k4⟩, k5⟩ := hok
 refine wpAnyH_ready rfl k2 fun i hi => ?_
 have := List.all_eq_true.1 k1 i hi
 simp only [Bool.or_eq_true, beq_iff_eq] at this
 rcases this with (e | e) | e
 ·subst e; exact stepTo_op (rest := q :: r :: rest) hc hin (List.Perm.refl _) k3 hp h1
 ·subst e; exact stepTo_op (rest := p :: r :: rest) hc hin (List.Perm.swap ..) k4 hq h2
 ·subst e; exact stepTo_op (rest := p :: q :: rest) hc hin ((List.Perm.swap ..).trans (List.Perm.cons _ (List.Perm.swap ..))) k5 hr h3
theorem seq_both {p q : Nat × Oper} {rest : List (Nat × Oper)} {a : Act} {w : World} (hok : okTwo ops p q rest = true)
  (hp : Region.wanted p.2 (yielded ops a.tmps) = true) (hq : Region.wanted q.2 (yielded ops a.tmps) = true)
  (h1 : StepTo P ops Q S p.2 (q :: rest) a w) (h2 : StepTo P ops Q S q.2 (p :: rest) a w) : Seq P ops Q S (p :: q :: rest) a w := by
 intro hS hc hin
 unfold okTwo at hok
 simp only [Bool.and_eq_true, Bool.not_eq_true', List.isEmpty_eq_false_iff] at hok
 obtain ⟨⟨⟨k1, k2⟩, k3⟩, k4⟩ := hok
 refine wpAnyH_ready rfl k2 fun i hi => ?_
 have := List.all_eq_true.1 k1 i hi
 simp only [Bool.or_eq_true, beq_iff_eq] at this
 rcases this with e | e
 ·subst e; exact stepTo_op (rest := q :: rest) hc hin (List.Perm.refl _) k3 hp h1
 ·subst e; exact stepTo_op (rest := p :: rest) hc hin (List.Perm.swap ..) k4 hq h2
end
end Go.Proofs.YtodckaioeomccaaGreat
namespace Go.Proofs.YtodckaioeomccaaGreat
open Go.RowKit
theorem ownsRow_slice {w : World} {base : Nat} {e : TypeId} {size : Nat} {v : Value} {n : Nat} {xs : List Value} (h : w.ownsRow base e size v n xs) : ∃ A c, v = .slice A n c := by
 rcases h.2 with ⟨rfl, rfl⟩ | ⟨g, cap, cur, rfl, _⟩
 ·exact ⟨_, _, rfl⟩
 ·exact ⟨_, _, rfl⟩
theorem ownsRow_mono {w : World} {base base' : Nat} {e : TypeId} {size : Nat} {v : Value} {n : Nat} {xs : List Value} (h : w.ownsRow base e size v n xs) (hb : base' ≤ base) : w.ownsRow base' e size v n xs := by
 refine ⟨h.1, h.2.imp id ?_⟩
 rintro ⟨g, cap, cur, e1, e2, e3⟩
 exact ⟨g, cap, cur, e1, by omega, e3⟩
end Go.Proofs.YtodckaioeomccaaGreat
namespace Go.Proofs.YtodckaioeomccaaGreat
open Go.RowKit
theorem append_fresh {P : Program} (w : World) (base : Nat) (t ty e : TypeId) (i : TypeInfo) (z : Value) (size bytes : Nat) (ht : P.underlying t = some (.slice e)) (hi : P.info? e = some i) (hz : i.zero = some z)
  (hsize : i.size = size) (hby : i.bytes = bytes) (hzs : z.cells.size = size) (hsz : 0 < size)
  (v : Value) (n : Nat) (xs : List Value) (hown : w.ownsRow base e size v n xs)
  (a : Addr) (m c : Nat) (news : List Value) (hl : news.length = m * size) (hnews : ∀ j u, news[j]? = some u → w.cell? (a.add j) = some u) (h1 : ∀ u ∈ news, u.oneCell' = true)
  (h63 : n + m ≤ maxLen) (hbytes : (n + m) * bytes ≤ 140737488355328) (hbase : base ≤ w.heap.size) :
  ∃ v' w', (Builtin.append_ #[t, t] ty #[v, .slice (some a) m c]).run P w = .ok v' w' ∧ w'.ownsRow base e size v' (n + m) (xs ++ news) ∧ w.grownBy w' v.ownBlock ∧
   (∀ b, v'.ownBlock = some b → v.ownBlock = some b ∨ w.heap.size ≤ b) := by
 obtain ⟨v', w', hr, ho, hg, _⟩ := run_append_own (P := P) w base t ty e i z size bytes ht hi hz hsize hby hzs hsz v n xs hown a m c news hl hnews h1 h63 hbytes hbase
 refine ⟨v', w', hr, ho, hg, ?_⟩
 rcases hown.2 with ⟨rfl, rfl⟩ | ⟨g, cap, cur, rfl, hbg, hgc, hnc, hcm, hcs, htake⟩
 ·have hx : xs = [] := List.eq_nil_of_length_eq_zero (by simpa using hown.1)
  subst hx
  obtain ⟨v2, w2, hr2, ho2, _⟩ := run_append_own (P := P) w w.heap.size t ty e i z size bytes ht hi hz hsize hby hzs hsz (.slice none 0 0) 0 [] (World.ownsRow_nil _ _ _ _) a m c news hl hnews h1 h63 hbytes (Nat.le_refl _)
  have e1 := hr.symm.trans hr2
  simp only [Result.ok.injEq] at e1
  obtain ⟨rfl, rfl⟩ := e1
  exact fun b hb => .inr (ho2.lt b hb).1
 ·subst hsize
  by_cases hroom : n + m ≤ cap
  ·have hfit : n * i.size + news.length ≤ cur.size := by rw [hl, hcs, ← Nat.add_mul]; exact Nat.mul_le_mul_right _ hroom
   have hr2 := run_append_room (P := P) w t ty e i ht hi g n cap cur hgc a m c news hl hnews h1 hroom hfit
   have e1 := hr.symm.trans hr2
   simp only [Result.ok.injEq] at e1
   obtain ⟨rfl, rfl⟩ := e1
   exact fun b hb => .inl hb
  ·have holds : ∀ j u, xs[j]? = some u → w.cell? ((⟨g, 0, none⟩ : Addr).add j) = some u := hown.cells (g := g) rfl
   have hr2 := run_append_grow (P := P) w t ty e i z ht hi hz ⟨g, 0, none⟩ n cap xs hown.1 holds a m c news hl hnews (by omega) (by simp only [maxLen] at h63; omega) (growslice_fits (by omega) (by rw [hby]; exact hbytes))
   have e1 := hr.symm.trans hr2
   simp only [Result.ok.injEq] at e1
   obtain ⟨rfl, rfl⟩ := e1
   exact fun b hb => .inr (by simp [Value.ownBlock] at hb; omega)
theorem step_append_own {P : Program} {ops : Array Oper} {o : Oper} {a : Act} {w : World} {K : Act → World → Prop} {Q : Exit → Act → World → Prop} {E : Prop} (hg : o.guard = none) (s x : Operand) (t : TypeId)
  (ho : o.op = .call { callee := .builtin .append, args := #[s, x], argTypes := #[t, t] })
  (base : Nat) (e : TypeId) (i : TypeInfo) (z : Value) (size bytes : Nat) (ht : P.underlying t = some (.slice e)) (hi : P.info? e = some i) (hz : i.zero = some z)
  (hsize : i.size = size) (hby : i.bytes = bytes) (hzs : z.cells.size = size) (hsz : 0 < size)
  (v : Value) (n : Nat) (xs : List Value) (hs : a.eval s = v) (hown : w.ownsRow base e size v n xs)
  (ad : Addr) (m c : Nat) (news : List Value) (hx : a.eval x = .slice (some ad) m c) (hl : news.length = m * size) (hnews : ∀ j u, news[j]? = some u → w.cell? (ad.add j) = some u) (h1 : ∀ u ∈ news, u.oneCell' = true)
  (h63 : n + m ≤ maxLen) (hbytes : (n + m) * bytes ≤ 140737488355328) (hbase : base ≤ w.heap.size)
  (h : ∀ v' w', w'.ownsRow base e size v' (n + m) (xs ++ news) → w.grownBy w' v.ownBlock → (∀ b, v'.ownBlock = some b → v.ownBlock = some b ∨ w.heap.size ≤ b) → K (a.put o.dst v') w') :
  if Region.wanted o (yielded ops a.tmps) = true then Oper.wp P o a w K Q else E := by
 have hw : Region.wanted o (yielded ops a.tmps) = true := by simp [Region.wanted, hg]
 rw [if_pos hw]
 obtain ⟨v', w', hr, h2, h3, h4⟩ := append_fresh (P := P) w base t o.type e i z size bytes ht hi hz hsize hby hzs hsz v n xs hown ad m c news hl hnews h1 h63 hbytes hbase
 unfold Oper.wp execOp
 simp only [ho, resolve, invoke, builtin, Sem.run_bind, Sem.run_pure, Result.andThen_ok, List.map_toArray, List.map_cons, List.map_nil, hs, hx, hr]
 exact h v' w' h2 h3 h4
theorem cells_new (w : World) (c : Array Value) (t : TypeId) (m : Nat × Nat) : ∀ j u, c.toList[j]? = some u → (w.alloc (.cells c t m)).cell? ((⟨w.heap.size, 0, none⟩ : Addr).add j) = some u := by
 intro j u hu
 rw [addr_add, Nat.zero_add, cell?_alloc_mark']
 simpa using hu
end Go.Proofs.YtodckaioeomccaaGreat
namespace Go.Proofs.YtodckaioeomccaaGreat
open Go.RowKit
set_option linter.unusedVariables false
structure TwoO (B : Nat) (e1 e2 : TypeId) (K1 K2 : Nat) (v1 : Value) (n1 : Nat) (c1 : List Value) (v2 : Value) (n2 : Nat) (c2 : List Value) (P : Nat → Obj → Prop) (W0 W : World) : Prop where
 a : W.ownsRow B e1 K1 v1 n1 c1
 b : W.ownsRow B e2 K2 v2 n2 c2
 ne : ∀ k, v1.ownBlock = some k → v2.ownBlock ≠ some k
 pr : ∀ k o, P k o → W.heap[k]? = some o ∧ v1.ownBlock ≠ some k ∧ v2.ownBlock ≠ some k
 bel : Below B W0 W
 hB : B ≤ W.heap.size
theorem TwoO.grow {B : Nat} {e1 e2 : TypeId} {K1 K2 : Nat} {v1 : Value} {n1 : Nat} {c1 : List Value} {v2 : Value} {n2 : Nat} {c2 : List Value} {P : Nat → Obj → Prop} {W0 W W' : World} (h : TwoO B e1 e2 K1 K2 v1 n1 c1 v2 n2 c2 P W0 W)
  (hb : Below W.heap.size W W') : TwoO B e1 e2 K1 K2 v1 n1 c1 v2 n2 c2 P W0 W' :=
 have hg : W.grownBy W' none := ⟨hb.os, hb.tape, hb.output, hb.size, fun k hk _ => hb.block k hk⟩
 ⟨h.a.kept hg (Classical.em _), h.b.kept hg (Classical.em _), h.ne, fun k o hp => ⟨(hb.block k (Array.getElem?_eq_some_iff.1 (h.pr k o hp).1).1).trans (h.pr k o hp).1, (h.pr k o hp).2⟩, h.bel.trans (hb.mono h.hB), by have := h.hB; have := hb.size; omega⟩
theorem TwoO.lay {B : Nat} {e1 e2 : TypeId} {K1 K2 : Nat} {v1 : Value} {n1 : Nat} {c1 : List Value} {v2 : Value} {n2 : Nat} {c2 : List Value} {P : Nat → Obj → Prop} {W0 W : World} (h : TwoO B e1 e2 K1 K2 v1 n1 c1 v2 n2 c2 P W0 W) (o : Obj) :
  TwoO B e1 e2 K1 K2 v1 n1 c1 v2 n2 c2 (fun k o' => P k o' ∨ (k = W.heap.size ∧ o' = o)) W0 (W.alloc o) := by
 have h1 := h.grow ((Below.refl _ W).alloc (Nat.le_refl _) o)
 refine ⟨h1.a, h1.b, h1.ne, fun k o' hp => ?_, h1.bel, h1.hB⟩
 rcases hp with hp | ⟨rfl, rfl⟩
 ·exact h1.pr k o' hp
 ·refine ⟨heap_alloc_new W _, fun e => ?_, fun e => ?_⟩
  ·have := (h.a.lt _ e).2; omega
  ·have := (h.b.lt _ e).2; omega
theorem TwoO.strike {B : Nat} {e1 e2 : TypeId} {K1 K2 : Nat} {v1 : Value} {n1 : Nat} {c1 : List Value} {v2 : Value} {n2 : Nat} {c2 : List Value} {P P' : Nat → Obj → Prop} {W0 W : World} (h : TwoO B e1 e2 K1 K2 v1 n1 c1 v2 n2 c2 P W0 W) (hp : ∀ k o, P' k o → P k o) :
  TwoO B e1 e2 K1 K2 v1 n1 c1 v2 n2 c2 P' W0 W := ⟨h.a, h.b, h.ne, fun k o h1 => h.pr k o (hp k o h1), h.bel, h.hB⟩
theorem TwoO.swap {B : Nat} {e1 e2 : TypeId} {K1 K2 : Nat} {v1 : Value} {n1 : Nat} {c1 : List Value} {v2 : Value} {n2 : Nat} {c2 : List Value} {P : Nat → Obj → Prop} {W0 W : World} (h : TwoO B e1 e2 K1 K2 v1 n1 c1 v2 n2 c2 P W0 W) :
  TwoO B e2 e1 K2 K1 v2 n2 c2 v1 n1 c1 P W0 W := ⟨h.b, h.a, fun k h1 h2 => h.ne k h2 h1, fun k o hp => ⟨(h.pr k o hp).1, (h.pr k o hp).2.2, (h.pr k o hp).2.1⟩, h.bel, h.hB⟩
theorem TwoO.app {B : Nat} {e1 e2 : TypeId} {K1 K2 : Nat} {v1 : Value} {n1 : Nat} {c1 : List Value} {v2 : Value} {n2 : Nat} {c2 : List Value} {P : Nat → Obj → Prop} {W0 W W' : World} (h : TwoO B e1 e2 K1 K2 v1 n1 c1 v2 n2 c2 P W0 W)
  {v' : Value} {n' : Nat} {c' : List Value} (ho : W'.ownsRow B e1 K1 v' n' c') (hg : W.grownBy W' v1.ownBlock) (hf : ∀ b, v'.ownBlock = some b → v1.ownBlock = some b ∨ W.heap.size ≤ b) : TwoO B e1 e2 K1 K2 v' n' c' v2 n2 c2 P W0 W' := by
 have hne : v2.ownBlock = none ∨ v2.ownBlock ≠ v1.ownBlock := by
  cases hv2 : v2.ownBlock with
  | none => exact .inl rfl
  | some k => exact .inr fun e => h.ne k e.symm hv2
 refine ⟨ho, h.b.kept hg hne, fun k h1 h2 => ?_, fun k o hp => ?_, h.bel.grown hg h.hB (fun k hk => (h.a.lt k hk).1), by have := h.hB; have := hg.size; omega⟩
 ·rcases hf k h1 with h3 | h3
  ·exact h.ne k h3 h2
  ·have := (h.b.lt k h2).2; omega
 ·obtain ⟨p1, p2, p3⟩ := h.pr k o hp
  have hk := (Array.getElem?_eq_some_iff.1 p1).1
  refine ⟨(hg.block k hk (fun e => p2 e.symm)).trans p1, fun e => ?_, p3⟩
  rcases hf k e with h3 | h3
  ·exact p2 h3
  ·omega
theorem step_two {P : Program} {ops : Array Oper} {o : Oper} {a : Act} {w : World} {K : Act → World → Prop} {Q : Exit → Act → World → Prop} {E : Prop} (hg : o.guard = none) (s x : Operand) (t : TypeId)
  (ho : o.op = .call { callee := .builtin .append, args := #[s, x], argTypes := #[t, t] })
  (B : Nat) (e1 : TypeId) (i : TypeInfo) (z : Value) (K1 bytes : Nat) (ht : P.underlying t = some (.slice e1)) (hi : P.info? e1 = some i) (hz : i.zero = some z)
  (hsize : i.size = K1) (hby : i.bytes = bytes) (hzs : z.cells.size = K1) (hsz : 0 < K1)
  {v1 : Value} {n1 : Nat} {c1 : List Value} {e2 : TypeId} {K2 : Nat} {v2 : Value} {n2 : Nat} {c2 : List Value} {G : Nat → Obj → Prop} {W0 : World}
  (hs : a.eval s = v1) (bx c : Nat) (news : Array Value) (tb : TypeId) (hx : a.eval x = .slice (some ⟨bx, 0, none⟩) 1 c) (hl : news.size = K1) (h1 : ∀ u ∈ news.toList, u.oneCell' = true) (hn : n1 ≤ 1000000) (hbb : bytes ≤ 1000)
  (hT : TwoO B e1 e2 K1 K2 v1 n1 c1 v2 n2 c2 G W0 w) (hbx : G bx (.cells news tb))
  (h : ∀ v' w', TwoO B e1 e2 K1 K2 v' (n1 + 1) (c1 ++ news.toList) v2 n2 c2 G W0 w' → (∃ A c, v' = .slice A (n1 + 1) c) → K (a.put o.dst v') w') :
  if Region.wanted o (yielded ops a.tmps) = true then Oper.wp P o a w K Q else E := by
 have hb := (hT.pr _ _ hbx).1
 have hby2 : (n1 + 1) * bytes ≤ 140737488355328 := by
  have : (n1 + 1) * bytes ≤ 1000001 * 1000 := Nat.mul_le_mul (by omega) hbb
  omega
 refine step_append_own hg s x t ho B e1 i z K1 bytes ht hi hz hsize hby hzs hsz v1 n1 c1 hs hT.a ⟨bx, 0, none⟩ 1 c news.toList hx (by simp [hl]) (fun j u hu => ?_) h1 (by unfold maxLen; omega) hby2 hT.hB fun v' w' h2 h3 h4 => h v' w' (hT.app h2 h3 h4) (ownsRow_slice h2)
 rw [addr_add, Nat.zero_add]
 have := cell_of_row w bx j _ _ _ hb
 rw [this]
 simpa using hu
theorem step_two1 {P : Program} {o : Oper} {a : Act} {w : World} {K : Act → World → Prop} {Q : Exit → Act → World → Prop} (hg : o.guard = none) (s x : Operand) (t : TypeId)
  (ho : o.op = .call { callee := .builtin .append, args := #[s, x], argTypes := #[t, t] })
  (B : Nat) (e1 : TypeId) (i : TypeInfo) (z : Value) (K1 bytes : Nat) (ht : P.underlying t = some (.slice e1)) (hi : P.info? e1 = some i) (hz : i.zero = some z)
  (hsize : i.size = K1) (hby : i.bytes = bytes) (hzs : z.cells.size = K1) (hsz : 0 < K1)
  {v1 : Value} {n1 : Nat} {c1 : List Value} {e2 : TypeId} {K2 : Nat} {v2 : Value} {n2 : Nat} {c2 : List Value} {G : Nat → Obj → Prop} {W0 : World}
  (hs : a.eval s = v1) (bx c : Nat) (news : Array Value) (tb : TypeId) (hx : a.eval x = .slice (some ⟨bx, 0, none⟩) 1 c) (hl : news.size = K1) (h1 : ∀ u ∈ news.toList, u.oneCell' = true) (hn : n1 ≤ 1000000) (hbb : bytes ≤ 1000)
  (hT : TwoO B e1 e2 K1 K2 v1 n1 c1 v2 n2 c2 G W0 w) (hbx : G bx (.cells news tb))
  (h : ∀ v' w', TwoO B e1 e2 K1 K2 v' (n1 + 1) (c1 ++ news.toList) v2 n2 c2 G W0 w' → (∃ A c, v' = .slice A (n1 + 1) c) → K (a.put o.dst v') w') :
  Oper.wp P o a w K Q := by
 have hw : Region.wanted o (yielded #[] a.tmps) = true := by simp [Region.wanted, hg]
 have := step_two (ops := #[]) (K := K) (Q := Q) (E := True) hg s x t ho B e1 i z K1 bytes ht hi hz hsize hby hzs hsz hs bx c news tb hx hl h1 hn hbb hT hbx h
 rwa [if_pos hw] at this
theorem TwoO.bare (B : Nat) (e1 e2 : TypeId) (K1 K2 : Nat) (W : World) (h : B ≤ W.heap.size) : TwoO B e1 e2 K1 K2 (.slice none 0 0) 0 [] (.slice none 0 0) 0 [] (fun _ _ => False) W W :=
 ⟨World.ownsRow_nil _ _ _ _, World.ownsRow_nil _ _ _ _, fun k hk => by simp [Value.ownBlock] at hk, fun k o hp => hp.elim, Below.refl _ _, h⟩
theorem RdK.cells {α : Type} {k : Nat} {f : α → List Value} {w : World} {S : Nat → Prop} {ad : Addr} {n cap : Nat} {xs : List α} (h : RdK k f w S (.slice (some ad) n cap) xs) (hf : ∀ x, (f x).length = k) (hk : 0 < k) :
  ∀ j u, (xs.flatMap f)[j]? = some u → w.cell? (ad.add j) = some u := by
 intro j u hu
 obtain ⟨A, c, he, _, _, h3⟩ := h
 have hne : xs ≠ [] := fun e => by subst e; simp at hu
 obtain ⟨b, off, rfl, _, hc⟩ := h3 hne
 simp only [Value.slice.injEq, Option.some.injEq] at he
 obtain ⟨rfl, _, _⟩ := he
 have hj := (List.getElem?_eq_some_iff.1 hu).1
 rw [flat_len hf] at hj
 have hi : j / k < xs.length := Nat.div_lt_of_lt_mul (by rw [Nat.mul_comm]; exact hj)
 have hx := List.getElem?_eq_getElem hi
 have hr : j % k < (f xs[j / k]).length := by rw [hf]; exact Nat.mod_lt _ hk
 have hu2 := List.getElem?_eq_getElem hr
 have hat := flat_at hf xs _ _ hx _ _ hu2
 have hjk : j / k * k + j % k = j := by rw [Nat.mul_comm]; exact Nat.div_add_mod j k
 rw [hjk, hu] at hat
 obtain rfl := Option.some.inj hat
 have := hc _ _ hx _ _ hu2
 rw [addr_add, ← this, Nat.add_assoc, hjk]
end Go.Proofs.YtodckaioeomccaaGreat
namespace Go.Proofs.YtodckaioeomccaaGreat
open Go.RowKit
end Go.Proofs.YtodckaioeomccaaGreat
