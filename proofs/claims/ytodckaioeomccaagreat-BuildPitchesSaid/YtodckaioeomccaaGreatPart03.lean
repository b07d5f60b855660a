/- A region that draws its order, walked operation after operation: plain, and in the body of a round. Where two or three operations of a drawn region may come up: each of them in turn. Steps of a drawn region in short words: their side goals are told by default tactics. -/
import Derived.Deep.RegionHeld
import Derived.OrdersIn
import Derived.StillTailTactics
namespace Go.Proofs.YtodckaioeomccaaGreat
set_option linter.unusedVariables false
section
variable {P : Program} {ops : Array Oper} {Q : Exit → Act → World → Prop} {S : World → Prop}
def places : Nat → List Oper → List (Nat × Oper)
 | _, [] => []
 | k, o :: l => (k, o) :: places (k + 1) l
theorem places_get : ∀ (l : List Oper) (k : Nat) (p : Nat × Oper), p ∈ places k l → k ≤ p.1 ∧ l[p.1 - k]? = some p.2
 | [], _, _, h => by cases h
 | o :: l, k, p, h => by
  rcases List.mem_cons.1 h with rfl | h
  ·exact ⟨Nat.le_refl _, by simp⟩
  ·obtain ⟨h1, h2⟩ := places_get l (k + 1) p h
   refine ⟨by omega, ?_⟩
   rw [show p.1 - k = (p.1 - (k + 1)) + 1 by omega]
   exact h2
theorem places_len : ∀ (l : List Oper) (k : Nat), (places k l).length = l.length
 | [], _ => rfl
 | o :: l, k => by simp [places, places_len l (k + 1)]
theorem places_has : ∀ (l : List Oper) (k i : Nat), k ≤ i → i < k + l.length → (places k l).any (fun p => p.1 == i) = true
 | [], k, i, h1, h2 => by simp at h2; omega
 | o :: l, k, i, h1, h2 => by
  simp only [places, List.any_cons, Bool.or_eq_true, beq_iff_eq]
  by_cases h : k = i
  ·exact .inl h
  ·exact .inr (places_has l (k + 1) i (by omega) (by simp at h2; omega))
def listedOf (n : Nat) (rest : List (Nat × Oper)) : Array Bool := ((List.range n).map fun i => !(rest.any fun p => p.1 == i)).toArray
theorem listedOf_size (n : Nat) (rest : List (Nat × Oper)) : (listedOf n rest).size = n := by simp [listedOf]
theorem listedOf_get (n : Nat) (rest : List (Nat × Oper)) (i : Nat) : (listedOf n rest)[i]? = if i < n then some (!(rest.any fun p => p.1 == i)) else none := by
 unfold listedOf
 rw [List.getElem?_toArray, List.getElem?_map]
 split
 ·rename_i h; rw [List.getElem?_range h]; rfl
 ·rename_i h; rw [List.getElem?_eq_none (by simpa using h)]; rfl
theorem listedOf_start (l : List Oper) : listedOf l.toArray.size (places 0 l) = Array.replicate l.toArray.size false := by
 refine Array.ext_getElem? fun i => ?_
 rw [listedOf_get, Array.getElem?_replicate]
 split
 ·rename_i h; rw [places_has l 0 i (by omega) (by simpa using h)]; rfl
 ·rfl
theorem listedOf_next {n i : Nat} {o : Oper} {rest : List (Nat × Oper)} (h : (rest.any fun p => p.1 == i) = false) : (listedOf n ((i, o) :: rest)).setIfInBounds i true = listedOf n rest := by
 refine Array.ext_getElem? fun j => ?_
 rw [Array.getElem?_setIfInBounds, listedOf_size, listedOf_get, listedOf_get]
 by_cases hj : i = j
 ·subst hj
  rw [if_pos rfl]
  split
  ·rw [h]; rfl
  ·rfl
 ·rw [if_neg hj]
  split
  ·simp [hj]
  ·rfl
theorem listedOf_swap {n : Nat} {p q : Nat × Oper} {rest : List (Nat × Oper)} : listedOf n (p :: q :: rest) = listedOf n (q :: p :: rest) := by
 refine Array.ext_getElem? fun j => ?_
 rw [listedOf_get, listedOf_get]
 simp only [List.any_cons]
 rw [Bool.or_left_comm]
def okTake (ops : Array Oper) (p : Nat × Oper) (rest : List (Nat × Oper)) : Bool :=
 Region.free .any ops (listedOf ops.size (p :: rest)) p.1 && (Region.ready .any ops (listedOf ops.size (p :: rest))).contains p.1 && !(rest.any fun q => q.1 == p.1)
def okOnly (ops : Array Oper) (p : Nat × Oper) (rest : List (Nat × Oper)) : Bool :=
 (Region.ready .any ops (listedOf ops.size (p :: rest)) == [p.1]) && !(rest.any fun q => q.1 == p.1)
def calmOps (ops : Array Oper) : Bool := ops.all fun o => match o.op with | .select .. => false | .defer .. => false | _ => true
theorem calm_select (h : calmOps ops = true) : Region.noSelect ops = true := by
 unfold calmOps at h
 unfold Region.noSelect
 rw [Array.all_eq_true_iff_forall_mem] at h ⊢
 intro o ho
 have := h o ho
 split at this <;> simp_all
def isB (u : Value) (b : Bool) : Bool := match u with | .bool c => c == b | _ => false
theorem wanted_free {o : Oper} {a : Act} (h : o.guard = none) : Region.wanted o (yielded ops a.tmps) = true := by simp [Region.wanted, h]
theorem wanted_isB {o : Oper} {a : Act} {g d : Nat} {b : Bool} {u : Value} (hg : o.guard = some (g, b)) (hd : (ops[g]?).bind (·.dst) = some d) (hv : a.tmps[d]? = some u) : Region.wanted o (yielded ops a.tmps) = isB u b := by
 unfold Region.wanted yielded
 rw [hg]
 simp only [hd, Option.bind_some, hv]
 cases u <;> simp [isB]
def Seq (P : Program) (ops : Array Oper) (Q : Exit → Act → World → Prop) (S : World → Prop) (rest : List (Nat × Oper)) (a : Act) (w : World) : Prop :=
 S w → calmOps ops = true → (∀ p ∈ rest, ops[p.1]? = some p.2) → wpAnyH P .any ops Q S rest.length (listedOf ops.size rest) a w
theorem seq_start {id : Nat} {l : List Oper} {a : Act} {w : World} (hm : P.follows .mixedOrders = true) (hc : calmOps l.toArray = true) (hS : S w.drew) (h : Seq P l.toArray Q S (places 0 l) a w.drew) : (Code.region id l.toArray true).wp P Q a w := by
 refine wp_region_held_drew hm hS fun _ => ?_
 have := h hS hc (fun p hp => by have := places_get l 0 p hp; simpa using this.2)
 rw [listedOf_start, places_len] at this
 simpa using this
theorem seq_yield {i : Nat} {o : Oper} {rest : List (Nat × Oper)} {a : Act} {w : World} {v : Value} (hQ : ∀ c a w, Q (.panic c) (a.put o.dst v) w → Q (.panic c) a w) (hok : okTake ops (i, o) rest = true) (hy : YieldsIf P ops S o v a) (h : Seq P ops Q S rest (a.put o.dst v) w) : Seq P ops Q S ((i, o) :: rest) a w := by
 intro hS hc hin
 unfold okTake at hok
 simp only [Bool.and_eq_true, Bool.not_eq_true'] at hok
 obtain ⟨⟨h1, h2⟩, h3⟩ := hok
 have h4 := h hS hc (fun p hp => hin p (List.mem_cons_of_mem _ hp))
 rw [← listedOf_next (o := o) h3] at h4
 exact wpAnyH_take (hin _ (List.mem_cons_self ..)) (calm_select hc) h1 h2 hQ hy hS h4
theorem seq_skip {i : Nat} {o : Oper} {rest : List (Nat × Oper)} {a : Act} {w : World} (hw : Region.wanted o (yielded ops a.tmps) = false) (hQ : ∀ c a w, Q (.panic c) (a.put o.dst undef) w → Q (.panic c) a w) (hok : okTake ops (i, o) rest = true) (h : Seq P ops Q S rest (a.put o.dst undef) w) : Seq P ops Q S ((i, o) :: rest) a w :=
 seq_yield hQ hok (.inr ⟨hw, rfl⟩) h
theorem seq_take {i : Nat} {o : Oper} {rest : List (Nat × Oper)} {a : Act} {w : World} {v : Value} (hw : Region.wanted o (yielded ops a.tmps) = true) (hQ : ∀ c a w, Q (.panic c) (a.put o.dst v) w → Q (.panic c) a w) (hok : okTake ops (i, o) rest = true) (hv : ∀ w', S w' → (execOp a.eval o).run P w' = .ok (.value v) w') (h : Seq P ops Q S rest (a.put o.dst v) w) : Seq P ops Q S ((i, o) :: rest) a w :=
 seq_yield hQ hok (.inl ⟨hw, hv⟩) h
theorem seq_take0 {i : Nat} {o : Oper} {rest : List (Nat × Oper)} {a : Act} {w : World} {v : Value} (hg : o.guard = none) (hQ : ∀ c a w, Q (.panic c) (a.put o.dst v) w → Q (.panic c) a w) (hok : okTake ops (i, o) rest = true) (hv : ∀ w', S w' → (execOp a.eval o).run P w' = .ok (.value v) w') (h : Seq P ops Q S rest (a.put o.dst v) w) : Seq P ops Q S ((i, o) :: rest) a w :=
 seq_take (wanted_free hg) hQ hok hv h
theorem seq_takeG {i : Nat} {o : Oper} {rest : List (Nat × Oper)} {a : Act} {w : World} {v : Value} {g d : Nat} {b : Bool} {u : Value} (hg : o.guard = some (g, b)) (hd : (ops[g]?).bind (·.dst) = some d) (hu : a.tmps[d]? = some u) (hb : isB u b = true) (hQ : ∀ c a w, Q (.panic c) (a.put o.dst v) w → Q (.panic c) a w) (hok : okTake ops (i, o) rest = true) (hv : ∀ w', S w' → (execOp a.eval o).run P w' = .ok (.value v) w') (h : Seq P ops Q S rest (a.put o.dst v) w) : Seq P ops Q S ((i, o) :: rest) a w :=
 seq_take ((wanted_isB hg hd hu).trans hb) hQ hok hv h
theorem seq_skipG {i : Nat} {o : Oper} {rest : List (Nat × Oper)} {a : Act} {w : World} {g d : Nat} {b : Bool} {u : Value} (hg : o.guard = some (g, b)) (hd : (ops[g]?).bind (·.dst) = some d) (hu : a.tmps[d]? = some u) (hb : isB u b = false) (hQ : ∀ c a w, Q (.panic c) (a.put o.dst undef) w → Q (.panic c) a w) (hok : okTake ops (i, o) rest = true) (h : Seq P ops Q S rest (a.put o.dst undef) w) : Seq P ops Q S ((i, o) :: rest) a w :=
 seq_skip ((wanted_isB hg hd hu).trans hb) hQ hok h
theorem seq_op {i : Nat} {o : Oper} {rest : List (Nat × Oper)} {a : Act} {w : World} (hok : okOnly ops (i, o) rest = true) (hw : Region.wanted o (yielded ops a.tmps) = true)
  (h : ∀ K : Act → World → Prop, Shut (∀ a w, S w → Seq P ops Q S rest a w → K a w) → Oper.wp P o a w K Q) : Seq P ops Q S ((i, o) :: rest) a w := by
 intro hS hc hin
 unfold okOnly at hok
 simp only [Bool.and_eq_true, Bool.not_eq_true', beq_iff_eq] at hok
 obtain ⟨h1, h2⟩ := hok
 refine wpAnyH_ready h1 (by simp) (AllReadyH.cons (hin _ (List.mem_cons_self ..)) (fun K hK => ?_) AllReadyH.nil)
 rw [if_pos hw]
 refine h K fun a' w' hS' hq => hK a' w' hS' fun _ => ?_
 rw [listedOf_next h2]
 exact hq hS' hc (fun p hp => hin p (List.mem_cons_of_mem _ hp))
theorem seq_swap {p q : Nat × Oper} {rest : List (Nat × Oper)} {a : Act} {w : World} (h : Seq P ops Q S (q :: p :: rest) a w) : Seq P ops Q S (p :: q :: rest) a w := fun hS hc hin => by
 rw [listedOf_swap]
 exact h hS hc (fun r hr => hin r (by simp at hr ⊢; rcases hr with h | h | h <;> simp [h]))
theorem seq_done {a : Act} {w : World} (hok : Region.ready .any ops (listedOf ops.size []) = []) (h : Q .normal a w) : Seq P ops Q S [] a w := fun _ _ _ => wpAnyH_done hok h _
variable {F : Fence} {n : Nat}
end
end Go.Proofs.YtodckaioeomccaaGreat
namespace Go.Proofs.YtodckaioeomccaaGreat
set_option linter.unusedVariables false
section
variable {P : Program} {ops : Array Oper} {Q : Exit → Act → World → Prop} {S : World → Prop}
theorem listedOf_perm {n : Nat} {l l' : List (Nat × Oper)} (h : l'.Perm l) : listedOf n l = listedOf n l' := by
 unfold listedOf
 congr 1
 refine List.map_congr_left fun i _ => ?_
 congr 1
 rw [Bool.eq_iff_iff, List.any_eq_true, List.any_eq_true]
 exact ⟨fun ⟨x, h1, h2⟩ => ⟨x, h.mem_iff.2 h1, h2⟩, fun ⟨x, h1, h2⟩ => ⟨x, h.mem_iff.1 h1, h2⟩⟩
theorem seq_perm {l l' : List (Nat × Oper)} {a : Act} {w : World} (h : l'.Perm l) (hs : Seq P ops Q S l' a w) : Seq P ops Q S l a w := fun hS hc hin => by
 have := hs hS hc (fun p hp => hin p (h.mem_iff.1 hp))
 rw [listedOf_perm h, ← h.length_eq]
 exact this
def okTwo (ops : Array Oper) (p q : Nat × Oper) (rest : List (Nat × Oper)) : Bool :=
 (Region.ready .any ops (listedOf ops.size (p :: q :: rest))).all (fun i => i == p.1 || i == q.1) && !(Region.ready .any ops (listedOf ops.size (p :: q :: rest))).isEmpty &&
  !((q :: rest).any fun x => x.1 == p.1) && !((p :: rest).any fun x => x.1 == q.1)
def StepTo (P : Program) (ops : Array Oper) (Q : Exit → Act → World → Prop) (S : World → Prop) (o : Oper) (rest : List (Nat × Oper)) (a : Act) (w : World) : Prop :=
 ∀ K : Act → World → Prop, Shut (∀ a w, S w → Seq P ops Q S rest a w → K a w) → Oper.wp P o a w K Q
theorem stepTo_op {i : Nat} {o : Oper} {rest all : List (Nat × Oper)} {a : Act} {w : World} (hc : calmOps ops = true) (hin : ∀ p ∈ all, ops[p.1]? = some p.2) (hperm : ((i, o) :: rest).Perm all) (hno : (rest.any fun x => x.1 == i) = false)
  (hw : Region.wanted o (yielded ops a.tmps) = true) (h : StepTo P ops Q S o rest a w) :
  wpOp P ops Q i (fun a' w' => S w' ∧ wpAnyH P .any ops Q S rest.length ((listedOf ops.size all).setIfInBounds i true) a' w') a w := by
 refine wpOp_step (hin _ (hperm.mem_iff.1 (List.mem_cons_self ..))) (fun K hK => ?_)
 rw [if_pos hw]
 refine h K fun a' w' hS' hq => hK a' w' ⟨hS', ?_⟩
 rw [listedOf_perm hperm, listedOf_next hno]
 exact hq hS' hc (fun p hp => hin p (hperm.mem_iff.1 (List.mem_cons_of_mem _ hp)))
theorem seq_both {p q : Nat × Oper} {rest : List (Nat × Oper)} {a : Act} {w : World} (hok : okTwo ops p q rest = true)
  (hp : Region.wanted p.2 (yielded ops a.tmps) = true) (hq : Region.wanted q.2 (yielded ops a.tmps) = true)
  (h1 : StepTo P ops Q S p.2 (q :: rest) a w) (h2 : StepTo P ops Q S q.2 (p :: rest) a w) : Seq P ops Q S (p :: q :: rest) a w := by
 intro hS hc hin
 unfold okTwo at hok
 simp only [Bool.and_eq_true, Bool.not_eq_true', List.isEmpty_eq_false_iff] at hok
 obtain ⟨⟨⟨k1, k2⟩, k3⟩, k4⟩ := hok
 refine wpAnyH_ready rfl k2 fun i hi => ?_
 have := List.all_eq_true.1 k1 i hi
 simp only [Bool.or_eq_true, beq_iff_eq] at this
 rcases this with e | e
 ·subst e; exact stepTo_op (rest := q :: rest) hc hin (List.Perm.refl _) k3 hp h1
 ·subst e; exact stepTo_op (rest := p :: rest) hc hin (List.Perm.swap ..) k4 hq h2
end
end Go.Proofs.YtodckaioeomccaaGreat
namespace Go.Proofs.YtodckaioeomccaaGreat
set_option linter.unusedVariables false
section
variable {P : Program} {ops : Array Oper} {Q : Exit → Act → World → Prop} {S : World → Prop}
theorem tk0 {i : Nat} {o : Oper} {rest : List (Nat × Oper)} {a b : Act} {w : World} {v : Value} (hg : o.guard = none := by rfl) (hQ : ∀ c a w, Q (.panic c) (a.put o.dst v) w → Q (.panic c) a w := by exact fun _ _ _ h => h) (hok : okTake ops (i, o) rest = true := by kernel_rfl)
  (hv : ∀ w', S w' → (execOp a.eval o).run P w' = .ok (.value v) w' := by intro w' hSw; (try dsimp only at hSw); go_simp; (try with_reducible rfl); first | done | fail)
  (hb : a.put o.dst v = b := by first | (simp only [Act.put, List.setIfInBounds_toArray, List.set_cons_zero, List.set_cons_succ]; rfl) | rfl) (h : Seq P ops Q S rest b w) : Seq P ops Q S ((i, o) :: rest) a w := by
 subst hb
 exact seq_take0 hg hQ hok hv h
theorem tkG {i : Nat} {o : Oper} {rest : List (Nat × Oper)} {a b : Act} {w : World} {v : Value} {g d : Nat} {c : Bool} {u : Value} (hg : o.guard = some (g, c) := by rfl) (hd : (ops[g]?).bind (·.dst) = some d := by rfl) (hu : a.tmps[d]? = some u := by rfl) (hi : isB u c = true := by first | rfl | (go_simp; first | done | fail))
  (hQ : ∀ c a w, Q (.panic c) (a.put o.dst v) w → Q (.panic c) a w := by exact fun _ _ _ h => h) (hok : okTake ops (i, o) rest = true := by kernel_rfl) (hv : ∀ w', S w' → (execOp a.eval o).run P w' = .ok (.value v) w' := by intro w' hSw; (try dsimp only at hSw); go_simp; (try with_reducible rfl); first | done | fail)
  (hb : a.put o.dst v = b := by first | (simp only [Act.put, List.setIfInBounds_toArray, List.set_cons_zero, List.set_cons_succ]; rfl) | rfl) (h : Seq P ops Q S rest b w) : Seq P ops Q S ((i, o) :: rest) a w := by
 subst hb
 exact seq_takeG hg hd hu hi hQ hok hv h
theorem skG {i : Nat} {o : Oper} {rest : List (Nat × Oper)} {a b : Act} {w : World} {g d : Nat} {c : Bool} {u : Value} (hg : o.guard = some (g, c) := by rfl) (hd : (ops[g]?).bind (·.dst) = some d := by rfl) (hu : a.tmps[d]? = some u := by rfl) (hi : isB u c = false := by first | rfl | (go_simp; first | done | fail))
  (hQ : ∀ c a w, Q (.panic c) (a.put o.dst undef) w → Q (.panic c) a w := by exact fun _ _ _ h => h) (hok : okTake ops (i, o) rest = true := by kernel_rfl)
  (hb : a.put o.dst undef = b := by first | (simp only [Act.put, List.setIfInBounds_toArray, List.set_cons_zero, List.set_cons_succ]; rfl) | rfl) (h : Seq P ops Q S rest b w) : Seq P ops Q S ((i, o) :: rest) a w := by
 subst hb
 exact seq_skipG hg hd hu hi hQ hok h
theorem sop {i : Nat} {o : Oper} {rest : List (Nat × Oper)} {a : Act} {w : World} (hok : okOnly ops (i, o) rest = true := by kernel_rfl) (hw : Region.wanted o (yielded ops a.tmps) = true := by rfl)
  (h : ∀ K : Act → World → Prop, Shut (∀ a w, S w → Seq P ops Q S rest a w → K a w) → Oper.wp P o a w K Q) : Seq P ops Q S ((i, o) :: rest) a w := seq_op hok hw h
theorem ckk {rest : List (Nat × Oper)} {a b : Act} {w : World} {K : Act → World → Prop} (hK : Shut (∀ a w, S w → Seq P ops Q S rest a w → K a w)) (hS : S w) (hb : a = b := by first | (simp only [Act.put, List.setIfInBounds_toArray, List.set_cons_zero, List.set_cons_succ]; rfl) | rfl) (h : Seq P ops Q S rest b w) : K a w := by
 subst hb
 exact hK.out a w hS h
theorem nrm {rest : List (Nat × Oper)} {a b : Act} {w : World} (hb : a = b := by first | (simp only [Act.put, List.setIfInBounds_toArray, List.set_cons_zero, List.set_cons_succ]; rfl) | rfl) (h : Seq P ops Q S rest b w) : Seq P ops Q S rest a w := by
 subst hb
 exact h
end
end Go.Proofs.YtodckaioeomccaaGreat
