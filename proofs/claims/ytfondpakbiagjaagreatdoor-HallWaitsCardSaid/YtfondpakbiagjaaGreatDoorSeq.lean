/- A region that draws its order, walked operation after operation: plain, and in the body of a round. -/
import Derived.Deep.RegionHeld
import Derived.OrdersIn
namespace Go.Proofs.YtfondpakbiagjaaGreatDoor
set_option linter.unusedVariables false
section
variable {P : Program} {ops : Array Oper} {Q : Exit → Act → World → Prop} {S : World → Prop}
/-- The operations with their places. -/
def places : Nat → List Oper → List (Nat × Oper)
  | _, [] => []
  | k, o :: l => (k, o) :: places (k + 1) l
theorem places_get : ∀ (l : List Oper) (k : Nat) (p : Nat × Oper), p ∈ places k l → k ≤ p.1 ∧ l[p.1 - k]? = some p.2
  | [], _, _, h => by cases h
  | o :: l, k, p, h => by
    rcases List.mem_cons.1 h with rfl | h
    · exact ⟨Nat.le_refl _, by simp⟩
    · obtain ⟨h1, h2⟩ := places_get l (k + 1) p h
      refine ⟨by omega, ?_⟩
      rw [show p.1 - k = (p.1 - (k + 1)) + 1 by omega]
      exact h2
theorem places_len : ∀ (l : List Oper) (k : Nat), (places k l).length = l.length
  | [], _ => rfl
  | o :: l, k => by simp [places, places_len l (k + 1)]
theorem places_has : ∀ (l : List Oper) (k i : Nat), k ≤ i → i < k + l.length → (places k l).any (fun p => p.1 == i) = true
  | [], k, i, h1, h2 => by simp at h2; omega
  | o :: l, k, i, h1, h2 => by
    simp only [places, List.any_cons, Bool.or_eq_true, beq_iff_eq]
    by_cases h : k = i
    · exact .inl h
    · exact .inr (places_has l (k + 1) i (by omega) (by simp at h2; omega))
/-- Which operations have come up, out of those that have not. -/
def listedOf (n : Nat) (rest : List (Nat × Oper)) : Array Bool := ((List.range n).map fun i => !(rest.any fun p => p.1 == i)).toArray
theorem listedOf_size (n : Nat) (rest : List (Nat × Oper)) : (listedOf n rest).size = n := by simp [listedOf]
theorem listedOf_get (n : Nat) (rest : List (Nat × Oper)) (i : Nat) : (listedOf n rest)[i]? = if i < n then some (!(rest.any fun p => p.1 == i)) else none := by
  unfold listedOf
  rw [List.getElem?_toArray, List.getElem?_map]
  split
  · rename_i h; rw [List.getElem?_range h]; rfl
  · rename_i h; rw [List.getElem?_eq_none (by simpa using h)]; rfl
theorem listedOf_start (l : List Oper) : listedOf l.toArray.size (places 0 l) = Array.replicate l.toArray.size false := by
  refine Array.ext_getElem? fun i => ?_
  rw [listedOf_get, Array.getElem?_replicate]
  split
  · rename_i h; rw [places_has l 0 i (by omega) (by simpa using h)]; rfl
  · rfl
theorem listedOf_next {n i : Nat} {o : Oper} {rest : List (Nat × Oper)} (h : (rest.any fun p => p.1 == i) = false) : (listedOf n ((i, o) :: rest)).setIfInBounds i true = listedOf n rest := by
  refine Array.ext_getElem? fun j => ?_
  rw [Array.getElem?_setIfInBounds, listedOf_size, listedOf_get, listedOf_get]
  by_cases hj : i = j
  · subst hj
    rw [if_pos rfl]
    split
    · rw [h]; rfl
    · rfl
  · rw [if_neg hj]
    split
    · simp [hj]
    · rfl
theorem listedOf_swap {n : Nat} {p q : Nat × Oper} {rest : List (Nat × Oper)} : listedOf n (p :: q :: rest) = listedOf n (q :: p :: rest) := by
  refine Array.ext_getElem? fun j => ?_
  rw [listedOf_get, listedOf_get]
  simp only [List.any_cons]
  rw [Bool.or_left_comm]
/-- Operation i may be taken first. -/
def okTake (ops : Array Oper) (p : Nat × Oper) (rest : List (Nat × Oper)) : Bool :=
  Region.free .any ops (listedOf ops.size (p :: rest)) p.1 && (Region.ready .any ops (listedOf ops.size (p :: rest))).contains p.1 && !(rest.any fun q => q.1 == p.1)
/-- Operation i alone may come up. -/
def okOnly (ops : Array Oper) (p : Nat × Oper) (rest : List (Nat × Oper)) : Bool :=
  (Region.ready .any ops (listedOf ops.size (p :: rest)) == [p.1]) && !(rest.any fun q => q.1 == p.1)
def calmOps (ops : Array Oper) : Bool := ops.all fun o => match o.op with | .select .. => false | .defer .. => false | _ => true
theorem calm_select (h : calmOps ops = true) : Region.noSelect ops = true := by
  unfold calmOps at h
  unfold Region.noSelect
  rw [Array.all_eq_true_iff_forall_mem] at h ⊢
  intro o ho
  have := h o ho
  split at this <;> simp_all
theorem calm_defer (h : calmOps ops = true) {j : Nat} {o : Oper} (ho : ops[j]? = some o) (c : Call) : o.op ≠ .defer c := by
  intro heq
  have := Array.all_eq_true_iff_forall_mem.1 h o (Array.mem_of_getElem? ho)
  simp [heq] at this
/-! What a guard says, out of the value in its temporary. -/
def isB (u : Value) (b : Bool) : Bool := match u with | .bool c => c == b | _ => false
theorem wanted_free {o : Oper} {a : Act} (h : o.guard = none) : Region.wanted o (yielded ops a.tmps) = true := by simp [Region.wanted, h]
theorem wanted_isB {o : Oper} {a : Act} {g d : Nat} {b : Bool} {u : Value} (hg : o.guard = some (g, b)) (hd : (ops[g]?).bind (·.dst) = some d) (hv : a.tmps[d]? = some u) : Region.wanted o (yielded ops a.tmps) = isB u b := by
  unfold Region.wanted yielded
  rw [hg]
  simp only [hd, Option.bind_some, hv]
  cases u <;> simp [isB]

/-! In no fence. -/
/-- What is left of a region, in the order in which it is walked. -/
def Seq (P : Program) (ops : Array Oper) (Q : Exit → Act → World → Prop) (S : World → Prop) (rest : List (Nat × Oper)) (a : Act) (w : World) : Prop :=
  S w → calmOps ops = true → (∀ p ∈ rest, ops[p.1]? = some p.2) → wpAnyH P .any ops Q S rest.length (listedOf ops.size rest) a w
theorem seq_start {id : Nat} {l : List Oper} {a : Act} {w : World} (hm : P.follows .mixedOrders = true) (hc : calmOps l.toArray = true) (hS : S w.drew) (h : Seq P l.toArray Q S (places 0 l) a w.drew) : (Code.region id l.toArray true).wp P Q a w := by
  refine wp_region_held_drew hm hS fun _ => ?_
  have := h hS hc (fun p hp => by have := places_get l 0 p hp; simpa using this.2)
  rw [listedOf_start, places_len] at this
  simpa using this
theorem seq_yield {i : Nat} {o : Oper} {rest : List (Nat × Oper)} {a : Act} {w : World} {v : Value} (hQ : ∀ c a w, Q (.panic c) (a.put o.dst v) w → Q (.panic c) a w) (hok : okTake ops (i, o) rest = true) (hy : YieldsIf P ops S o v a) (h : Seq P ops Q S rest (a.put o.dst v) w) : Seq P ops Q S ((i, o) :: rest) a w := by
  intro hS hc hin
  unfold okTake at hok
  simp only [Bool.and_eq_true, Bool.not_eq_true'] at hok
  obtain ⟨⟨h1, h2⟩, h3⟩ := hok
  have h4 := h hS hc (fun p hp => hin p (List.mem_cons_of_mem _ hp))
  rw [← listedOf_next (o := o) h3] at h4
  exact wpAnyH_take (hin _ (List.mem_cons_self ..)) (calm_select hc) h1 h2 hQ hy hS h4
theorem seq_skip {i : Nat} {o : Oper} {rest : List (Nat × Oper)} {a : Act} {w : World} (hw : Region.wanted o (yielded ops a.tmps) = false) (hQ : ∀ c a w, Q (.panic c) (a.put o.dst undef) w → Q (.panic c) a w) (hok : okTake ops (i, o) rest = true) (h : Seq P ops Q S rest (a.put o.dst undef) w) : Seq P ops Q S ((i, o) :: rest) a w :=
  seq_yield hQ hok (.inr ⟨hw, rfl⟩) h
theorem seq_take {i : Nat} {o : Oper} {rest : List (Nat × Oper)} {a : Act} {w : World} {v : Value} (hw : Region.wanted o (yielded ops a.tmps) = true) (hQ : ∀ c a w, Q (.panic c) (a.put o.dst v) w → Q (.panic c) a w) (hok : okTake ops (i, o) rest = true) (hv : ∀ w', S w' → (execOp a.eval o).run P w' = .ok (.value v) w') (h : Seq P ops Q S rest (a.put o.dst v) w) : Seq P ops Q S ((i, o) :: rest) a w :=
  seq_yield hQ hok (.inl ⟨hw, hv⟩) h
theorem seq_take0 {i : Nat} {o : Oper} {rest : List (Nat × Oper)} {a : Act} {w : World} {v : Value} (hg : o.guard = none) (hQ : ∀ c a w, Q (.panic c) (a.put o.dst v) w → Q (.panic c) a w) (hok : okTake ops (i, o) rest = true) (hv : ∀ w', S w' → (execOp a.eval o).run P w' = .ok (.value v) w') (h : Seq P ops Q S rest (a.put o.dst v) w) : Seq P ops Q S ((i, o) :: rest) a w :=
  seq_take (wanted_free hg) hQ hok hv h
theorem seq_takeG {i : Nat} {o : Oper} {rest : List (Nat × Oper)} {a : Act} {w : World} {v : Value} {g d : Nat} {b : Bool} {u : Value} (hg : o.guard = some (g, b)) (hd : (ops[g]?).bind (·.dst) = some d) (hu : a.tmps[d]? = some u) (hb : isB u b = true) (hQ : ∀ c a w, Q (.panic c) (a.put o.dst v) w → Q (.panic c) a w) (hok : okTake ops (i, o) rest = true) (hv : ∀ w', S w' → (execOp a.eval o).run P w' = .ok (.value v) w') (h : Seq P ops Q S rest (a.put o.dst v) w) : Seq P ops Q S ((i, o) :: rest) a w :=
  seq_take ((wanted_isB hg hd hu).trans hb) hQ hok hv h
theorem seq_skipG {i : Nat} {o : Oper} {rest : List (Nat × Oper)} {a : Act} {w : World} {g d : Nat} {b : Bool} {u : Value} (hg : o.guard = some (g, b)) (hd : (ops[g]?).bind (·.dst) = some d) (hu : a.tmps[d]? = some u) (hb : isB u b = false) (hQ : ∀ c a w, Q (.panic c) (a.put o.dst undef) w → Q (.panic c) a w) (hok : okTake ops (i, o) rest = true) (h : Seq P ops Q S rest (a.put o.dst undef) w) : Seq P ops Q S ((i, o) :: rest) a w :=
  seq_skip ((wanted_isB hg hd hu).trans hb) hQ hok h
/-- The one operation that may come up. -/
theorem seq_op {i : Nat} {o : Oper} {rest : List (Nat × Oper)} {a : Act} {w : World} (hok : okOnly ops (i, o) rest = true) (hw : Region.wanted o (yielded ops a.tmps) = true)
    (h : ∀ K : Act → World → Prop, Shut (∀ a w, S w → Seq P ops Q S rest a w → K a w) → Oper.wp P o a w K Q) : Seq P ops Q S ((i, o) :: rest) a w := by
  intro hS hc hin
  unfold okOnly at hok
  simp only [Bool.and_eq_true, Bool.not_eq_true', beq_iff_eq] at hok
  obtain ⟨h1, h2⟩ := hok
  refine wpAnyH_ready h1 (by simp) (AllReadyH.cons (hin _ (List.mem_cons_self ..)) (fun K hK => ?_) AllReadyH.nil)
  rw [if_pos hw]
  refine h K fun a' w' hS' hq => hK a' w' hS' fun _ => ?_
  rw [listedOf_next h2]
  exact hq hS' hc (fun p hp => hin p (List.mem_cons_of_mem _ hp))
theorem seq_swap {p q : Nat × Oper} {rest : List (Nat × Oper)} {a : Act} {w : World} (h : Seq P ops Q S (q :: p :: rest) a w) : Seq P ops Q S (p :: q :: rest) a w := fun hS hc hin => by
  rw [listedOf_swap]
  exact h hS hc (fun r hr => hin r (by simp at hr ⊢; rcases hr with h | h | h <;> simp [h]))
theorem seq_done {a : Act} {w : World} (hok : Region.ready .any ops (listedOf ops.size []) = []) (h : Q .normal a w) : Seq P ops Q S [] a w := fun _ _ _ => wpAnyH_done hok h _

/-! In a fence that keeps no function out, and no depth. -/
variable {F : Fence} {n : Nat}
theorem yieldsIf_wpOpIn {i : Nat} {o : Oper} {v : Value} {a : Act} (hfn : ∀ f, F.fn f) (hi : ops[i]? = some o) (hdf : ∀ c, o.op ≠ .defer c) (hy : YieldsIf P ops S o v a) {K : Act → World → Prop} {w : World} (hS : S w) (h : K (a.put o.dst v) w) : wpOpIn F n P ops Q i K a w := by
  unfold wpOpIn
  simp only [hi]
  rcases hy with ⟨hw, hv⟩ | ⟨hw, rfl⟩
  · rw [if_pos hw]
    refine ⟨fun f _ => hfn f, ?_⟩
    rw [Oper.semAt_eq _ _ _ hdf, hv w hS]
    exact h
  · rw [if_neg (by rw [hw]; simp)]
    exact ⟨fun f _ => hfn f, h⟩
theorem wpOpIn_far {j : Nat} {oi oj : Oper} {v : Value} (hfn : ∀ f, F.fn f) (hj : ops[j]? = some oj) (hap : oi.apart ops oj = true) (hsi : ∀ cs b, oi.op ≠ .select cs b) (hsj : ∀ cs b, oj.op ≠ .select cs b) (hdj : ∀ c, oj.op ≠ .defer c)
    (hQ : ∀ c a w, Q (.panic c) (a.put oi.dst v) w → Q (.panic c) a w) {K : Act → World → Prop} {a : Act} {w : World} (hy : YieldsIf P ops S oi v a) (h : wpOpIn F n P ops Q j K (a.put oi.dst v) w) :
    wpOpIn F n P ops Q j (fun a' w' => YieldsIf P ops S oi v a' ∧ K (a'.put oi.dst v) w') a w := by
  obtain ⟨h1, h2, h3⟩ := Oper.apart_spec hap
  have keep : ∀ (a : Act), YieldsIf P ops S oi v a → ∀ u, YieldsIf P ops S oi v (a.put oj.dst u) := fun a hy u =>
    hy.of_same (execOp_put oi hsi a oj.dst u h3) (wanted_put oi a oj.dst u h3)
  have keepD : ∀ d, YieldsIf P ops S oi v { a with defers := d :: a.defers } := fun d => hy.of_same rfl rfl
  unfold wpOpIn at *
  simp only [hj] at *
  rw [wanted_put oj a oi.dst v h1] at h
  by_cases hw : Region.wanted oj (yielded ops a.tmps) = true
  · rw [if_pos hw] at h ⊢
    refine ⟨fun f _ => hfn f, ?_⟩
    have h := h.2
    rw [Oper.semAt_eq _ _ _ hdj, execOp_put oj hsj a oi.dst v h1] at h
    rw [Oper.semAt_eq _ _ _ hdj]
    generalize (execOp a.eval oj).run P w = r at *
    cases r with
    | ok x w' =>
      cases x <;> simp only [Oper.uponIn] at h ⊢
      case value u => exact ⟨keep a hy u, by rw [← Act.put_comm a v u h2]; exact h⟩
      case skip => exact ⟨keep a hy _, by rw [← Act.put_comm a v undef h2]; exact h⟩
      case defer d =>
        refine ⟨keep _ (keepD d) _, ?_⟩
        rw [← Act.put_comm _ v undef h2, ← Act.put_defers]
        exact h
      case enter f args =>
        refine ⟨h.1, CallsIn.mono h.2 fun e w'' he => ?_⟩
        cases e with
        | returned u => exact ⟨keep a hy u, by rw [← Act.put_comm a v u h2]; exact he⟩
        | panicked c => exact hQ _ _ _ he
        | outgrown => exact he
      case row row args => exact ⟨h.1, RowsIn.mono h.2 fun u w'' he => ⟨keep a hy u, by rw [← Act.put_comm a v u h2]; exact he⟩⟩
      case round l f tmps assign body =>
        refine ⟨h.1, RoundIn.mono h.2 fun e w'' he => ?_⟩
        cases e with
        | returned u => exact ⟨keep a hy u, by rw [← Act.put_comm a v u h2]; exact he⟩
        | panicked c => exact hQ _ _ _ he
        | outgrown => exact he
    | halt x w' =>
      cases x <;> simp only [Oper.uponIn] at h ⊢
      case panic u => exact hQ _ _ _ h
  · rw [if_neg hw] at h ⊢
    exact ⟨fun f _ => hfn f, keep a hy _, by rw [← Act.put_comm a v undef h2]; exact h.2⟩
/-- Whatever order is picked from here on; S holds behind each operation. -/
def anyHIn (F : Fence) (n : Nat) (P : Program) (ops : Array Oper) (Q : Exit → Act → World → Prop) (S : World → Prop) : Nat → Array Bool → Act → World → Prop
  | 0, listed, a, w => Region.ready .any ops listed = [] ∧ Q .normal a w
  | fuel + 1, listed, a, w => (Region.ready .any ops listed = [] → Q .normal a w) ∧ ∀ i ∈ Region.ready .any ops listed, wpOpIn F n P ops Q i (fun a' w' => S w' ∧ anyHIn F n P ops Q S fuel (listed.setIfInBounds i true) a' w') a w
theorem anyHIn_any : ∀ (fuel : Nat) (listed : Array Bool) (a : Act) (w : World), anyHIn F n P ops Q S fuel listed a w → wpAnyIn F n P .any ops Q fuel listed a w
  | 0, _, _, _, h => h
  | fuel + 1, _, _, _, h => ⟨h.1, fun i hi => wpOpIn_mono (fun a' w' h' => anyHIn_any fuel _ a' w' h'.2) (h.2 i hi)⟩
theorem anyHIn_first {i : Nat} {oi : Oper} {v : Value} (hfn : ∀ f, F.fn f) (hi : ops[i]? = some oi) (hc : calmOps ops = true) (hQ : ∀ c a w, Q (.panic c) (a.put oi.dst v) w → Q (.panic c) a w) :
    ∀ (fuel : Nat) (listed : Array Bool) (a : Act) (w : World),
      (∀ j oj, ops[j]? = some oj → j ≠ i → listed.getD j true = false → (∀ e ∈ oj.after, Region.binds .any e = true → e.on ≠ i) → oi.apart ops oj = true) →
      i ∈ Region.ready .any ops listed → YieldsIf P ops S oi v a → S w →
      anyHIn F n P ops Q S fuel (listed.setIfInBounds i true) (a.put oi.dst v) w → anyHIn F n P ops Q S (fuel + 1) listed a w := by
  have hsel := Region.noSelect_spec (calm_select hc)
  intro fuel
  induction fuel with
  | zero =>
    intro listed a w _ hr hy hS H
    refine ⟨fun h => (by rw [h] at hr; cases hr), fun j hj => ?_⟩
    by_cases hji : j = i
    · subst hji; exact yieldsIf_wpOpIn hfn hi (calm_defer hc hi) hy hS ⟨hS, H⟩
    · have := ready_mono hj hji
      rw [H.1] at this
      cases this
  | succ fuel ih =>
    intro listed a w hfree hr hy hS H
    refine ⟨fun h => (by rw [h] at hr; cases hr), fun j hj => ?_⟩
    by_cases hji : j = i
    · subst hji; exact yieldsIf_wpOpIn hfn hi (calm_defer hc hi) hy hS ⟨hS, H⟩
    · have h1 := H.2 j (ready_mono hj hji)
      obtain ⟨hjun, oj, hoj, hall⟩ := mem_ready.1 hj
      have hnot : ∀ e ∈ oj.after, Region.binds .any e = true → e.on ≠ i := fun e he hb heq => by
        have h1 := hall e he hb
        have h0 := (mem_ready.1 hr).1
        rw [heq] at h1
        rcases Nat.lt_or_ge i listed.size with h' | h'
        · simp [h'] at h0 h1; rw [h0] at h1; cases h1
        · simp [Array.getElem?_eq_none h'] at h1
      have h2 := wpOpIn_far hfn hoj (hfree j oj hoj hji hjun hnot) (fun cs b => hsel i oi cs b hi) (fun cs b => hsel j oj cs b hoj) (calm_defer hc hoj) hQ hy h1
      have hfree' : ∀ k ok, ops[k]? = some ok → k ≠ i → (listed.setIfInBounds j true).getD k true = false →
          (∀ e ∈ ok.after, Region.binds .any e = true → e.on ≠ i) → oi.apart ops ok = true := fun k ok hk hki hun hno => by
        refine hfree k ok hk hki ?_ hno
        by_cases hjk : j = k
        · subst hjk; exact hjun
        · rw [getD_set_ne true hjk] at hun; exact hun
      refine wpOpIn_mono (fun a' w' h3 => ⟨h3.2.1, ih (listed.setIfInBounds j true) a' w' hfree' (ready_mono hr (Ne.symm hji)) h3.1 h3.2.1 ?_⟩) h2
      rw [Array.setIfInBounds_comm _ _ hji]
      exact h3.2.2
def SeqIn (F : Fence) (n : Nat) (P : Program) (ops : Array Oper) (Q : Exit → Act → World → Prop) (S : World → Prop) (rest : List (Nat × Oper)) (a : Act) (w : World) : Prop :=
  S w → (∀ f, F.fn f) → calmOps ops = true → (∀ p ∈ rest, ops[p.1]? = some p.2) → anyHIn F n P ops Q S rest.length (listedOf ops.size rest) a w
theorem seqIn_start {id : Nat} {l : List Oper} {a : Act} {w : World} (hm : P.follows .mixedOrders = true) (hfn : ∀ f, F.fn f) (hc : calmOps l.toArray = true) (hS : S w.drew) (h : SeqIn F n P l.toArray Q S (places 0 l) a w.drew) : (Code.region id l.toArray true).wpIn F n P Q a w := by
  refine wpIn_region_any hm (anyHIn_any (S := S) _ _ _ _ ?_)
  have := h hS hfn hc (fun p hp => by have := places_get l 0 p hp; simpa using this.2)
  rw [listedOf_start, places_len] at this
  simpa using this
theorem seqIn_yield {i : Nat} {o : Oper} {rest : List (Nat × Oper)} {a : Act} {w : World} {v : Value} (hQ : ∀ c a w, Q (.panic c) (a.put o.dst v) w → Q (.panic c) a w) (hok : okTake ops (i, o) rest = true) (hy : YieldsIf P ops S o v a) (h : SeqIn F n P ops Q S rest (a.put o.dst v) w) : SeqIn F n P ops Q S ((i, o) :: rest) a w := by
  intro hS hfn hc hin
  unfold okTake at hok
  simp only [Bool.and_eq_true, Bool.not_eq_true'] at hok
  obtain ⟨⟨h1, h2⟩, h3⟩ := hok
  have h4 := h hS hfn hc (fun p hp => hin p (List.mem_cons_of_mem _ hp))
  rw [← listedOf_next (o := o) h3] at h4
  exact anyHIn_first hfn (hin _ (List.mem_cons_self ..)) hc hQ _ _ _ _ (Region.free_spec (hin _ (List.mem_cons_self ..)) h1) (by simpa using h2) hy hS h4
theorem seqIn_skip {i : Nat} {o : Oper} {rest : List (Nat × Oper)} {a : Act} {w : World} (hw : Region.wanted o (yielded ops a.tmps) = false) (hQ : ∀ c a w, Q (.panic c) (a.put o.dst undef) w → Q (.panic c) a w) (hok : okTake ops (i, o) rest = true) (h : SeqIn F n P ops Q S rest (a.put o.dst undef) w) : SeqIn F n P ops Q S ((i, o) :: rest) a w :=
  seqIn_yield hQ hok (.inr ⟨hw, rfl⟩) h
theorem seqIn_take {i : Nat} {o : Oper} {rest : List (Nat × Oper)} {a : Act} {w : World} {v : Value} (hw : Region.wanted o (yielded ops a.tmps) = true) (hQ : ∀ c a w, Q (.panic c) (a.put o.dst v) w → Q (.panic c) a w) (hok : okTake ops (i, o) rest = true) (hv : ∀ w', S w' → (execOp a.eval o).run P w' = .ok (.value v) w') (h : SeqIn F n P ops Q S rest (a.put o.dst v) w) : SeqIn F n P ops Q S ((i, o) :: rest) a w :=
  seqIn_yield hQ hok (.inl ⟨hw, hv⟩) h
theorem seqIn_take0 {i : Nat} {o : Oper} {rest : List (Nat × Oper)} {a : Act} {w : World} {v : Value} (hg : o.guard = none) (hQ : ∀ c a w, Q (.panic c) (a.put o.dst v) w → Q (.panic c) a w) (hok : okTake ops (i, o) rest = true) (hv : ∀ w', S w' → (execOp a.eval o).run P w' = .ok (.value v) w') (h : SeqIn F n P ops Q S rest (a.put o.dst v) w) : SeqIn F n P ops Q S ((i, o) :: rest) a w :=
  seqIn_take (wanted_free hg) hQ hok hv h
theorem seqIn_takeG {i : Nat} {o : Oper} {rest : List (Nat × Oper)} {a : Act} {w : World} {v : Value} {g d : Nat} {b : Bool} {u : Value} (hg : o.guard = some (g, b)) (hd : (ops[g]?).bind (·.dst) = some d) (hu : a.tmps[d]? = some u) (hb : isB u b = true) (hQ : ∀ c a w, Q (.panic c) (a.put o.dst v) w → Q (.panic c) a w) (hok : okTake ops (i, o) rest = true) (hv : ∀ w', S w' → (execOp a.eval o).run P w' = .ok (.value v) w') (h : SeqIn F n P ops Q S rest (a.put o.dst v) w) : SeqIn F n P ops Q S ((i, o) :: rest) a w :=
  seqIn_take ((wanted_isB hg hd hu).trans hb) hQ hok hv h
theorem seqIn_skipG {i : Nat} {o : Oper} {rest : List (Nat × Oper)} {a : Act} {w : World} {g d : Nat} {b : Bool} {u : Value} (hg : o.guard = some (g, b)) (hd : (ops[g]?).bind (·.dst) = some d) (hu : a.tmps[d]? = some u) (hb : isB u b = false) (hQ : ∀ c a w, Q (.panic c) (a.put o.dst undef) w → Q (.panic c) a w) (hok : okTake ops (i, o) rest = true) (h : SeqIn F n P ops Q S rest (a.put o.dst undef) w) : SeqIn F n P ops Q S ((i, o) :: rest) a w :=
  seqIn_skip ((wanted_isB hg hd hu).trans hb) hQ hok h
theorem seqIn_op {i : Nat} {o : Oper} {rest : List (Nat × Oper)} {a : Act} {w : World} (hok : okOnly ops (i, o) rest = true) (hw : Region.wanted o (yielded ops a.tmps) = true)
    (h : ∀ K : Act → World → Prop, Shut (∀ a w, S w → SeqIn F n P ops Q S rest a w → K a w) → Oper.wpIn F n P o a w K Q) : SeqIn F n P ops Q S ((i, o) :: rest) a w := by
  intro hS hfn hc hin
  unfold okOnly at hok
  simp only [Bool.and_eq_true, Bool.not_eq_true', beq_iff_eq] at hok
  obtain ⟨h1, h2⟩ := hok
  refine ⟨fun h0 => (by rw [h1] at h0; cases h0), fun j hj => ?_⟩
  rw [h1] at hj
  obtain rfl : j = i := by simpa using hj
  refine wpOpIn_step (hin _ (List.mem_cons_self ..)) (fun K hK => ?_)
  rw [if_pos hw]
  refine h K fun a' w' hS' hq => hK a' w' ⟨hS', ?_⟩
  rw [listedOf_next h2]
  exact hq hS' hfn hc (fun p hp => hin p (List.mem_cons_of_mem _ hp))
theorem seqIn_swap {p q : Nat × Oper} {rest : List (Nat × Oper)} {a : Act} {w : World} (h : SeqIn F n P ops Q S (q :: p :: rest) a w) : SeqIn F n P ops Q S (p :: q :: rest) a w := fun hS hfn hc hin => by
  rw [listedOf_swap]
  exact h hS hfn hc (fun r hr => hin r (by simp at hr ⊢; rcases hr with h | h | h <;> simp [h]))
theorem seqIn_done {a : Act} {w : World} (hok : Region.ready .any ops (listedOf ops.size []) = []) (h : Q .normal a w) : SeqIn F n P ops Q S [] a w := fun _ _ _ _ => by
  show anyHIn F n P ops Q S 0 _ a w
  exact ⟨hok, h⟩
end
end Go.Proofs.YtfondpakbiagjaaGreatDoor
