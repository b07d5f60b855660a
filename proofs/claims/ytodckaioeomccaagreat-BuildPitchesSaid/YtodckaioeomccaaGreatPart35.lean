/- Drawn regions in which blocks are laid that nothing binds: each may be laid at any time. -/
import Derived.Test.YtodckaioeomccaaGreatPart22
import Derived.Test.YtodckaioeomccaaGreatPart28
namespace Go.Proofs.YtodckaioeomccaaGreat
open Go.RowKit
set_option linter.unusedVariables false
section
variable {P : Program} {ops : Array Oper} {Q : Exit → Act → World → Prop} {S : World → Prop}
def okAny (ops : Array Oper) (fs rest : List (Nat × Oper)) : Bool :=
 (Region.ready .any ops (listedOf ops.size (fs ++ rest))).all (fun i => fs.any fun p => p.1 == i) && !(Region.ready .any ops (listedOf ops.size (fs ++ rest))).isEmpty && decide ((fs ++ rest).map (·.1)).Nodup
theorem seq_any {fs rest : List (Nat × Oper)} {a : Act} {w : World} (hok : okAny ops fs rest = true) (hw : ∀ p ∈ fs, Region.wanted p.2 (yielded ops a.tmps) = true)
  (h : ∀ p ∈ fs, ∀ rest', (p :: rest').Perm (fs ++ rest) → StepTo P ops Q S p.2 rest' a w) : Seq P ops Q S (fs ++ rest) a w := by
 intro hS hc hin
 unfold okAny at hok
 simp only [Bool.and_eq_true, Bool.not_eq_true', List.isEmpty_eq_false_iff, decide_eq_true_eq] at hok
 obtain ⟨⟨k1, k2⟩, k3⟩ := hok
 obtain ⟨m, hm⟩ : ∃ m, (fs ++ rest).length = m + 1 := by
  cases hq : (fs ++ rest) with
  | nil =>
   exfalso
   refine k2 (List.eq_nil_iff_forall_not_mem.2 fun i hi => ?_)
   obtain ⟨p, hp, _⟩ := List.any_eq_true.1 (List.all_eq_true.1 k1 i hi)
   have : p ∈ fs ++ rest := List.mem_append_left _ hp
   rw [hq] at this; cases this
  | cons x l => exact ⟨l.length, rfl⟩
 rw [hm]
 refine wpAnyH_ready rfl k2 fun i hi => ?_
 obtain ⟨p, hp, e⟩ := List.any_eq_true.1 (List.all_eq_true.1 k1 i hi)
 rw [beq_iff_eq] at e
 subst e
 obtain ⟨s, t, hst⟩ := List.append_of_mem (List.mem_append_left rest hp)
 have hperm : (p :: (s ++ t)).Perm (fs ++ rest) := by rw [hst]; exact List.perm_middle.symm
 have hno : ((s ++ t).any fun x => x.1 == p.1) = false := by
  have h1 := (hperm.map (·.1)).nodup_iff.2 k3
  rw [List.map_cons, List.nodup_cons] at h1
  rw [Bool.eq_false_iff]
  intro hany
  obtain ⟨x, hx, e⟩ := List.any_eq_true.1 hany
  rw [beq_iff_eq] at e
  exact h1.1 (e ▸ List.mem_map_of_mem hx)
 have hlen : (s ++ t).length = m := by have := hperm.length_eq; simp only [List.length_cons] at this; omega
 have := stepTo_op (i := p.1) (o := p.2) (rest := s ++ t) hc hin hperm hno (hw p hp) (h p hp (s ++ t) hperm)
 rwa [hlen] at this
end
structure Flo where
 p : Nat × Oper
 t : TypeId
 z : List Value
 u : Value
def pv (u : Value) : Option Nat → Value
 | none => u
 | some g => .pointer (some ⟨g, 0, none⟩)
def upd (st : Nat → Option Nat) (k g : Nat) : Nat → Option Nat := fun i => bif Nat.beq i k then some g else st i
theorem upd_eq (st : Nat → Option Nat) (k g : Nat) : upd st k g k = some g := by unfold upd; rw [Nat.beq_refl]; rfl
theorem upd_ne (st : Nat → Option Nat) {k i : Nat} (g : Nat) (h : i ≠ k) : upd st k g i = st i := by
 unfold upd
 cases hb : Nat.beq i k with
 | true => exact absurd (Nat.eq_of_beq_eq_true hb) h
 | false => rfl
def pend : Nat → List Flo → (Nat → Option Nat) → List (Nat × Oper)
 | _, [], _ => []
 | k, f :: fs, st => match st k with
  | none => f.p :: pend (k + 1) fs st
  | some _ => pend (k + 1) fs st
def puts (a : Act) : Nat → List Flo → (Nat → Option Nat) → Act
 | _, [], _ => a
 | k, f :: fs, st => puts (a.put f.p.2.dst (pv f.u (st k))) (k + 1) fs st
def subs {α : Type} : List α → List (List α)
 | [] => [[]]
 | x :: l => subs l ++ (subs l).map (x :: ·)
theorem pend_sub : ∀ (fs : List Flo) (k : Nat) (st : Nat → Option Nat), pend k fs st ∈ subs (fs.map (·.p))
 | [], _, _ => List.mem_singleton.2 rfl
 | f :: fs, k, st => by
  unfold pend
  rw [List.map_cons]
  unfold subs
  cases st k with
  | none => exact List.mem_append_right _ (List.mem_map_of_mem (pend_sub fs (k + 1) st))
  | some g => exact List.mem_append_left _ (pend_sub fs (k + 1) st)
theorem pend_mem : ∀ (fs : List Flo) (k : Nat) (st : Nat → Option Nat) (p : Nat × Oper), p ∈ pend k fs st → ∃ i f, fs[i]? = some f ∧ p = f.p ∧ st (k + i) = none
 | [], _, _, _, h => by cases h
 | f :: fs, k, st, p, h => by
  unfold pend at h
  cases hk : st k with
  | none =>
   rw [hk] at h
   rcases List.mem_cons.1 h with rfl | h
   ·exact ⟨0, f, rfl, rfl, hk⟩
   ·obtain ⟨i, f', h1, h2, h3⟩ := pend_mem fs (k + 1) st p h
    exact ⟨i + 1, f', h1, h2, by rw [← h3]; congr 1; omega⟩
  | some g =>
   rw [hk] at h
   obtain ⟨i, f', h1, h2, h3⟩ := pend_mem fs (k + 1) st p h
   exact ⟨i + 1, f', h1, h2, by rw [← h3]; congr 1; omega⟩
theorem pend_far : ∀ (fs : List Flo) (k j g : Nat) (st : Nat → Option Nat), j < k → pend k fs (upd st j g) = pend k fs st
 | [], _, _, _, _, _ => rfl
 | f :: fs, k, j, g, st, h => by
  unfold pend
  rw [upd_ne st g (by omega : k ≠ j), pend_far fs (k + 1) j g st (by omega)]
theorem pend_perm : ∀ (fs : List Flo) (k : Nat) (st : Nat → Option Nat) (i : Nat) (f : Flo) (g : Nat), fs[i]? = some f → st (k + i) = none → (f.p :: pend k fs (upd st (k + i) g)).Perm (pend k fs st)
 | [], _, _, _, _, _, h, _ => by simp at h
 | f' :: fs, k, st, 0, f, g, h, h0 => by
  obtain rfl : f' = f := by simpa using h
  rw [Nat.add_zero] at h0 ⊢
  unfold pend
  rw [h0, upd_eq, pend_far fs (k + 1) k g st (by omega)]
 | f' :: fs, k, st, i + 1, f, g, h, h0 => by
  have ih := pend_perm fs (k + 1) st i f g (by simpa using h) (by rw [← h0]; congr 1; omega)
  rw [show k + 1 + i = k + (i + 1) by omega] at ih
  unfold pend
  rw [upd_ne st g (by omega : k ≠ k + (i + 1))]
  cases st k with
  | none => exact (List.Perm.swap _ _ _).trans (List.Perm.cons _ ih)
  | some g' => exact ih
structure Fz (wa : World) (fs : List Flo) (st : Nat → Option Nat) (w : World) : Prop where
 bel : Below wa.heap.size wa w
 blk : ∀ i f g, fs[i]? = some f → st i = some g → wa.heap.size ≤ g ∧ w.heap[g]? = some (.cells f.z.toArray f.t (0, 0))
 ne : ∀ i j g, i < fs.length → j < fs.length → i ≠ j → st i = some g → st j ≠ some g
theorem Fz.start (wa : World) (fs : List Flo) : Fz wa fs (fun _ => none) wa := ⟨Below.refl _ _, (fun _ _ _ _ h => by cases h), (fun _ _ _ _ _ _ h => by cases h)⟩
theorem Fz.below {wa w w' : World} {fs : List Flo} {st : Nat → Option Nat} (h : Fz wa fs st w) (hb : Below w.heap.size w w') : Fz wa fs st w' :=
 ⟨h.bel.trans (hb.mono h.bel.size), fun i f g h1 h2 => let ⟨k1, k2⟩ := h.blk i f g h1 h2; ⟨k1, blk_below k2 hb⟩, h.ne⟩
theorem Fz.lay {wa w : World} {fs : List Flo} {st : Nat → Option Nat} {i : Nat} {f : Flo} (h : Fz wa fs st w) (hf : fs[i]? = some f) : Fz wa fs (upd st i w.heap.size) (w.alloc (.cells f.z.toArray f.t)) := by
 have h' := h.below ((Below.refl _ w).alloc (Nat.le_refl _) (.cells f.z.toArray f.t))
 have low : ∀ j g, j < fs.length → st j = some g → g < w.heap.size := fun j g hj hg => blk_lt (h.blk j _ g (List.getElem?_eq_getElem hj) hg).2
 refine ⟨h'.bel, fun j f' g h1 h2 => ?_, fun j k g hj hk hne h1 h2 => ?_⟩
 ·by_cases hj : j = i
  ·subst hj
   rw [upd_eq] at h2
   obtain rfl := Option.some.inj h2
   obtain rfl := Option.some.inj (hf.symm.trans h1)
   exact ⟨h.bel.size, heap_alloc_new w _⟩
  ·rw [upd_ne st _ hj] at h2
   exact h'.blk j f' g h1 h2
 ·by_cases e1 : j = i
  ·subst e1
   rw [upd_eq] at h1
   rw [upd_ne st _ (Ne.symm hne)] at h2
   have := low k g hk h2
   have := Option.some.inj h1; omega
  ·rw [upd_ne st _ e1] at h1
   by_cases e2 : k = i
   ·subst e2
    rw [upd_eq] at h2
    have := low j g hj h1
    have := Option.some.inj h2; omega
   ·rw [upd_ne st _ e2] at h2
    exact h.ne j k g hj hk hne h1 h2
theorem kne {wa w : World} {fs : List Flo} {st : Nat → Option Nat} {i a g : Nat} {f : Flo} (h : Hid (a < wa.heap.size)) (hF : Hid (Fz wa fs st w)) (e : st i = some g) (hf : fs[i]? = some f := by rfl) : Hid (a ≠ g) := Nat.ne_of_lt (Nat.lt_of_lt_of_le h.out (hF.out.blk i f g hf e).1)
theorem kle {a wa w : World} {fs : List Flo} {st : Nat → Option Nat} {i g : Nat} {f : Flo} (h : Hid (a.heap.size ≤ wa.heap.size)) (hF : Hid (Fz wa fs st w)) (e : st i = some g) (hf : fs[i]? = some f := by rfl) : Hid (a.heap.size ≤ g) := Nat.le_trans h.out (hF.out.blk i f g hf e).1
section
variable {P : Program} {ops : Array Oper} {Q : Exit → Act → World → Prop} {S : World → Prop}
def LayOk (P : Program) (Q : Exit → Act → World → Prop) : List Flo → Prop
 | [] => True
 | f :: fs => (f.p.2.guard = none ∧ ∀ (a : Act) (w : World) (K : Act → World → Prop), K (a.put f.p.2.dst (.pointer (some ⟨w.heap.size, 0, none⟩))) (w.alloc (.cells f.z.toArray f.t)) → Oper.wp P f.p.2 a w K Q) ∧ LayOk P Q fs
theorem layOk_get : ∀ {fs : List Flo}, LayOk P Q fs → ∀ {i : Nat} {f : Flo}, fs[i]? = some f → f.p.2.guard = none ∧ ∀ (a : Act) (w : World) (K : Act → World → Prop), K (a.put f.p.2.dst (.pointer (some ⟨w.heap.size, 0, none⟩))) (w.alloc (.cells f.z.toArray f.t)) → Oper.wp P f.p.2 a w K Q
 | [], _, _, _, h => by simp at h
 | f' :: fs, hl, 0, f, h => by
  obtain rfl : f' = f := by simpa using h
  exact hl.1
 | f' :: fs, hl, i + 1, f, h => layOk_get hl.2 (by simpa using h)
def PutOk (A : (Nat → Option Nat) → Act) : Nat → List Flo → Prop
 | _, [] => True
 | k, f :: fs => (∀ st g, (A st).put f.p.2.dst (.pointer (some ⟨g, 0, none⟩)) = A (upd st k g)) ∧ PutOk A (k + 1) fs
theorem putOk_get {A : (Nat → Option Nat) → Act} : ∀ {fs : List Flo} {k : Nat}, PutOk A k fs → ∀ {i : Nat} {f : Flo}, fs[i]? = some f → ∀ st g, (A st).put f.p.2.dst (.pointer (some ⟨g, 0, none⟩)) = A (upd st (k + i) g)
 | [], _, _, _, _, h => by simp at h
 | f' :: fs, k, hl, 0, f, h => by
  obtain rfl : f' = f := by simpa using h
  exact hl.1
 | f' :: fs, k, hl, i + 1, f, h => fun st g => by
  rw [putOk_get hl.2 (i := i) (f := f) (by simpa using h) st g]
  congr 2; omega
theorem fOp {wa w : World} {fs : List Flo} {st : Nat → Option Nat} {i : Nat} {o : Oper} {L : List (Nat × Oper)} {a : Act} {A : (Nat → Option Nat) → Act} (HF : Hid (Fz wa fs st w)) (hS : ∀ w, Below wa.heap.size wa w → S w)
  (hA : A st = a := by rfl) (HL : LayOk P Q fs := by repeat' (first | exact trivial | refine ⟨⟨rfl, fun a w K hK => by go_simp; exact hK⟩, ?_⟩))
  (hput : PutOk A 0 fs := by repeat' (first | exact trivial | refine ⟨fun _ _ => (by simp only [Act.put, List.setIfInBounds_toArray, List.set_cons_zero, List.set_cons_succ]; rfl), ?_⟩))
  (hok : (subs (fs.map (·.p))).all (fun s => okAny ops (s ++ [(i, o)]) L) = true := by kernel_rfl) (hw : ∀ st, Region.wanted o (yielded ops (A st).tmps) = true := by exact fun _ => rfl)
  (h : ∀ st' w', Below w.heap.size w w' → Hid (Fz wa fs st' w') → ∀ K : Act → World → Prop, Shut (∀ a w, S w → Seq P ops Q S (pend 0 fs st' ++ L) a w → K a w) → Oper.wp P o (A st') w' K Q) : Seq P ops Q S (pend 0 fs st ++ (i, o) :: L) a w := by
 subst hA
 have key : ∀ n st w', (pend 0 fs st).length = n → Below w.heap.size w w' → Fz wa fs st w' → Seq P ops Q S (pend 0 fs st ++ (i, o) :: L) (A st) w' := by
  intro n
  induction n with
  | zero =>
   intro st w' hn hb hf
   rw [List.append_cons]
   refine seq_any (List.all_eq_true.1 hok _ (pend_sub fs 0 st)) (fun p hp => ?_) fun p hp rest' hperm => ?_
   ·rw [List.eq_nil_of_length_eq_zero hn, List.nil_append, List.mem_singleton] at hp
    rw [hp]; exact hw st
   ·rw [List.eq_nil_of_length_eq_zero hn, List.nil_append, List.mem_singleton] at hp
    subst hp
    intro K hK
    refine h st w' hb hf K fun a w'' hS' hq => hK a w'' hS' (seq_perm ?_ hq)
    have := hperm.symm
    rw [List.append_assoc] at this
    exact ((List.perm_middle (l₁ := pend 0 fs st)).symm.trans this).cons_inv
  | succ n ih =>
   intro st w' hn hb hf
   rw [List.append_cons]
   refine seq_any (List.all_eq_true.1 hok _ (pend_sub fs 0 st)) (fun p hp => ?_) fun p hp rest' hperm => ?_
   ·rcases List.mem_append.1 hp with hp | hp
    ·obtain ⟨j, f, h1, rfl, h3⟩ := pend_mem fs 0 st p hp
     exact wanted_free (layOk_get HL h1).1
    ·rw [List.mem_singleton.1 hp]; exact hw st
   ·rcases List.mem_append.1 hp with hp | hp
    ·obtain ⟨j, f, h1, rfl, h3⟩ := pend_mem fs 0 st p hp
     intro K hK
     refine (layOk_get HL h1).2 _ _ _ ?_
     rw [putOk_get hput h1]
     have hf' := hf.lay h1
     have hpp := pend_perm fs 0 st j f w'.heap.size h1 h3
     rw [Nat.zero_add] at hpp ⊢
     refine hK _ _ (hS _ hf'.bel) (seq_perm ?_ (ih (upd st j w'.heap.size) _ (by have := hpp.length_eq; simp only [List.length_cons] at this; omega) (hb.alloc (hb.size) _) hf'))
     have h4 : (f.p :: (pend 0 fs (upd st j w'.heap.size) ++ (i, o) :: L)).Perm (f.p :: rest') := by
      refine List.Perm.trans ?_ hperm.symm
      rw [List.append_assoc]
      exact hpp.append_right _
     exact h4.cons_inv
    ·obtain rfl := List.mem_singleton.1 hp
     intro K hK
     refine h st w' hb hf K fun a w'' hS' hq => hK a w'' hS' (seq_perm ?_ hq)
     have := hperm.symm
     rw [List.append_assoc] at this
     exact ((List.perm_middle (l₁ := pend 0 fs st)).symm.trans this).cons_inv
 exact key _ st w rfl (Below.refl _ _) HF.out
theorem fEnd {wa w : World} {fs : List Flo} {st : Nat → Option Nat} {L : List (Nat × Oper)} {a : Act} {A : (Nat → Option Nat) → Act} (HF : Hid (Fz wa fs st w)) (hS : ∀ w, Below wa.heap.size wa w → S w)
  (hA : A st = a := by rfl) (HL : LayOk P Q fs := by repeat' (first | exact trivial | refine ⟨⟨rfl, fun a w K hK => by go_simp; exact hK⟩, ?_⟩))
  (hput : PutOk A 0 fs := by repeat' (first | exact trivial | refine ⟨fun _ _ => (by simp only [Act.put, List.setIfInBounds_toArray, List.set_cons_zero, List.set_cons_succ]; rfl), ?_⟩))
  (hok : (subs (fs.map (·.p))).all (fun s => s.isEmpty || okAny ops s L) = true := by kernel_rfl)
  (h : ∀ st' w', Below w.heap.size w w' → Hid (Fz wa fs st' w') → (∀ i, i < fs.length → ∃ g, st' i = some g) → Seq P ops Q S L (A st') w') : Seq P ops Q S (pend 0 fs st ++ L) a w := by
 subst hA
 have key : ∀ n st w', (pend 0 fs st).length = n → Below w.heap.size w w' → Fz wa fs st w' → Seq P ops Q S (pend 0 fs st ++ L) (A st) w' := by
  intro n
  induction n with
  | zero =>
   intro st w' hn hb hf
   have hnil := List.eq_nil_of_length_eq_zero hn
   rw [hnil, List.nil_append]
   refine h st w' hb hf fun i hi => ?_
   cases hq : st i with
   | some g => exact ⟨g, rfl⟩
   | none =>
    have := (pend_perm fs 0 st i _ 0 (List.getElem?_eq_getElem hi) (by rw [Nat.zero_add]; exact hq)).length_eq
    rw [hnil] at this; simp at this
  | succ n ih =>
   intro st w' hn hb hf
   have hk := List.all_eq_true.1 hok _ (pend_sub fs 0 st)
   have hk2 : okAny ops (pend 0 fs st) L = true := by
    cases hq : pend 0 fs st with
    | nil => rw [hq] at hn; simp at hn
    | cons x l => rw [hq] at hk; simpa using hk
   refine seq_any hk2 (fun p hp => ?_) fun p hp rest' hperm => ?_
   ·obtain ⟨j, f, h1, rfl, h3⟩ := pend_mem fs 0 st p hp
    exact wanted_free (layOk_get HL h1).1
   ·obtain ⟨j, f, h1, rfl, h3⟩ := pend_mem fs 0 st p hp
    intro K hK
    refine (layOk_get HL h1).2 _ _ _ ?_
    rw [putOk_get hput h1]
    have hf' := hf.lay h1
    have hpp := pend_perm fs 0 st j f w'.heap.size h1 h3
    rw [Nat.zero_add] at hpp ⊢
    refine hK _ _ (hS _ hf'.bel) (seq_perm ?_ (ih (upd st j w'.heap.size) _ (by have := hpp.length_eq; simp only [List.length_cons] at this; omega) (hb.alloc (hb.size) _) hf'))
    have h4 : (f.p :: (pend 0 fs (upd st j w'.heap.size) ++ L)).Perm (f.p :: rest') := (hpp.append_right _).trans hperm.symm
    exact h4.cons_inv
 exact key _ st w rfl (Below.refl _ _) HF.out
theorem fStart {wa : World} {fs : List Flo} {L M : List (Nat × Oper)} {a : Act} (hl : fs.map (·.p) ++ L = M := by rfl) (ha : puts a 0 fs (fun _ => none) = a := by rfl)
  (h : ∀ st, Hid (Fz wa fs st wa) → Seq P ops Q S (pend 0 fs st ++ L) (puts a 0 fs st) wa) : Seq P ops Q S M a wa := by
 subst hl
 have := h (fun _ => none) (Fz.start wa fs)
 rw [ha] at this
 have e : ∀ (k : Nat) (fs : List Flo), pend k fs (fun _ => none) = fs.map (·.p) := fun k fs => by
  induction fs generalizing k with
  | nil => rfl
  | cons f fs ih => unfold pend; rw [List.map_cons]; exact congrArg _ (ih (k + 1))
 rwa [e] at this
end
end Go.Proofs.YtodckaioeomccaaGreat
