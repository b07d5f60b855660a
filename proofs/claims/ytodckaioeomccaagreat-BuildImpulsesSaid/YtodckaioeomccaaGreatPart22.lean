/- Integers, fractions, numbers with roots in memory: opened into their cells; what a store elsewhere leaves. Steps of a drawn region in short words. Walks of fractions: Neg, Sub, Mul, Div, Sign, Cmp, Zero, Whole; one, ratio. -/
import Derived.Test.YtodckaioeomccaaGreatPart21
import Derived.StillTailTactics
namespace Go.Proofs.YtodckaioeomccaaGreat
open Go.RowKit
set_option linter.unusedVariables false
set_option linter.unusedSimpArgs false
/-- A value that is no word of a number. -/
def notWB : Value → Bool
  | .int .i64 _ => true
  | .int _ _ => false
  | _ => true
/-- Each word stays. -/
def Wd (w w' : World) : Prop := ∀ (b i : Nat) (u : Value), notWB u = false → w.cell? ⟨b, i, none⟩ = some u → w'.cell? ⟨b, i, none⟩ = some u
theorem Wd.refl (w : World) : Wd w w := fun _ _ _ _ h => h
theorem Wd.trans {a b c : World} (h : Wd a b) (k : Wd b c) : Wd a c := fun x i u hu e => k x i u hu (h x i u hu e)
theorem cell_lt {w : World} {b i : Nat} {u : Value} (h : w.cell? ⟨b, i, none⟩ = some u) : b < w.heap.size := by
  rcases Nat.lt_or_ge b w.heap.size with h' | h'
  · exact h'
  · unfold World.cell? at h
    simp [Array.getElem?_eq_none h'] at h
theorem Wd.of_below {w w' : World} (h : Below w.heap.size w w') : Wd w w' := fun b i u _ e => (h.cell (p := ⟨b, i, none⟩) (cell_lt e)).trans e
theorem Rd.wd {α : Type} {f : α → Value} {w w' : World} {S : Nat → Prop} {v : Value} {xs : List α} (hf : ∀ x, notWB (f x) = false) (h : Rd f w S v xs) (hw : Wd w w') : Rd f w' S v xs := by
  obtain ⟨A, cap, rfl, h1, h2, h3⟩ := h
  refine ⟨A, cap, rfl, h1, h2, fun hn => ?_⟩
  obtain ⟨b, off, rfl, hb, hc⟩ := h3 hn
  exact ⟨b, off, rfl, hb, fun i hi => hw _ _ _ (hf _) (hc i hi)⟩
theorem RdN.wd {w w' : World} {v : Value} {n : Nat} (h : RdN w v n) (hw : Wd w w') : RdN w' v n := Rd.wd (fun _ => rfl) h hw
theorem RdZ.wd {w w' : World} {v : Value} {z : Int} (h : RdZ w v z) (hw : Wd w w') : RdZ w' v z := let ⟨a, h1, h2⟩ := h; ⟨a, h1, h2.wd hw⟩
theorem RdQ.wd {w w' : World} {v : Value} {x : Rat} (h : RdQ w v x) (hw : Wd w w') : RdQ w' v x := let ⟨a, b, h1, h2, h3⟩ := h; ⟨a, b, h1, h2.wd hw, h3.wd hw⟩
/-! Blocks. -/
theorem blk_lt {w : World} {b : Nat} {o : Obj} (h : w.heap[b]? = some o) : b < w.heap.size := (Array.getElem?_eq_some_iff.1 h).1
theorem blk_below {w w' : World} {b : Nat} {o : Obj} (h : w.heap[b]? = some o) (hb : Below w.heap.size w w') : w'.heap[b]? = some o := (hb.block b (blk_lt h)).trans h
theorem blk_cell {w : World} {b t : Nat} {cs : Array Value} (h : w.heap[b]? = some (.cells cs t (0, 0))) (i : Nat) : w.cell? ⟨b, i, none⟩ = cs[i]? := cell_of_row w b i _ t (0, 0) h
theorem blk_free {w : World} {b t : Nat} {cs : Array Value} (h : w.heap[b]? = some (.cells cs t (0, 0))) (i : Nat) : w.frozen? ⟨b, i, none⟩ = false := frozen_of_row w b i _ t h
theorem blk_set {w : World} {b t i : Nat} {cs : Array Value} (u : Value) (h : w.heap[b]? = some (.cells cs t (0, 0))) : (w.setCell ⟨b, i, none⟩ u).heap[b]? = some (.cells (cs.setIfInBounds i u) t (0, 0)) := by
  have hlt := blk_lt h
  have h' : w.heap[b] = .cells cs t (0, 0) := by simpa [Array.getElem?_eq_getElem hlt] using h
  show (w.heap.modify b _)[b]? = _
  rw [Array.getElem?_eq_getElem (by simpa using hlt), Array.getElem_modify_self, h']
  rfl
theorem blk_other {w : World} {b b' i : Nat} {o : Obj} (u : Value) (h : w.heap[b]? = some o) (hne : b ≠ b') : (w.setCell ⟨b', i, none⟩ u).heap[b]? = some o := (Below.heap_setCell w ⟨b', i, none⟩ u b hne).trans h
/-- A block without words. -/
def NoW (w : World) (b : Nat) : Prop := ∀ (i : Nat) (u : Value), w.cell? ⟨b, i, none⟩ = some u → notWB u = true
theorem NoW.of {w : World} {b t : Nat} {cs : Array Value} (h : w.heap[b]? = some (.cells cs t (0, 0))) (hc : cs.toList.all notWB = true) : NoW w b := fun i u e => by
  rw [blk_cell h i] at e
  exact List.all_eq_true.1 hc u (Array.mem_toList_iff.2 (Array.mem_of_getElem? e))
/-- Stores into one block without words. -/
def Wset (b : Nat) (w w' : World) : Prop := Wd w w' ∧ NoW w' b
theorem Wset.start {w : World} {b : Nat} (h : NoW w b) : Wset b w w := ⟨.refl _, h⟩
theorem Wset.set {w w' : World} {b i : Nat} {u : Value} (h : Wset b w w') (hu : notWB u = true) : Wset b w (w'.setCell ⟨b, i, none⟩ u) := by
  refine ⟨h.1.trans fun b' i' x hx e => ?_, fun i' x e => ?_⟩
  · by_cases hp : (⟨b', i', none⟩ : Addr) = ⟨b, i, none⟩
    · simp only [Addr.mk.injEq] at hp
      obtain ⟨rfl, rfl, _⟩ := hp
      have := h.2 _ _ e
      rw [hx] at this; cases this
    · rw [World.cell?_setCell_other w' ⟨b, i, none⟩ ⟨b', i', none⟩ u (fun e => hp e.symm)]; exact e
  · by_cases hp : i' = i
    · subst hp
      obtain ⟨y, hy⟩ : ∃ y, w'.cell? ⟨b, i', none⟩ = some y := by
        unfold World.cell? World.setCell at e
        unfold World.cell?
        simp only [Array.getElem?_modify, if_true] at e
        generalize w'.heap[b]? = q at e ⊢
        match q, e with
        | some (.cells c t m), e =>
          simp only [Option.map_some, Option.isSome_none, Bool.false_eq_true, if_false] at e ⊢
          rcases Nat.lt_or_ge i' c.size with h1 | h1
          · exact ⟨_, Array.getElem?_eq_getElem h1⟩
          · rw [Array.getElem?_eq_none (by simpa using h1)] at e; cases e
      rw [World.cell?_setCell_same _ _ _ hy] at e
      exact (Option.some.inj e) ▸ hu
    · rw [World.cell?_setCell_other w' ⟨b, i, none⟩ ⟨b, i', none⟩ u (fun e => hp (by simp only [Addr.mk.injEq] at e; exact e.2.1.symm))] at e
      exact h.2 _ _ e
/-- Stores into cells that follow each other. -/
def setsW (w : World) (b o : Nat) : List Value → World
  | [] => w
  | v :: vs => setsW (w.setCell ⟨b, o, none⟩ v) b (o + 1) vs
theorem sets_wset {b : Nat} {w : World} : ∀ {vs : List Value} {o : Nat} {w' : World}, Wset b w w' → vs.all notWB = true → Wset b w (setsW w' b o vs)
  | [], _, _, h, _ => h
  | v :: vs, o, w', h, hv => by
    simp only [List.all_cons, Bool.and_eq_true] at hv
    exact sets_wset (vs := vs) (h.set hv.1) hv.2
theorem sets_wd {b o : Nat} {w : World} {vs : List Value} (h : NoW w b) (hv : vs.all notWB = true) : Wd w (setsW w b o vs) := (sets_wset (.start h) hv).1
theorem sets_other {b b' : Nat} {ob : Obj} : ∀ {vs : List Value} {o : Nat} {w : World}, w.heap[b]? = some ob → b ≠ b' → (setsW w b' o vs).heap[b]? = some ob
  | [], _, _, h, _ => h
  | v :: vs, o, w, h, hne => sets_other (vs := vs) (blk_other v h hne) hne
theorem sets_size {b : Nat} : ∀ {vs : List Value} {o : Nat} {w : World}, (setsW w b o vs).heap.size = w.heap.size
  | [], _, _ => rfl
  | v :: vs, o, w => (sets_size (vs := vs)).trans (by simp [World.setCell])
theorem sets_below {b B : Nat} {w : World} (hb : B ≤ b) : ∀ {vs : List Value} {o : Nat} {w' : World}, Below B w w' → Below B w (setsW w' b o vs)
  | [], _, _, h => h
  | v :: vs, o, w', h => sets_below hb (vs := vs) (h.setCell hb v)
theorem sets_blk {b t : Nat} : ∀ {vs p q r : List Value} {w : World}, w.heap[b]? = some (.cells (p ++ q ++ r).toArray t (0, 0)) → q.length = vs.length → (setsW w b p.length vs).heap[b]? = some (.cells (p ++ vs ++ r).toArray t (0, 0))
  | [], p, q, r, w, h, hl => by
    rw [List.length_eq_zero_iff.1 hl] at h
    exact h
  | v :: vs, p, q, r, w, h, hl => by
    match q, hl with
    | x :: q, hl =>
      have h1 := blk_set (i := p.length) v h
      have e : (p ++ x :: q ++ r).toArray.setIfInBounds p.length v = ((p ++ [v]) ++ q ++ r).toArray := by
        simp [List.setIfInBounds_toArray]
      rw [e] at h1
      have := sets_blk (vs := vs) h1 (by simpa using hl)
      rw [show (p ++ [v]).length = p.length + 1 by simp] at this
      show (setsW (w.setCell ⟨b, p.length, none⟩ v) b (p.length + 1) vs).heap[b]? = _
      simpa using this
/-! Values, opened into cells. -/
theorem RdN.open {w : World} {v : Value} {n : Nat} (h : RdN w v n) : ∃ A k c, v = .slice A k c ∧ RdN w (.slice A k c) n := by
  obtain ⟨A, k, c, rfl⟩ := h.slice
  exact ⟨_, _, _, rfl, h⟩
theorem RdZ.open {w : World} {v : Value} {z : Int} (h : RdZ w v z) : ∃ g A k c, v = .agg #[.bool g, .slice A k c] ∧ RdZ w (.agg #[.bool g, .slice A k c]) z := by
  obtain ⟨a, rfl, ha⟩ := h
  obtain ⟨A, k, c, rfl⟩ := ha.slice
  exact ⟨_, _, _, _, rfl, _, rfl, ha⟩
theorem RdZ.sign {w : World} {g : Bool} {s : Value} {z : Int} (h : RdZ w (.agg #[.bool g, s]) z) : g = decide (z < 0) := by
  obtain ⟨a, e, _⟩ := h
  injection e with e; injection e with e; simp at e; exact e.1
theorem RdZ.abs {w : World} {g : Bool} {s : Value} {z : Int} (h : RdZ w (.agg #[.bool g, s]) z) : RdN w s z.natAbs := by
  obtain ⟨a, e, ha⟩ := h
  injection e with e; injection e with e; simp at e; exact e.2 ▸ ha
theorem RdZ.mk {w : World} {g : Bool} {s : Value} {z : Int} (hg : g = decide (z < 0)) (h : RdN w s z.natAbs) : RdZ w (.agg #[.bool g, s]) z := ⟨s, by rw [hg], h⟩
theorem RdQ.open {w : World} {v : Value} {x : Rat} (h : RdQ w v x) : ∃ g A k c B m d, v = .agg #[.bool g, .slice A k c, .slice B m d] ∧ RdQ w (.agg #[.bool g, .slice A k c, .slice B m d]) x := by
  obtain ⟨a, b, rfl, ha, hb⟩ := h
  obtain ⟨A, k, c, rfl⟩ := ha.slice
  obtain ⟨B, m, d, rfl⟩ := hb.slice
  exact ⟨_, _, _, _, _, _, _, rfl, _, _, rfl, ha, hb⟩
theorem RdQ.num {w : World} {g : Bool} {s t : Value} {x : Rat} (h : RdQ w (.agg #[.bool g, s, t]) x) : RdZ w (.agg #[.bool g, s]) x.num := by
  obtain ⟨a, b, e, ha, hb⟩ := h
  injection e with e; injection e with e; simp at e
  obtain ⟨rfl, rfl, rfl⟩ := e
  exact ⟨_, rfl, ha⟩
theorem RdQ.den {w : World} {g : Bool} {s t : Value} {x : Rat} (h : RdQ w (.agg #[.bool g, s, t]) x) : RdN w t (den1 x.den) := by
  obtain ⟨a, b, e, ha, hb⟩ := h
  injection e with e; injection e with e; simp at e
  obtain ⟨rfl, rfl, rfl⟩ := e
  exact hb
theorem RdQ.mk {w : World} {g : Bool} {s t : Value} {x : Rat} (h : RdZ w (.agg #[.bool g, s]) x.num) (k : RdN w t (den1 x.den)) : RdQ w (.agg #[.bool g, s, t]) x := ⟨_, _, by rw [h.sign], h.abs, k⟩
/-! Short steps. -/
class WdSt (p : Prop) (w w' : World) (q : outParam Prop) : Prop where
  st : Wd w w' → p → q
theorem kW {p q : Prop} {w w' : World} [WdSt p w w' q] (hT : Wd w w') (h : Hid p) : Hid q := WdSt.st hT h.out
instance wdRdN (w w' : World) (v : Value) (n : Nat) : WdSt (RdN w v n) w w' (RdN w' v n) := ⟨fun hT h => h.wd hT⟩
instance wdRdZ (w w' : World) (v : Value) (z : Int) : WdSt (RdZ w v z) w w' (RdZ w' v z) := ⟨fun hT h => h.wd hT⟩
instance wdRdQ (w w' : World) (v : Value) (x : Rat) : WdSt (RdQ w v x) w w' (RdQ w' v x) := ⟨fun hT h => h.wd hT⟩
theorem st_al0 (w : World) (cs : Array Value) (t : TypeId) : ∃ W, Hid (W = w.alloc (.cells cs t)) ∧ Hid (W.heap[w.heap.size]? = some (.cells cs t (0, 0))) ∧ Hid (W.heap.size = w.heap.size + 1) ∧ Below w.heap.size w W :=
  ⟨_, rfl, heap_alloc_new w _, by show _ = _; simp, (Below.refl _ _).alloc (Nat.le_refl _) _⟩
theorem st_alk {w w0 : World} (k k' : Nat) (cs : Array Value) (t : TypeId) (hs : Hid (w.heap.size = w0.heap.size + k)) (hk : k' = k + 1) :
    ∃ W, Hid (W = w.alloc (.cells cs t)) ∧ Hid (W.heap[w0.heap.size + k]? = some (.cells cs t (0, 0))) ∧ Hid (W.heap.size = w0.heap.size + k') ∧ Below w.heap.size w W := by
  refine ⟨_, rfl, ?_, ?_, (Below.refl _ _).alloc (Nat.le_refl _) _⟩
  · show _ = _; rw [← hs.out]; exact heap_alloc_new w _
  · show _ = _; have := hs.out; simp; omega
theorem kB {w w' : World} {b : Nat} {o : Obj} (h : Hid (w.heap[b]? = some o)) (hb : Below w.heap.size w w') : Hid (w'.heap[b]? = some o) := blk_below h hb
theorem kU {a w w' : World} (h : Hid (Below a.heap.size a w)) (k : Below w.heap.size w w') : Hid (Below a.heap.size a w') := h.out.trans (k.mono h.out.size)
theorem kM1 {w W : World} {b o : Nat} {v : Value} (h : Hid (W = w.setCell ⟨b, o, none⟩ v)) : W = setsW w b o [v] := h
theorem kN {w W : World} {b o t : Nat} {cs : Array Value} {vs : List Value} (hS : W = setsW w b o vs) (h : Hid (w.heap[b]? = some (.cells cs t (0, 0)))) (h1 : cs.toList.all notWB = true) (h2 : vs.all notWB = true) : Wd w W := by
  rw [hS]; exact sets_wd (NoW.of h.out h1) h2
theorem kO {w W : World} {b b' o : Nat} {ob : Obj} {vs : List Value} (hS : W = setsW w b' o vs) (h : Hid (w.heap[b]? = some ob)) (hne : b ≠ b') : Hid (W.heap[b]? = some ob) := by
  rw [hS]; exact sets_other h.out hne
def putL (o : Nat) (vs cs : List Value) : List Value := cs.take o ++ vs ++ cs.drop (o + vs.length)
theorem kP {w W : World} {b o t : Nat} {vs cs ds : List Value} (hS : W = setsW w b o vs) (h : Hid (w.heap[b]? = some (.cells cs.toArray t (0, 0)))) (h1 : Nat.ble (o + vs.length) cs.length = true) (h2 : putL o vs cs = ds) :
    Hid (W.heap[b]? = some (.cells ds.toArray t (0, 0))) := by
  have h1 := Nat.le_of_ble_eq_true h1
  have e : cs = cs.take o ++ (cs.drop o).take vs.length ++ cs.drop (o + vs.length) := by
    rw [← List.drop_drop, List.append_assoc, List.take_append_drop, List.take_append_drop]
  have h' := h.out
  rw [e] at h'
  have := sets_blk (vs := vs) h' (by rw [List.length_take, List.length_drop]; omega)
  rw [List.length_take, Nat.min_eq_left (by omega)] at this
  show _ = _
  rw [hS, ← h2]
  exact this
theorem kS {a w W : World} {b o : Nat} {vs : List Value} (hS : W = setsW w b o vs) (hle : Hid (a.heap.size ≤ b)) (h : Hid (Below a.heap.size a w)) : Hid (Below a.heap.size a W) := by
  show Below _ _ _; rw [hS]; exact sets_below hle.out h.out
theorem kZ {w W : World} {b o : Nat} {vs : List Value} (hS : W = setsW w b o vs) : Hid (W.heap.size = w.heap.size) := by show _ = _; rw [hS]; exact sets_size
theorem kC {w : World} {b t : Nat} {cs : List Value} {v : Value} (h : Hid (w.heap[b]? = some (.cells cs.toArray t (0, 0)))) (i : Nat) (hv : cs[i]? = some v) : w.cell? ⟨b, i, none⟩ = some v := by
  rw [blk_cell h.out]; simpa using hv
theorem kD {w : World} {b t : Nat} {cs : Array Value} (h : Hid (w.heap[b]? = some (.cells cs t (0, 0)))) (i : Nat) : w.cell? ⟨b, i, none⟩ = cs[i]? := blk_cell h.out i
theorem kF {w : World} {b t : Nat} {cs : Array Value} (h : Hid (w.heap[b]? = some (.cells cs t (0, 0)))) (i : Nat) : w.frozen? ⟨b, i, none⟩ = false := blk_free h.out i
end Go.Proofs.YtodckaioeomccaaGreat
namespace Go.Proofs.YtodckaioeomccaaGreat
open Go.RowKit
set_option linter.unusedVariables false
theorem kV {p q : Prop} {w w' : World} [WdSt p w w' q] (hb : Below w.heap.size w w') (h : Hid p) : Hid q := kW (Wd.of_below hb) h
section
variable {P : Program} {ops : Array Oper} {Q : Exit → Act → World → Prop} {S : World → Prop}
theorem tk0 {i : Nat} {o : Oper} {rest : List (Nat × Oper)} {a b : Act} {w : World} {v : Value} (hg : o.guard = none := by rfl) (hQ : ∀ c a w, Q (.panic c) (a.put o.dst v) w → Q (.panic c) a w := by exact fun _ _ _ h => h) (hok : okTake ops (i, o) rest = true := by kernel_rfl)
    (hv : ∀ w', S w' → (execOp a.eval o).run P w' = .ok (.value v) w' := by intro w' hSw; (try dsimp only at hSw); go_simp; (try with_reducible rfl); first | done | fail)
    (hb : a.put o.dst v = b := by first | (simp only [Act.put, List.setIfInBounds_toArray, List.set_cons_zero, List.set_cons_succ]; rfl) | rfl) (h : Seq P ops Q S rest b w) : Seq P ops Q S ((i, o) :: rest) a w := by
  subst hb
  exact seq_take0 hg hQ hok hv h
theorem tkG {i : Nat} {o : Oper} {rest : List (Nat × Oper)} {a b : Act} {w : World} {v : Value} {g d : Nat} {c : Bool} {u : Value} (hg : o.guard = some (g, c) := by rfl) (hd : (ops[g]?).bind (·.dst) = some d := by rfl) (hu : a.tmps[d]? = some u := by rfl) (hi : isB u c = true := by first | rfl | (go_simp; first | done | fail))
    (hQ : ∀ c a w, Q (.panic c) (a.put o.dst v) w → Q (.panic c) a w := by exact fun _ _ _ h => h) (hok : okTake ops (i, o) rest = true := by kernel_rfl) (hv : ∀ w', S w' → (execOp a.eval o).run P w' = .ok (.value v) w' := by intro w' hSw; (try dsimp only at hSw); go_simp; (try with_reducible rfl); first | done | fail)
    (hb : a.put o.dst v = b := by first | (simp only [Act.put, List.setIfInBounds_toArray, List.set_cons_zero, List.set_cons_succ]; rfl) | rfl) (h : Seq P ops Q S rest b w) : Seq P ops Q S ((i, o) :: rest) a w := by
  subst hb
  exact seq_takeG hg hd hu hi hQ hok hv h
theorem skG {i : Nat} {o : Oper} {rest : List (Nat × Oper)} {a b : Act} {w : World} {g d : Nat} {c : Bool} {u : Value} (hg : o.guard = some (g, c) := by rfl) (hd : (ops[g]?).bind (·.dst) = some d := by rfl) (hu : a.tmps[d]? = some u := by rfl) (hi : isB u c = false := by first | rfl | (go_simp; first | done | fail))
    (hQ : ∀ c a w, Q (.panic c) (a.put o.dst undef) w → Q (.panic c) a w := by exact fun _ _ _ h => h) (hok : okTake ops (i, o) rest = true := by kernel_rfl)
    (hb : a.put o.dst undef = b := by first | (simp only [Act.put, List.setIfInBounds_toArray, List.set_cons_zero, List.set_cons_succ]; rfl) | rfl) (h : Seq P ops Q S rest b w) : Seq P ops Q S ((i, o) :: rest) a w := by
  subst hb
  exact seq_skipG hg hd hu hi hQ hok h
theorem sop {i : Nat} {o : Oper} {rest : List (Nat × Oper)} {a : Act} {w : World} (hok : okOnly ops (i, o) rest = true := by kernel_rfl) (hw : Region.wanted o (yielded ops a.tmps) = true := by rfl)
    (h : ∀ K : Act → World → Prop, Shut (∀ a w, S w → Seq P ops Q S rest a w → K a w) → Oper.wp P o a w K Q) : Seq P ops Q S ((i, o) :: rest) a w := seq_op hok hw h
theorem plq {l m : List (Nat × Oper)} {a : Act} {w : World} (n : Nat) (hm : pull n l = m := by first | (simp only [places, pull]; rfl) | rfl) (h : Seq P ops Q S m a w) : Seq P ops Q S l a w := by
  subst hm
  exact seq_pull n h
theorem ckk {rest : List (Nat × Oper)} {a b : Act} {w : World} {K : Act → World → Prop} (hK : Shut (∀ a w, S w → Seq P ops Q S rest a w → K a w)) (hS : S w) (hb : a = b := by first | (simp only [Act.put, List.setIfInBounds_toArray, List.set_cons_zero, List.set_cons_succ]; rfl) | rfl) (h : Seq P ops Q S rest b w) : K a w := by
  subst hb
  exact hK.out a w hS h
end
end Go.Proofs.YtodckaioeomccaaGreat
namespace Go.Proofs.YtodckaioeomccaaGreat
open Go.RowKit
set_option linter.unusedVariables false
set_option linter.unusedSimpArgs false
set_option maxRecDepth 100000
set_option maxHeartbeats 4000000
theorem signed_not (z : Int) : signed (!decide (z < 0)) z.natAbs = -z := by
  unfold signed
  by_cases h : z < 0
  · simp [h]; omega
  · simp [h]; omega
theorem signed_ne (z y : Int) : signed (decide (z < 0) != decide (y < 0)) (z.natAbs * y.natAbs) = z * y := by
  unfold signed
  rw [← Int.natAbs_mul]
  by_cases h : z < 0 <;> by_cases k : y < 0
  · have := Int.mul_pos_of_neg_of_neg h k; simp [h, k]; omega
  · have := Int.mul_nonpos_of_nonpos_of_nonneg (a := z) (b := y) (by omega) (by omega); simp [h, k]; omega
  · have := Int.mul_nonpos_of_nonneg_of_nonpos (a := z) (b := y) (by omega) (by omega); simp [h, k]; omega
  · have := Int.mul_nonneg (a := z) (b := y) (by omega) (by omega); simp [h, k]; omega
theorem QS.neg {k : Nat} {x : Rat} (h : QS k x) : QS k (-x) := ⟨by show dl (-x.num).natAbs ≤ k; rw [Int.natAbs_neg]; exact h.1, h.2⟩
theorem isign_any (v : Value) (z : Int) (w : World) (hv : RdZ w v z) : Calls Tryz.prog 197 #[v] w fun e w' => e = .returned (.int .i64 (Int.sign z)) ∧ Below w.heap.size w w' := by
  obtain ⟨g, A, k, c, rfl, hv⟩ := hv.open
  have hg := hv.sign
  have hk : dl z.natAbs = k := by
    obtain ⟨A', n', c', e, e1, _⟩ := RdW.open_ hv.abs
    simp only [Value.slice.injEq] at e
    obtain ⟨rfl, rfl, rfl⟩ := e
    exact e1
  clear hv
  rcases Int.lt_trichotomy z 0 with h | h | h
  · have hgt : g = true := by rw [hg]; exact decide_eq_true h
    rw [Int.sign_eq_neg_one_of_neg h]
    subst hgt
    clear hg hk h
    go_enter Tryz.func197, Tryz.ntmps197
    go_wp2_with fail
    go_ret
    exact ⟨rfl, (Below.refl _ w).alloc (Nat.le_refl _) _⟩
  · have hgt : g = false := by rw [hg]; exact decide_eq_false (by omega)
    have hk0 : k = 0 := by rw [← hk, h]; exact dl_zero
    subst hgt; subst hk0
    rw [h]
    clear hg hk h
    go_enter Tryz.func197, Tryz.ntmps197
    go_wp2_with fail
    go_ret
    exact ⟨rfl, (Below.refl _ w).alloc (Nat.le_refl _) _⟩
  · have hgt : g = false := by rw [hg]; exact decide_eq_false (by omega)
    have hk0 : 0 < k := by rw [← hk]; exact dl_pos (by omega)
    rw [Int.sign_eq_one_of_pos h]
    subst hgt
    clear hg hk h
    go_enter Tryz.func197, Tryz.ntmps197
    go_wp2_with fail
    go_ret
    exact ⟨rfl, (Below.refl _ w).alloc (Nat.le_refl _) _⟩
theorem iminus_any (v : Value) (z : Int) (w : World) (hv : RdZ w v z) :
    Calls Tryz.prog 220 #[v] w fun e w' => (∃ v', e = .returned v' ∧ RdZ w' v' (-z)) ∧ Below w.heap.size w w' := by
  have HSG : Hid (∀ g, g = decide (z < 0) → signed (!g) z.natAbs = -z) := fun g h => by rw [h]; exact signed_not z
  obtain ⟨gp0a, Ap0a, kp0a, cp0a, rfl, hv⟩ := hv.open
  have HX0 := Lib.hid hv
  clear hv
  go_enter Tryz.func220, Tryz.ntmps220
  obtain ⟨W1, HW1, HB2, HSZ_W1, j1⟩ := st_al0 w #[.bool gp0a, .slice Ap0a kp0a cp0a] 27
  have HBw := Lib.hid j1
  obtain ⟨W3, HW3, HB4, HSZ_W3, j2⟩ := st_alk 1 2 #[.bool false, .slice none 0 0] 27 HSZ_W1 rfl
  have HLE_B4 : Hid (w.heap.size ≤ w.heap.size + 1) := by show _ ≤ _; have hlt := HBw.out.size; have := HSZ_W1.out; omega
  go_wp2_with fail
  rw [← HW1.out, ← HW3.out]
  replace HX0 := kV j2 (kV j1 HX0)
  refine (whole_any _ _ z.natAbs _ HX0.out.abs).mono ?_
  rintro e w1 ⟨⟨vx, rfl, hr⟩, j1c⟩
  obtain ⟨g1a, A1a, k1a, c1a, rfl, hr⟩ := hr.open
  have HR1 := Lib.hid hr
  clear hr
  rw [HSG.out _ HX0.out.sign] at HR1
  replace HB4 := kB HB4 j1c
  have c5 := kC HB4 0 rfl
  have c6 := kF HB4 0
  have c7 := kC HB4 1 rfl
  have c8 := kF HB4 1
  obtain ⟨W9, HW9⟩ : ∃ W, Hid (W = ((w1.setCell ⟨w.heap.size + 1, 0, none⟩ (.bool g1a)).setCell ⟨w.heap.size + 1, 1, none⟩ (.slice A1a k1a c1a))) := ⟨_, rfl⟩
  have SW9 : Hid (W9 = setsW w1 (w.heap.size + 1) 0 [.bool g1a, .slice A1a k1a c1a]) := HW9.out
  have TW9 := kN (SW9.out) HB4 rfl rfl
  replace HB4 := kP (ds := [.bool g1a, .slice A1a k1a c1a]) (SW9.out) HB4 rfl rfl
  go_wp2_with fail
  rw [← HW9.out]
  clear c5 c6 c7 c8
  have c10 := kC HB4 0 rfl
  have c11 := kC HB4 1 rfl
  replace HR1 := kW TW9 HR1
  replace HBw := kS (SW9.out) HLE_B4 (kU (kU HBw j2) j1c)
  exact bodyPost_ret (v := .agg #[.bool g1a, .slice A1a k1a c1a]) (by simp [results, Tryz.results220, go_sem, c10, c11]) rfl ⟨⟨_, rfl, HR1.out⟩, HBw.out⟩
theorem itimes_any (v u : Value) (z y : Int) (w : World) (hv : RdZ w v z) (hu : RdZ w u y) (hz6 : dl z.natAbs ≤ 450000) (hy6 : dl y.natAbs ≤ 450000) :
    Calls Tryz.prog 168 #[v, u] w fun e w' => (∃ v', e = .returned v' ∧ RdZ w' v' (z * y)) ∧ Below w.heap.size w w' := by
  have HSG : Hid (∀ g k, g = decide (z < 0) → k = decide (y < 0) → signed (!g == k) (z.natAbs * y.natAbs) = z * y) := fun g k h h2 => by rw [h, h2]; exact signed_ne z y
  obtain ⟨gp0a, Ap0a, kp0a, cp0a, rfl, hv⟩ := hv.open
  have HX0 := Lib.hid hv
  clear hv
  obtain ⟨gp1a, Ap1a, kp1a, cp1a, rfl, hu⟩ := hu.open
  have HX1 := Lib.hid hu
  clear hu
  go_enter Tryz.func168, Tryz.ntmps168
  obtain ⟨W1, HW1, HB2, HSZ_W1, j1⟩ := st_al0 w #[.bool gp0a, .slice Ap0a kp0a cp0a] 27
  have HBw := Lib.hid j1
  obtain ⟨W3, HW3, HB4, HSZ_W3, j2⟩ := st_alk 1 2 #[.bool gp1a, .slice Ap1a kp1a cp1a] 27 HSZ_W1 rfl
  obtain ⟨W5, HW5, HB6, HSZ_W5, j3⟩ := st_alk 2 3 #[.bool false, .slice none 0 0] 27 HSZ_W3 rfl
  have HNE_B2_B6 : Hid (w.heap.size ≠ w.heap.size + 2) := by show _ ≠ _; have hlt := blk_lt HB2.out; have := j2.size; have := HSZ_W3.out; omega
  have HNE_B4_B6 : Hid (w.heap.size + 1 ≠ w.heap.size + 2) := by show _ ≠ _; have hlt := blk_lt HB4.out; have := HSZ_W3.out; omega
  have HLE_B6 : Hid (w.heap.size ≤ w.heap.size + 2) := by show _ ≤ _; have hlt := HBw.out.size; have := j2.size; have := HSZ_W3.out; omega
  go_wp2_with fail
  rw [← HW1.out, ← HW3.out, ← HW5.out]
  obtain ⟨W7, hW7⟩ : ∃ W, W = W5.drew := ⟨_, rfl⟩
  have j4 : Below W5.heap.size W5 W7 := by rw [hW7]; exact (Below.refl _ _).drew
  replace HB2 := kB (kB (kB HB2 j2) j3) j4
  replace HB4 := kB (kB HB4 j3) j4
  refine seq_start (S := fun w' => w'.cell? ⟨w.heap.size, 0, none⟩ = some (.bool gp0a) ∧ w'.cell? ⟨w.heap.size + 1, 0, none⟩ = some (.bool gp1a) ∧ w'.cell? ⟨w.heap.size, 1, none⟩ = some (.slice Ap0a kp0a cp0a) ∧ w'.cell? ⟨w.heap.size + 1, 1, none⟩ = some (.slice Ap1a kp1a cp1a)) (by kernel_rfl) (by kernel_rfl) (by rw [← hW7]; exact ⟨kD HB2 0, kD HB4 0, kD HB2 1, kD HB4 1⟩) ?_
  rw [← hW7]
  clear hW7
  iterate 9 refine tk0 (h := ?_)
  refine sop (h := fun K9 hK9 => ?_)
  go_simp
  replace HX0 := kV j4 (kV j3 (kV j2 (kV j1 HX0)))
  replace HX1 := kV j4 (kV j3 (kV j2 (kV j1 HX1)))
  refine (times_any _ _ z.natAbs y.natAbs _ HX0.out.abs HX1.out.abs (by omega) (by omega)).mono ?_
  rintro e w1 ⟨⟨vx, rfl, hr⟩, j1c⟩
  obtain ⟨A1, k1, c1, rfl, hr⟩ := hr.open
  have HR1 := Lib.hid hr
  clear hr
  replace HB2 := kB HB2 j1c
  replace HB4 := kB HB4 j1c
  refine ckk hK9 (by exact ⟨kD HB2 0, kD HB4 0, kD HB2 1, kD HB4 1⟩) (h := ?_)
  clear hK9 K9
  refine sop (h := fun K9 hK9 => ?_)
  go_simp
  refine (whole_any _ _ _ _ HR1.out).mono ?_
  rintro e w2 ⟨⟨vx, rfl, hr⟩, j2c⟩
  obtain ⟨g2a, A2a, k2a, c2a, rfl, hr⟩ := hr.open
  have HR2 := Lib.hid hr
  clear hr
  replace HX0 := kV j2c (kV j1c HX0)
  replace HX1 := kV j2c (kV j1c HX1)
  rw [HSG.out _ _ HX0.out.sign HX1.out.sign] at HR2
  replace HB2 := kB HB2 j2c
  replace HB4 := kB HB4 j2c
  refine ckk hK9 (by exact ⟨kD HB2 0, kD HB4 0, kD HB2 1, kD HB4 1⟩) (h := ?_)
  clear hK9 K9
  refine sop (h := fun K9 hK9 => ?_)
  replace HB6 := kB (kB (kB HB6 j4) j1c) j2c
  have c8 := kC HB6 0 rfl
  have c9 := kF HB6 0
  have c10 := kC HB6 1 rfl
  have c11 := kF HB6 1
  go_simp
  obtain ⟨W12, HW12⟩ : ∃ W, Hid (W = ((w2.setCell ⟨w.heap.size + 2, 0, none⟩ (.bool g2a)).setCell ⟨w.heap.size + 2, 1, none⟩ (.slice A2a k2a c2a))) := ⟨_, rfl⟩
  have SW12 : Hid (W12 = setsW w2 (w.heap.size + 2) 0 [.bool g2a, .slice A2a k2a c2a]) := HW12.out
  have TW12 := kN (SW12.out) HB6 rfl rfl
  replace HB6 := kP (ds := [.bool g2a, .slice A2a k2a c2a]) (SW12.out) HB6 rfl rfl
  rw [← HW12.out]
  replace HB2 := kO (SW12.out) HB2 HNE_B2_B6.out
  replace HB4 := kO (SW12.out) HB4 HNE_B4_B6.out
  refine ckk hK9 (by exact ⟨kD HB2 0, kD HB4 0, kD HB2 1, kD HB4 1⟩) (h := ?_)
  clear hK9 K9 c8 c9 c10 c11
  refine seq_done (by kernel_rfl) ?_
  go_wp2_with fail
  have c13 := kC HB6 0 rfl
  have c14 := kC HB6 1 rfl
  replace HR2 := kW TW12 HR2
  replace HBw := kS (SW12.out) HLE_B6 (kU (kU (kU (kU (kU HBw j2) j3) j4) j1c) j2c)
  exact bodyPost_ret (v := .agg #[.bool g2a, .slice A2a k2a c2a]) (by simp [results, Tryz.results168, go_sem, c13, c14]) rfl ⟨⟨_, rfl, HR2.out⟩, HBw.out⟩
theorem ifold_any (v : Value) (z : Int) (n : Nat) (w : World) (hv : RdZ w v z) (hz6 : dl z.natAbs ≤ 450000) (hn : n < B64) :
    Calls Tryz.prog 219 #[v, .int .u64 (n : Int)] w fun e w' => (∃ v', e = .returned v' ∧ RdZ w' v' (z * n)) ∧ Below w.heap.size w w' := by
  have HNB := Lib.hid hn
  clear hn
  obtain ⟨gp0a, Ap0a, kp0a, cp0a, rfl, hv⟩ := hv.open
  have HX0 := Lib.hid hv
  clear hv
  go_enter Tryz.func219, Tryz.ntmps219
  obtain ⟨W1, HW1, HB2, HSZ_W1, j1⟩ := st_al0 w #[.bool gp0a, .slice Ap0a kp0a cp0a] 27
  have HBw := Lib.hid j1
  obtain ⟨W3, HW3, HB4, HSZ_W3, j2⟩ := st_alk 1 2 #[.bool false, .slice none 0 0] 27 HSZ_W1 rfl
  have HNE_B2_B4 : Hid (w.heap.size ≠ w.heap.size + 1) := by show _ ≠ _; have hlt := blk_lt HB2.out; have := HSZ_W1.out; omega
  have HLE_B4 : Hid (w.heap.size ≤ w.heap.size + 1) := by show _ ≤ _; have hlt := HBw.out.size; have := HSZ_W1.out; omega
  go_wp2_with fail
  rw [← HW1.out, ← HW3.out]
  obtain ⟨W5, hW5⟩ : ∃ W, W = W3.drew := ⟨_, rfl⟩
  have j3 : Below W3.heap.size W3 W5 := by rw [hW5]; exact (Below.refl _ _).drew
  replace HB2 := kB (kB HB2 j2) j3
  refine seq_start (S := fun w' => w'.cell? ⟨w.heap.size, 0, none⟩ = some (.bool gp0a) ∧ w'.cell? ⟨w.heap.size, 1, none⟩ = some (.slice Ap0a kp0a cp0a)) (by kernel_rfl) (by kernel_rfl) (by rw [← hW5]; exact ⟨kD HB2 0, kD HB2 1⟩) ?_
  rw [← hW5]
  clear hW5
  iterate 2 refine tk0 (h := ?_)
  refine sop (h := fun K9 hK9 => ?_)
  go_simp
  refine (word_any n _ HNB.out).mono ?_
  rintro e w1 ⟨⟨vx, rfl, hr⟩, j1c⟩
  obtain ⟨A1, k1, c1, rfl, hr⟩ := hr.open
  have HR1 := Lib.hid hr
  clear hr
  replace HB2 := kB HB2 j1c
  refine ckk hK9 (by exact ⟨kD HB2 0, kD HB2 1⟩) (h := ?_)
  clear hK9 K9
  refine sop (h := fun K9 hK9 => ?_)
  go_simp
  replace HX0 := kV j1c (kV j3 (kV j2 (kV j1 HX0)))
  refine (scaled_any _ _ z n _ HX0.out HR1.out (by omega) (by have := dl_small HNB.out; omega)).mono ?_
  rintro e w2 ⟨⟨vx, rfl, hr⟩, j2c⟩
  obtain ⟨g2a, A2a, k2a, c2a, rfl, hr⟩ := hr.open
  have HR2 := Lib.hid hr
  clear hr
  replace HB2 := kB HB2 j2c
  refine ckk hK9 (by exact ⟨kD HB2 0, kD HB2 1⟩) (h := ?_)
  clear hK9 K9
  refine sop (h := fun K9 hK9 => ?_)
  replace HB4 := kB (kB (kB HB4 j3) j1c) j2c
  have c6 := kC HB4 0 rfl
  have c7 := kF HB4 0
  have c8 := kC HB4 1 rfl
  have c9 := kF HB4 1
  go_simp
  obtain ⟨W10, HW10⟩ : ∃ W, Hid (W = ((w2.setCell ⟨w.heap.size + 1, 0, none⟩ (.bool g2a)).setCell ⟨w.heap.size + 1, 1, none⟩ (.slice A2a k2a c2a))) := ⟨_, rfl⟩
  have SW10 : Hid (W10 = setsW w2 (w.heap.size + 1) 0 [.bool g2a, .slice A2a k2a c2a]) := HW10.out
  have TW10 := kN (SW10.out) HB4 rfl rfl
  replace HB4 := kP (ds := [.bool g2a, .slice A2a k2a c2a]) (SW10.out) HB4 rfl rfl
  rw [← HW10.out]
  replace HB2 := kO (SW10.out) HB2 HNE_B2_B4.out
  refine ckk hK9 (by exact ⟨kD HB2 0, kD HB2 1⟩) (h := ?_)
  clear hK9 K9 c6 c7 c8 c9
  refine seq_done (by kernel_rfl) ?_
  go_wp2_with fail
  have c11 := kC HB4 0 rfl
  have c12 := kC HB4 1 rfl
  replace HR2 := kW TW10 HR2
  replace HBw := kS (SW10.out) HLE_B4 (kU (kU (kU (kU HBw j2) j3) j1c) j2c)
  exact bodyPost_ret (v := .agg #[.bool g2a, .slice A2a k2a c2a]) (by simp [results, Tryz.results219, go_sem, c11, c12]) rfl ⟨⟨_, rfl, HR2.out⟩, HBw.out⟩
theorem sign_any (v : Value) (x : Rat) (w : World) (hv : RdQ w v x) :
    Calls Tryz.prog 118 #[v] w fun e w' => e = .returned (.int .i64 (Int.sign x.num)) ∧ Below w.heap.size w w' := by
  obtain ⟨gp0a, Ap0a, kp0a, cp0a, Ap0b, kp0b, cp0b, rfl, hv⟩ := hv.open
  have HX0 := Lib.hid hv
  clear hv
  go_enter Tryz.func118, Tryz.ntmps118
  obtain ⟨W1, HW1, HB2, HSZ_W1, j1⟩ := st_al0 w #[.bool gp0a, .slice Ap0a kp0a cp0a, .slice Ap0b kp0b cp0b] 32
  have HBw := Lib.hid j1
  go_wp2_with fail
  rw [← HW1.out]
  replace HX0 := kV j1 HX0
  refine (isign_any _ x.num _ HX0.out.num).mono ?_
  rintro e w1 ⟨rfl, j1c⟩
  go_wp2_with fail
  go_ret
  replace HBw := kU HBw j1c
  exact ⟨rfl, HBw.out⟩
theorem neg_any (v : Value) (x : Rat) (w : World) (hv : RdQ w v x) :
    Calls Tryz.prog 167 #[v] w fun e w' => (∃ v', e = .returned v' ∧ RdQ w' v' (-x)) ∧ Below w.heap.size w w' := by
  obtain ⟨gp0a, Ap0a, kp0a, cp0a, Ap0b, kp0b, cp0b, rfl, hv⟩ := hv.open
  have HX0 := Lib.hid hv
  clear hv
  go_enter Tryz.func167, Tryz.ntmps167
  obtain ⟨W1, HW1, HB2, HSZ_W1, j1⟩ := st_al0 w #[.bool gp0a, .slice Ap0a kp0a cp0a, .slice Ap0b kp0b cp0b] 32
  have HBw := Lib.hid j1
  obtain ⟨W3, HW3, HB4, HSZ_W3, j2⟩ := st_alk 1 2 #[.bool false, .slice none 0 0, .slice none 0 0] 32 HSZ_W1 rfl
  have HNE_B2_B4 : Hid (w.heap.size ≠ w.heap.size + 1) := by show _ ≠ _; have hlt := blk_lt HB2.out; have := HSZ_W1.out; omega
  have HLE_B4 : Hid (w.heap.size ≤ w.heap.size + 1) := by show _ ≤ _; have hlt := HBw.out.size; have := HSZ_W1.out; omega
  go_wp2_with fail
  rw [← HW1.out, ← HW3.out]
  obtain ⟨W5, hW5⟩ : ∃ W, W = W3.drew := ⟨_, rfl⟩
  have j3 : Below W3.heap.size W3 W5 := by rw [hW5]; exact (Below.refl _ _).drew
  replace HB2 := kB (kB HB2 j2) j3
  refine seq_start (S := fun w' => w'.cell? ⟨w.heap.size, 0, none⟩ = some (.bool gp0a) ∧ w'.cell? ⟨w.heap.size, 1, none⟩ = some (.slice Ap0a kp0a cp0a) ∧ w'.cell? ⟨w.heap.size, 2, none⟩ = some (.slice Ap0b kp0b cp0b)) (by kernel_rfl) (by kernel_rfl) (by rw [← hW5]; exact ⟨kD HB2 0, kD HB2 1, kD HB2 2⟩) ?_
  rw [← hW5]
  clear hW5
  iterate 2 refine tk0 (h := ?_)
  iterate 2 (refine plq 1 (h := ?_); refine tk0 (h := ?_))
  refine sop (h := fun K9 hK9 => ?_)
  go_simp
  replace HX0 := kV j3 (kV j2 (kV j1 HX0))
  refine (iminus_any _ x.num _ HX0.out.num).mono ?_
  rintro e w1 ⟨⟨vx, rfl, hr⟩, j1c⟩
  obtain ⟨g1a, A1a, k1a, c1a, rfl, hr⟩ := hr.open
  have HR1 := Lib.hid hr
  clear hr
  replace HB2 := kB HB2 j1c
  refine ckk hK9 (by exact ⟨kD HB2 0, kD HB2 1, kD HB2 2⟩) (h := ?_)
  clear hK9 K9
  refine tk0 (h := ?_)
  refine sop (h := fun K9 hK9 => ?_)
  replace HB4 := kB (kB HB4 j3) j1c
  have c6 := kC HB4 0 rfl
  have c7 := kF HB4 0
  have c8 := kC HB4 1 rfl
  have c9 := kF HB4 1
  have c10 := kC HB4 2 rfl
  have c11 := kF HB4 2
  go_simp
  obtain ⟨W12, HW12⟩ : ∃ W, Hid (W = (((w1.setCell ⟨w.heap.size + 1, 0, none⟩ (.bool g1a)).setCell ⟨w.heap.size + 1, 1, none⟩ (.slice A1a k1a c1a)).setCell ⟨w.heap.size + 1, 2, none⟩ (.slice Ap0b kp0b cp0b))) := ⟨_, rfl⟩
  have SW12 : Hid (W12 = setsW w1 (w.heap.size + 1) 0 [.bool g1a, .slice A1a k1a c1a, .slice Ap0b kp0b cp0b]) := HW12.out
  have TW12 := kN (SW12.out) HB4 rfl rfl
  replace HB4 := kP (ds := [.bool g1a, .slice A1a k1a c1a, .slice Ap0b kp0b cp0b]) (SW12.out) HB4 rfl rfl
  rw [← HW12.out]
  replace HB2 := kO (SW12.out) HB2 HNE_B2_B4.out
  refine ckk hK9 (by exact ⟨kD HB2 0, kD HB2 1, kD HB2 2⟩) (h := ?_)
  clear hK9 K9 c6 c7 c8 c9 c10 c11
  refine seq_done (by kernel_rfl) ?_
  go_wp2_with fail
  have c13 := kC HB4 0 rfl
  have c14 := kC HB4 1 rfl
  have c15 := kC HB4 2 rfl
  replace HR1 := kW TW12 HR1
  replace HX0 := kW TW12 (kV j1c HX0)
  replace HBw := kS (SW12.out) HLE_B4 (kU (kU (kU HBw j2) j3) j1c)
  exact bodyPost_ret (v := .agg #[.bool g1a, .slice A1a k1a c1a, .slice Ap0b kp0b cp0b]) (by simp [results, Tryz.results167, go_sem, c13, c14, c15]) rfl ⟨⟨_, rfl, (RdQ.mk (x := -x) HR1.out HX0.out.den)⟩, HBw.out⟩
theorem sub_any (v u : Value) (x y : Rat) (w : World) (hv : RdQ w v x) (hu : RdQ w u y) (hx6 : QS 100000 x) (hy6 : QS 100000 y) :
    Calls Tryz.prog 78 #[v, u] w fun e w' => (∃ v', e = .returned v' ∧ RdQ w' v' (x - y)) ∧ Below w.heap.size w w' := by
  have HQX := Lib.hid hx6
  have HQY := Lib.hid hy6
  clear hx6 hy6
  obtain ⟨gp0a, Ap0a, kp0a, cp0a, Ap0b, kp0b, cp0b, rfl, hv⟩ := hv.open
  have HX0 := Lib.hid hv
  clear hv
  obtain ⟨gp1a, Ap1a, kp1a, cp1a, Ap1b, kp1b, cp1b, rfl, hu⟩ := hu.open
  have HX1 := Lib.hid hu
  clear hu
  go_enter Tryz.func78, Tryz.ntmps78
  obtain ⟨W1, HW1, HB2, HSZ_W1, j1⟩ := st_al0 w #[.bool gp0a, .slice Ap0a kp0a cp0a, .slice Ap0b kp0b cp0b] 32
  have HBw := Lib.hid j1
  obtain ⟨W3, HW3, HB4, HSZ_W3, j2⟩ := st_alk 1 2 #[.bool gp1a, .slice Ap1a kp1a cp1a, .slice Ap1b kp1b cp1b] 32 HSZ_W1 rfl
  obtain ⟨W5, HW5, HB6, HSZ_W5, j3⟩ := st_alk 2 3 #[.bool false, .slice none 0 0, .slice none 0 0] 32 HSZ_W3 rfl
  have HNE_B2_B6 : Hid (w.heap.size ≠ w.heap.size + 2) := by show _ ≠ _; have hlt := blk_lt HB2.out; have := j2.size; have := HSZ_W3.out; omega
  have HNE_B4_B6 : Hid (w.heap.size + 1 ≠ w.heap.size + 2) := by show _ ≠ _; have hlt := blk_lt HB4.out; have := HSZ_W3.out; omega
  have HLE_B6 : Hid (w.heap.size ≤ w.heap.size + 2) := by show _ ≤ _; have hlt := HBw.out.size; have := j2.size; have := HSZ_W3.out; omega
  go_wp2_with fail
  rw [← HW1.out, ← HW3.out, ← HW5.out]
  obtain ⟨W7, hW7⟩ : ∃ W, W = W5.drew := ⟨_, rfl⟩
  have j4 : Below W5.heap.size W5 W7 := by rw [hW7]; exact (Below.refl _ _).drew
  replace HB2 := kB (kB (kB HB2 j2) j3) j4
  replace HB4 := kB (kB HB4 j3) j4
  refine seq_start (S := fun w' => w'.cell? ⟨w.heap.size, 0, none⟩ = some (.bool gp0a) ∧ w'.cell? ⟨w.heap.size, 1, none⟩ = some (.slice Ap0a kp0a cp0a) ∧ w'.cell? ⟨w.heap.size, 2, none⟩ = some (.slice Ap0b kp0b cp0b) ∧ w'.cell? ⟨w.heap.size + 1, 0, none⟩ = some (.bool gp1a) ∧ w'.cell? ⟨w.heap.size + 1, 1, none⟩ = some (.slice Ap1a kp1a cp1a) ∧ w'.cell? ⟨w.heap.size + 1, 2, none⟩ = some (.slice Ap1b kp1b cp1b)) (by kernel_rfl) (by kernel_rfl) (by rw [← hW7]; exact ⟨kD HB2 0, kD HB2 1, kD HB2 2, kD HB4 0, kD HB4 1, kD HB4 2⟩) ?_
  rw [← hW7]
  clear hW7
  iterate 2 refine tk0 (h := ?_)
  refine sop (h := fun K9 hK9 => ?_)
  go_simp
  replace HX1 := kV j4 (kV j3 (kV j2 (kV j1 HX1)))
  refine (neg_any _ y _ HX1.out).mono ?_
  rintro e w1 ⟨⟨vx, rfl, hr⟩, j1c⟩
  obtain ⟨g1a, A1a, k1a, c1a, A1b, k1b, c1b, rfl, hr⟩ := hr.open
  have HR1 := Lib.hid hr
  clear hr
  replace HB2 := kB HB2 j1c
  replace HB4 := kB HB4 j1c
  refine ckk hK9 (by exact ⟨kD HB2 0, kD HB2 1, kD HB2 2, kD HB4 0, kD HB4 1, kD HB4 2⟩) (h := ?_)
  clear hK9 K9
  refine sop (h := fun K9 hK9 => ?_)
  go_simp
  replace HX0 := kV j1c (kV j4 (kV j3 (kV j2 (kV j1 HX0))))
  refine (add_any _ _ x (-y) _ HX0.out HR1.out HQX.out HQY.out.neg).mono ?_
  rintro e w2 ⟨⟨vx, rfl, hr⟩, j2c⟩
  obtain ⟨g2a, A2a, k2a, c2a, A2b, k2b, c2b, rfl, hr⟩ := hr.open
  have HR2 := Lib.hid hr
  clear hr
  rw [← Rat.sub_eq_add_neg] at HR2
  replace HB2 := kB HB2 j2c
  replace HB4 := kB HB4 j2c
  refine ckk hK9 (by exact ⟨kD HB2 0, kD HB2 1, kD HB2 2, kD HB4 0, kD HB4 1, kD HB4 2⟩) (h := ?_)
  clear hK9 K9
  refine sop (h := fun K9 hK9 => ?_)
  replace HB6 := kB (kB (kB HB6 j4) j1c) j2c
  have c8 := kC HB6 0 rfl
  have c9 := kF HB6 0
  have c10 := kC HB6 1 rfl
  have c11 := kF HB6 1
  have c12 := kC HB6 2 rfl
  have c13 := kF HB6 2
  go_simp
  obtain ⟨W14, HW14⟩ : ∃ W, Hid (W = (((w2.setCell ⟨w.heap.size + 2, 0, none⟩ (.bool g2a)).setCell ⟨w.heap.size + 2, 1, none⟩ (.slice A2a k2a c2a)).setCell ⟨w.heap.size + 2, 2, none⟩ (.slice A2b k2b c2b))) := ⟨_, rfl⟩
  have SW14 : Hid (W14 = setsW w2 (w.heap.size + 2) 0 [.bool g2a, .slice A2a k2a c2a, .slice A2b k2b c2b]) := HW14.out
  have TW14 := kN (SW14.out) HB6 rfl rfl
  replace HB6 := kP (ds := [.bool g2a, .slice A2a k2a c2a, .slice A2b k2b c2b]) (SW14.out) HB6 rfl rfl
  rw [← HW14.out]
  replace HB2 := kO (SW14.out) HB2 HNE_B2_B6.out
  replace HB4 := kO (SW14.out) HB4 HNE_B4_B6.out
  refine ckk hK9 (by exact ⟨kD HB2 0, kD HB2 1, kD HB2 2, kD HB4 0, kD HB4 1, kD HB4 2⟩) (h := ?_)
  clear hK9 K9 c8 c9 c10 c11 c12 c13
  refine seq_done (by kernel_rfl) ?_
  go_wp2_with fail
  have c15 := kC HB6 0 rfl
  have c16 := kC HB6 1 rfl
  have c17 := kC HB6 2 rfl
  replace HR2 := kW TW14 HR2
  replace HBw := kS (SW14.out) HLE_B6 (kU (kU (kU (kU (kU HBw j2) j3) j4) j1c) j2c)
  exact bodyPost_ret (v := .agg #[.bool g2a, .slice A2a k2a c2a, .slice A2b k2b c2b]) (by simp [results, Tryz.results78, go_sem, c15, c16, c17]) rfl ⟨⟨_, rfl, HR2.out⟩, HBw.out⟩
theorem mk_sizes {z : Int} {D : Nat} (hD : D ≠ 0) : (mkRat z D).num.natAbs ≤ z.natAbs ∧ (mkRat z D).den ≤ D := by
  rw [mk_num hD, mk_den hD]
  constructor
  · rw [Int.natAbs_ediv_of_dvd (Int.ofNat_dvd_left.2 (Nat.gcd_dvd_left _ _))]; exact Nat.div_le_self _ _
  · exact Nat.div_le_self _ _
theorem QS.mul {a b : Nat} {x y : Rat} (h : QS a x) (k : QS b y) : QS (a + b) (x * y) := by
  have hxd := x.den_nz
  have hyd := y.den_nz
  have e : x * y = mkRat (x.num * y.num) (x.den * y.den) := Rat.mul_def' x y
  have h1 := mk_sizes (z := x.num * y.num) (D := x.den * y.den) (Nat.mul_ne_zero hxd hyd)
  rw [← e] at h1
  refine ⟨Nat.le_trans (dl_mono h1.1) ?_, Nat.le_trans (dl_mono h1.2) ?_⟩
  · rw [Int.natAbs_mul]; have := dl_mul x.num.natAbs y.num.natAbs; have := h.1; have := k.1; omega
  · have := dl_mul x.den y.den; have := h.2; have := k.2; omega
theorem mul_any (v u : Value) (x y : Rat) (w : World) (hv : RdQ w v x) (hu : RdQ w u y) (hx6 : QS 100000 x) (hy6 : QS 100000 y) :
    Calls Tryz.prog 79 #[v, u] w fun e w' => (∃ v', e = .returned v' ∧ RdQ w' v' (x * y)) ∧ Below w.heap.size w w' := by
  have HQX := Lib.hid hx6
  have HQY := Lib.hid hy6
  have HP : Hid (dl (x.num * y.num).natAbs ≤ 900000 ∧ dl (x.den * y.den) ≤ 900000) := ⟨by rw [Int.natAbs_mul]; have := dl_mul x.num.natAbs y.num.natAbs; have := hx6.1; have := hy6.1; omega, by have := dl_mul x.den y.den; have := hx6.2; have := hy6.2; omega⟩
  clear hx6 hy6
  obtain ⟨gp0a, Ap0a, kp0a, cp0a, Ap0b, kp0b, cp0b, rfl, hv⟩ := hv.open
  have HX0 := Lib.hid hv
  clear hv
  obtain ⟨gp1a, Ap1a, kp1a, cp1a, Ap1b, kp1b, cp1b, rfl, hu⟩ := hu.open
  have HX1 := Lib.hid hu
  clear hu
  go_enter Tryz.func79, Tryz.ntmps79
  obtain ⟨W1, HW1, HB2, HSZ_W1, j1⟩ := st_al0 w #[.bool gp0a, .slice Ap0a kp0a cp0a, .slice Ap0b kp0b cp0b] 32
  have HBw := Lib.hid j1
  obtain ⟨W3, HW3, HB4, HSZ_W3, j2⟩ := st_alk 1 2 #[.bool gp1a, .slice Ap1a kp1a cp1a, .slice Ap1b kp1b cp1b] 32 HSZ_W1 rfl
  obtain ⟨W5, HW5, HB6, HSZ_W5, j3⟩ := st_alk 2 3 #[.bool false, .slice none 0 0, .slice none 0 0] 32 HSZ_W3 rfl
  have HNE_B2_B6 : Hid (w.heap.size ≠ w.heap.size + 2) := by show _ ≠ _; have hlt := blk_lt HB2.out; have := j2.size; have := HSZ_W3.out; omega
  have HNE_B4_B6 : Hid (w.heap.size + 1 ≠ w.heap.size + 2) := by show _ ≠ _; have hlt := blk_lt HB4.out; have := HSZ_W3.out; omega
  have HLE_B6 : Hid (w.heap.size ≤ w.heap.size + 2) := by show _ ≤ _; have hlt := HBw.out.size; have := j2.size; have := HSZ_W3.out; omega
  go_wp2_with fail
  rw [← HW1.out, ← HW3.out, ← HW5.out]
  obtain ⟨W7, hW7⟩ : ∃ W, W = W5.drew := ⟨_, rfl⟩
  have j4 : Below W5.heap.size W5 W7 := by rw [hW7]; exact (Below.refl _ _).drew
  replace HB2 := kB (kB (kB HB2 j2) j3) j4
  replace HB4 := kB (kB HB4 j3) j4
  refine seq_start (S := fun w' => w'.cell? ⟨w.heap.size, 0, none⟩ = some (.bool gp0a) ∧ w'.cell? ⟨w.heap.size, 1, none⟩ = some (.slice Ap0a kp0a cp0a) ∧ w'.cell? ⟨w.heap.size + 1, 0, none⟩ = some (.bool gp1a) ∧ w'.cell? ⟨w.heap.size + 1, 1, none⟩ = some (.slice Ap1a kp1a cp1a) ∧ w'.cell? ⟨w.heap.size, 2, none⟩ = some (.slice Ap0b kp0b cp0b) ∧ w'.cell? ⟨w.heap.size + 1, 2, none⟩ = some (.slice Ap1b kp1b cp1b)) (by kernel_rfl) (by kernel_rfl) (by rw [← hW7]; exact ⟨kD HB2 0, kD HB2 1, kD HB4 0, kD HB4 1, kD HB2 2, kD HB4 2⟩) ?_
  rw [← hW7]
  clear hW7
  iterate 4 refine tk0 (h := ?_)
  iterate 2 (refine plq 1 (h := ?_); refine tk0 (h := ?_))
  iterate 2 (refine plq 2 (h := ?_); refine tk0 (h := ?_))
  refine sop (h := fun K9 hK9 => ?_)
  go_simp
  replace HX0 := kV j4 (kV j3 (kV j2 (kV j1 HX0)))
  replace HX1 := kV j4 (kV j3 (kV j2 (kV j1 HX1)))
  refine (itimes_any _ _ x.num y.num _ HX0.out.num HX1.out.num (by have := HQX.out.1; omega) (by have := HQY.out.1; omega)).mono ?_
  rintro e w1 ⟨⟨vx, rfl, hr⟩, j1c⟩
  obtain ⟨g1a, A1a, k1a, c1a, rfl, hr⟩ := hr.open
  have HR1 := Lib.hid hr
  clear hr
  replace HB2 := kB HB2 j1c
  replace HB4 := kB HB4 j1c
  refine ckk hK9 (by exact ⟨kD HB2 0, kD HB2 1, kD HB4 0, kD HB4 1, kD HB2 2, kD HB4 2⟩) (h := ?_)
  clear hK9 K9
  refine sop (h := fun K9 hK9 => ?_)
  go_simp
  replace HX0 := kV j1c HX0
  refine (under_any _ x.den _ x.den_nz HX0.out.den).mono ?_
  rintro e w2 ⟨⟨vx, rfl, hr⟩, j2c⟩
  obtain ⟨A2, k2, c2, rfl, hr⟩ := hr.open
  have HR2 := Lib.hid hr
  clear hr
  replace HB2 := kB HB2 j2c
  replace HB4 := kB HB4 j2c
  refine ckk hK9 (by exact ⟨kD HB2 0, kD HB2 1, kD HB4 0, kD HB4 1, kD HB2 2, kD HB4 2⟩) (h := ?_)
  clear hK9 K9
  refine sop (h := fun K9 hK9 => ?_)
  go_simp
  replace HX1 := kV j2c (kV j1c HX1)
  refine (under_any _ y.den _ y.den_nz HX1.out.den).mono ?_
  rintro e w3 ⟨⟨vx, rfl, hr⟩, j3c⟩
  obtain ⟨A3, k3, c3, rfl, hr⟩ := hr.open
  have HR3 := Lib.hid hr
  clear hr
  replace HB2 := kB HB2 j3c
  replace HB4 := kB HB4 j3c
  refine ckk hK9 (by exact ⟨kD HB2 0, kD HB2 1, kD HB4 0, kD HB4 1, kD HB2 2, kD HB4 2⟩) (h := ?_)
  clear hK9 K9
  refine sop (h := fun K9 hK9 => ?_)
  go_simp
  replace HR2 := kV j3c HR2
  refine (times_any _ _ x.den y.den _ HR2.out HR3.out (by have := HQX.out.2; omega) (by have := HQY.out.2; omega)).mono ?_
  rintro e w4 ⟨⟨vx, rfl, hr⟩, j4c⟩
  obtain ⟨A4, k4, c4, rfl, hr⟩ := hr.open
  have HR4 := Lib.hid hr
  clear hr
  replace HB2 := kB HB2 j4c
  replace HB4 := kB HB4 j4c
  refine ckk hK9 (by exact ⟨kD HB2 0, kD HB2 1, kD HB4 0, kD HB4 1, kD HB2 2, kD HB4 2⟩) (h := ?_)
  clear hK9 K9
  refine sop (h := fun K9 hK9 => ?_)
  go_simp
  replace HR1 := kV j4c (kV j3c (kV j2c HR1))
  refine (over_any _ _ (x.num * y.num) (x.den * y.den) _ HR1.out HR4.out (Nat.mul_ne_zero x.den_nz y.den_nz) HP.out.1 HP.out.2).mono ?_
  rintro e w5 ⟨⟨vx, rfl, hr⟩, j5c⟩
  obtain ⟨g5a, A5a, k5a, c5a, A5b, k5b, c5b, rfl, hr⟩ := hr.open
  have HR5 := Lib.hid hr
  clear hr
  rw [← Rat.mul_def'] at HR5
  replace HB2 := kB HB2 j5c
  replace HB4 := kB HB4 j5c
  refine ckk hK9 (by exact ⟨kD HB2 0, kD HB2 1, kD HB4 0, kD HB4 1, kD HB2 2, kD HB4 2⟩) (h := ?_)
  clear hK9 K9
  refine sop (h := fun K9 hK9 => ?_)
  replace HB6 := kB (kB (kB (kB (kB (kB HB6 j4) j1c) j2c) j3c) j4c) j5c
  have c8 := kC HB6 0 rfl
  have c9 := kF HB6 0
  have c10 := kC HB6 1 rfl
  have c11 := kF HB6 1
  have c12 := kC HB6 2 rfl
  have c13 := kF HB6 2
  go_simp
  obtain ⟨W14, HW14⟩ : ∃ W, Hid (W = (((w5.setCell ⟨w.heap.size + 2, 0, none⟩ (.bool g5a)).setCell ⟨w.heap.size + 2, 1, none⟩ (.slice A5a k5a c5a)).setCell ⟨w.heap.size + 2, 2, none⟩ (.slice A5b k5b c5b))) := ⟨_, rfl⟩
  have SW14 : Hid (W14 = setsW w5 (w.heap.size + 2) 0 [.bool g5a, .slice A5a k5a c5a, .slice A5b k5b c5b]) := HW14.out
  have TW14 := kN (SW14.out) HB6 rfl rfl
  replace HB6 := kP (ds := [.bool g5a, .slice A5a k5a c5a, .slice A5b k5b c5b]) (SW14.out) HB6 rfl rfl
  rw [← HW14.out]
  replace HB2 := kO (SW14.out) HB2 HNE_B2_B6.out
  replace HB4 := kO (SW14.out) HB4 HNE_B4_B6.out
  refine ckk hK9 (by exact ⟨kD HB2 0, kD HB2 1, kD HB4 0, kD HB4 1, kD HB2 2, kD HB4 2⟩) (h := ?_)
  clear hK9 K9 c8 c9 c10 c11 c12 c13
  refine seq_done (by kernel_rfl) ?_
  go_wp2_with fail
  have c15 := kC HB6 0 rfl
  have c16 := kC HB6 1 rfl
  have c17 := kC HB6 2 rfl
  replace HR5 := kW TW14 HR5
  replace HBw := kS (SW14.out) HLE_B6 (kU (kU (kU (kU (kU (kU (kU (kU HBw j2) j3) j4) j1c) j2c) j3c) j4c) j5c)
  exact bodyPost_ret (v := .agg #[.bool g5a, .slice A5a k5a c5a, .slice A5b k5b c5b]) (by simp [results, Tryz.results79, go_sem, c15, c16, c17]) rfl ⟨⟨_, rfl, HR5.out⟩, HBw.out⟩
theorem cmpQ_any (v u : Value) (x y : Rat) (w : World) (hv : RdQ w v x) (hu : RdQ w u y) (hx6 : QS 100000 x) (hy6 : QS 100000 y) :
    Calls Tryz.prog 76 #[v, u] w fun e w' => e = .returned (.int .i64 (Int.sign (x - y).num)) ∧ Below w.heap.size w w' := by
  have HQX := Lib.hid hx6
  have HQY := Lib.hid hy6
  clear hx6 hy6
  obtain ⟨gp0a, Ap0a, kp0a, cp0a, Ap0b, kp0b, cp0b, rfl, hv⟩ := hv.open
  have HX0 := Lib.hid hv
  clear hv
  obtain ⟨gp1a, Ap1a, kp1a, cp1a, Ap1b, kp1b, cp1b, rfl, hu⟩ := hu.open
  have HX1 := Lib.hid hu
  clear hu
  go_enter Tryz.func76, Tryz.ntmps76
  obtain ⟨W1, HW1, HB2, HSZ_W1, j1⟩ := st_al0 w #[.bool gp0a, .slice Ap0a kp0a cp0a, .slice Ap0b kp0b cp0b] 32
  have HBw := Lib.hid j1
  obtain ⟨W3, HW3, HB4, HSZ_W3, j2⟩ := st_alk 1 2 #[.bool gp1a, .slice Ap1a kp1a cp1a, .slice Ap1b kp1b cp1b] 32 HSZ_W1 rfl
  go_wp2_with fail
  rw [← HW1.out, ← HW3.out]
  replace HX0 := kV j2 (kV j1 HX0)
  replace HX1 := kV j2 (kV j1 HX1)
  refine (sub_any _ _ x y _ HX0.out HX1.out HQX.out HQY.out).mono ?_
  rintro e w1 ⟨⟨vx, rfl, hr⟩, j1c⟩
  obtain ⟨g1a, A1a, k1a, c1a, A1b, k1b, c1b, rfl, hr⟩ := hr.open
  have HR1 := Lib.hid hr
  clear hr
  go_wp2_with fail
  refine (sign_any _ (x - y) _ HR1.out).mono ?_
  rintro e w2 ⟨rfl, j2c⟩
  go_wp2_with fail
  go_ret
  replace HBw := kU (kU (kU HBw j2) j1c) j2c
  exact ⟨rfl, HBw.out⟩
end Go.Proofs.YtodckaioeomccaaGreat
