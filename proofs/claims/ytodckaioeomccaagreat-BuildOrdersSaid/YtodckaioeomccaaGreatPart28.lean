/- Integers, fractions, numbers with roots in memory: opened into their cells; what a store elsewhere leaves. The searcher of places in memory; the walk of its value. -/
import Derived.Test.YtodckaioeomccaaGreatPart27
import Derived.Test.YtodckaioeomccaaGreatPart19
import Derived.Test.YtodckaioeomccaaGreatPart02
namespace Go.Proofs.YtodckaioeomccaaGreat
open Go.RowKit
set_option linter.unusedVariables false
set_option linter.unusedSimpArgs false
/-- A value that is no word of a number. -/
def notWB : Value → Bool
  | .int .i64 _ => true
  | .int _ _ => false
  | _ => true
/-- Each word stays. -/
def Wd (w w' : World) : Prop := ∀ (b i : Nat) (u : Value), notWB u = false → w.cell? ⟨b, i, none⟩ = some u → w'.cell? ⟨b, i, none⟩ = some u
theorem Wd.refl (w : World) : Wd w w := fun _ _ _ _ h => h
theorem Wd.trans {a b c : World} (h : Wd a b) (k : Wd b c) : Wd a c := fun x i u hu e => k x i u hu (h x i u hu e)
theorem cell_lt {w : World} {b i : Nat} {u : Value} (h : w.cell? ⟨b, i, none⟩ = some u) : b < w.heap.size := by
  rcases Nat.lt_or_ge b w.heap.size with h' | h'
  · exact h'
  · unfold World.cell? at h
    simp [Array.getElem?_eq_none h'] at h
theorem Wd.of_below {w w' : World} (h : Below w.heap.size w w') : Wd w w' := fun b i u _ e => (h.cell (p := ⟨b, i, none⟩) (cell_lt e)).trans e
theorem Rd.wd {α : Type} {f : α → Value} {w w' : World} {S : Nat → Prop} {v : Value} {xs : List α} (hf : ∀ x, notWB (f x) = false) (h : Rd f w S v xs) (hw : Wd w w') : Rd f w' S v xs := by
  obtain ⟨A, cap, rfl, h1, h2, h3⟩ := h
  refine ⟨A, cap, rfl, h1, h2, fun hn => ?_⟩
  obtain ⟨b, off, rfl, hb, hc⟩ := h3 hn
  exact ⟨b, off, rfl, hb, fun i hi => hw _ _ _ (hf _) (hc i hi)⟩
theorem RdN.wd {w w' : World} {v : Value} {n : Nat} (h : RdN w v n) (hw : Wd w w') : RdN w' v n := Rd.wd (fun _ => rfl) h hw
theorem RdZ.wd {w w' : World} {v : Value} {z : Int} (h : RdZ w v z) (hw : Wd w w') : RdZ w' v z := let ⟨a, h1, h2⟩ := h; ⟨a, h1, h2.wd hw⟩
theorem RdQ.wd {w w' : World} {v : Value} {x : Rat} (h : RdQ w v x) (hw : Wd w w') : RdQ w' v x := let ⟨a, b, h1, h2, h3⟩ := h; ⟨a, b, h1, h2.wd hw, h3.wd hw⟩
/-! Blocks. -/
theorem blk_lt {w : World} {b : Nat} {o : Obj} (h : w.heap[b]? = some o) : b < w.heap.size := (Array.getElem?_eq_some_iff.1 h).1
theorem blk_below {w w' : World} {b : Nat} {o : Obj} (h : w.heap[b]? = some o) (hb : Below w.heap.size w w') : w'.heap[b]? = some o := (hb.block b (blk_lt h)).trans h
theorem blk_cell {w : World} {b t : Nat} {cs : Array Value} (h : w.heap[b]? = some (.cells cs t (0, 0))) (i : Nat) : w.cell? ⟨b, i, none⟩ = cs[i]? := cell_of_row w b i _ t (0, 0) h
theorem blk_free {w : World} {b t : Nat} {cs : Array Value} (h : w.heap[b]? = some (.cells cs t (0, 0))) (i : Nat) : w.frozen? ⟨b, i, none⟩ = false := frozen_of_row w b i _ t h
theorem blk_set {w : World} {b t i : Nat} {cs : Array Value} (u : Value) (h : w.heap[b]? = some (.cells cs t (0, 0))) : (w.setCell ⟨b, i, none⟩ u).heap[b]? = some (.cells (cs.setIfInBounds i u) t (0, 0)) := by
  have hlt := blk_lt h
  have h' : w.heap[b] = .cells cs t (0, 0) := by simpa [Array.getElem?_eq_getElem hlt] using h
  show (w.heap.modify b _)[b]? = _
  rw [Array.getElem?_eq_getElem (by simpa using hlt), Array.getElem_modify_self, h']
  rfl
theorem blk_other {w : World} {b b' i : Nat} {o : Obj} (u : Value) (h : w.heap[b]? = some o) (hne : b ≠ b') : (w.setCell ⟨b', i, none⟩ u).heap[b]? = some o := (Below.heap_setCell w ⟨b', i, none⟩ u b hne).trans h
/-- A block without words. -/
def NoW (w : World) (b : Nat) : Prop := ∀ (i : Nat) (u : Value), w.cell? ⟨b, i, none⟩ = some u → notWB u = true
theorem NoW.of {w : World} {b t : Nat} {cs : Array Value} (h : w.heap[b]? = some (.cells cs t (0, 0))) (hc : cs.toList.all notWB = true) : NoW w b := fun i u e => by
  rw [blk_cell h i] at e
  exact List.all_eq_true.1 hc u (Array.mem_toList_iff.2 (Array.mem_of_getElem? e))
/-- Stores into one block without words. -/
def Wset (b : Nat) (w w' : World) : Prop := Wd w w' ∧ NoW w' b
theorem Wset.start {w : World} {b : Nat} (h : NoW w b) : Wset b w w := ⟨.refl _, h⟩
theorem Wset.set {w w' : World} {b i : Nat} {u : Value} (h : Wset b w w') (hu : notWB u = true) : Wset b w (w'.setCell ⟨b, i, none⟩ u) := by
  refine ⟨h.1.trans fun b' i' x hx e => ?_, fun i' x e => ?_⟩
  · by_cases hp : (⟨b', i', none⟩ : Addr) = ⟨b, i, none⟩
    · simp only [Addr.mk.injEq] at hp
      obtain ⟨rfl, rfl, _⟩ := hp
      have := h.2 _ _ e
      rw [hx] at this; cases this
    · rw [World.cell?_setCell_other w' ⟨b, i, none⟩ ⟨b', i', none⟩ u (fun e => hp e.symm)]; exact e
  · by_cases hp : i' = i
    · subst hp
      obtain ⟨y, hy⟩ : ∃ y, w'.cell? ⟨b, i', none⟩ = some y := by
        unfold World.cell? World.setCell at e
        unfold World.cell?
        simp only [Array.getElem?_modify, if_true] at e
        generalize w'.heap[b]? = q at e ⊢
        match q, e with
        | some (.cells c t m), e =>
          simp only [Option.map_some, Option.isSome_none, Bool.false_eq_true, if_false] at e ⊢
          rcases Nat.lt_or_ge i' c.size with h1 | h1
          · exact ⟨_, Array.getElem?_eq_getElem h1⟩
          · rw [Array.getElem?_eq_none (by simpa using h1)] at e; cases e
      rw [World.cell?_setCell_same _ _ _ hy] at e
      exact (Option.some.inj e) ▸ hu
    · rw [World.cell?_setCell_other w' ⟨b, i, none⟩ ⟨b, i', none⟩ u (fun e => hp (by simp only [Addr.mk.injEq] at e; exact e.2.1.symm))] at e
      exact h.2 _ _ e
/-- Stores into cells that follow each other. -/
def setsW (w : World) (b o : Nat) : List Value → World
  | [] => w
  | v :: vs => setsW (w.setCell ⟨b, o, none⟩ v) b (o + 1) vs
theorem sets_wset {b : Nat} {w : World} : ∀ {vs : List Value} {o : Nat} {w' : World}, Wset b w w' → vs.all notWB = true → Wset b w (setsW w' b o vs)
  | [], _, _, h, _ => h
  | v :: vs, o, w', h, hv => by
    simp only [List.all_cons, Bool.and_eq_true] at hv
    exact sets_wset (vs := vs) (h.set hv.1) hv.2
theorem sets_wd {b o : Nat} {w : World} {vs : List Value} (h : NoW w b) (hv : vs.all notWB = true) : Wd w (setsW w b o vs) := (sets_wset (.start h) hv).1
theorem sets_other {b b' : Nat} {ob : Obj} : ∀ {vs : List Value} {o : Nat} {w : World}, w.heap[b]? = some ob → b ≠ b' → (setsW w b' o vs).heap[b]? = some ob
  | [], _, _, h, _ => h
  | v :: vs, o, w, h, hne => sets_other (vs := vs) (blk_other v h hne) hne
theorem sets_below {b B : Nat} {w : World} (hb : B ≤ b) : ∀ {vs : List Value} {o : Nat} {w' : World}, Below B w w' → Below B w (setsW w' b o vs)
  | [], _, _, h => h
  | v :: vs, o, w', h => sets_below hb (vs := vs) (h.setCell hb v)
theorem sets_blk {b t : Nat} : ∀ {vs p q r : List Value} {w : World}, w.heap[b]? = some (.cells (p ++ q ++ r).toArray t (0, 0)) → q.length = vs.length → (setsW w b p.length vs).heap[b]? = some (.cells (p ++ vs ++ r).toArray t (0, 0))
  | [], p, q, r, w, h, hl => by
    rw [List.length_eq_zero_iff.1 hl] at h
    exact h
  | v :: vs, p, q, r, w, h, hl => by
    match q, hl with
    | x :: q, hl =>
      have h1 := blk_set (i := p.length) v h
      have e : (p ++ x :: q ++ r).toArray.setIfInBounds p.length v = ((p ++ [v]) ++ q ++ r).toArray := by
        simp [List.setIfInBounds_toArray]
      rw [e] at h1
      have := sets_blk (vs := vs) h1 (by simpa using hl)
      rw [show (p ++ [v]).length = p.length + 1 by simp] at this
      show (setsW (w.setCell ⟨b, p.length, none⟩ v) b (p.length + 1) vs).heap[b]? = _
      simpa using this
/-! Values, opened into cells. -/
theorem RdN.open {w : World} {v : Value} {n : Nat} (h : RdN w v n) : ∃ A k c, v = .slice A k c ∧ RdN w (.slice A k c) n := by
  obtain ⟨A, k, c, rfl⟩ := h.slice
  exact ⟨_, _, _, rfl, h⟩
theorem RdZ.open {w : World} {v : Value} {z : Int} (h : RdZ w v z) : ∃ g A k c, v = .agg #[.bool g, .slice A k c] ∧ RdZ w (.agg #[.bool g, .slice A k c]) z := by
  obtain ⟨a, rfl, ha⟩ := h
  obtain ⟨A, k, c, rfl⟩ := ha.slice
  exact ⟨_, _, _, _, rfl, _, rfl, ha⟩
theorem RdZ.sign {w : World} {g : Bool} {s : Value} {z : Int} (h : RdZ w (.agg #[.bool g, s]) z) : g = decide (z < 0) := by
  obtain ⟨a, e, _⟩ := h
  injection e with e; injection e with e; simp at e; exact e.1
theorem RdZ.abs {w : World} {g : Bool} {s : Value} {z : Int} (h : RdZ w (.agg #[.bool g, s]) z) : RdN w s z.natAbs := by
  obtain ⟨a, e, ha⟩ := h
  injection e with e; injection e with e; simp at e; exact e.2 ▸ ha
theorem RdZ.mk {w : World} {g : Bool} {s : Value} {z : Int} (hg : g = decide (z < 0)) (h : RdN w s z.natAbs) : RdZ w (.agg #[.bool g, s]) z := ⟨s, by rw [hg], h⟩
theorem RdQ.open {w : World} {v : Value} {x : Rat} (h : RdQ w v x) : ∃ g A k c B m d, v = .agg #[.bool g, .slice A k c, .slice B m d] ∧ RdQ w (.agg #[.bool g, .slice A k c, .slice B m d]) x := by
  obtain ⟨a, b, rfl, ha, hb⟩ := h
  obtain ⟨A, k, c, rfl⟩ := ha.slice
  obtain ⟨B, m, d, rfl⟩ := hb.slice
  exact ⟨_, _, _, _, _, _, _, rfl, _, _, rfl, ha, hb⟩
theorem RdQ.num {w : World} {g : Bool} {s t : Value} {x : Rat} (h : RdQ w (.agg #[.bool g, s, t]) x) : RdZ w (.agg #[.bool g, s]) x.num := by
  obtain ⟨a, b, e, ha, hb⟩ := h
  injection e with e; injection e with e; simp at e
  obtain ⟨rfl, rfl, rfl⟩ := e
  exact ⟨_, rfl, ha⟩
theorem RdQ.den {w : World} {g : Bool} {s t : Value} {x : Rat} (h : RdQ w (.agg #[.bool g, s, t]) x) : RdN w t (den1 x.den) := by
  obtain ⟨a, b, e, ha, hb⟩ := h
  injection e with e; injection e with e; simp at e
  obtain ⟨rfl, rfl, rfl⟩ := e
  exact hb
theorem RdQ.mk {w : World} {g : Bool} {s t : Value} {x : Rat} (h : RdZ w (.agg #[.bool g, s]) x.num) (k : RdN w t (den1 x.den)) : RdQ w (.agg #[.bool g, s, t]) x := ⟨_, _, by rw [h.sign], h.abs, k⟩
/-! Short steps. -/
class WdSt (p : Prop) (w w' : World) (q : outParam Prop) : Prop where
  st : Wd w w' → p → q
theorem kW {p q : Prop} {w w' : World} [WdSt p w w' q] (hT : Wd w w') (h : Hid p) : Hid q := WdSt.st hT h.out
instance wdRdN (w w' : World) (v : Value) (n : Nat) : WdSt (RdN w v n) w w' (RdN w' v n) := ⟨fun hT h => h.wd hT⟩
instance wdRdZ (w w' : World) (v : Value) (z : Int) : WdSt (RdZ w v z) w w' (RdZ w' v z) := ⟨fun hT h => h.wd hT⟩
instance wdRdQ (w w' : World) (v : Value) (x : Rat) : WdSt (RdQ w v x) w w' (RdQ w' v x) := ⟨fun hT h => h.wd hT⟩
theorem st_al0 (w : World) (cs : Array Value) (t : TypeId) : ∃ W, Hid (W = w.alloc (.cells cs t)) ∧ Hid (W.heap[w.heap.size]? = some (.cells cs t (0, 0))) ∧ Hid (W.heap.size = w.heap.size + 1) ∧ Below w.heap.size w W :=
  ⟨_, rfl, heap_alloc_new w _, by show _ = _; simp, (Below.refl _ _).alloc (Nat.le_refl _) _⟩
theorem st_alk {w w0 : World} (k k' : Nat) (cs : Array Value) (t : TypeId) (hs : Hid (w.heap.size = w0.heap.size + k)) (hk : k' = k + 1) :
    ∃ W, Hid (W = w.alloc (.cells cs t)) ∧ Hid (W.heap[w0.heap.size + k]? = some (.cells cs t (0, 0))) ∧ Hid (W.heap.size = w0.heap.size + k') ∧ Below w.heap.size w W := by
  refine ⟨_, rfl, ?_, ?_, (Below.refl _ _).alloc (Nat.le_refl _) _⟩
  · show _ = _; rw [← hs.out]; exact heap_alloc_new w _
  · show _ = _; have := hs.out; simp; omega
theorem kB {w w' : World} {b : Nat} {o : Obj} (h : Hid (w.heap[b]? = some o)) (hb : Below w.heap.size w w') : Hid (w'.heap[b]? = some o) := blk_below h hb
theorem kU {a w w' : World} (h : Hid (Below a.heap.size a w)) (k : Below w.heap.size w w') : Hid (Below a.heap.size a w') := h.out.trans (k.mono h.out.size)
theorem kM1 {w W : World} {b o : Nat} {v : Value} (h : Hid (W = w.setCell ⟨b, o, none⟩ v)) : W = setsW w b o [v] := h
theorem kN {w W : World} {b o t : Nat} {cs : Array Value} {vs : List Value} (hS : W = setsW w b o vs) (h : Hid (w.heap[b]? = some (.cells cs t (0, 0)))) (h1 : cs.toList.all notWB = true) (h2 : vs.all notWB = true) : Wd w W := by
  rw [hS]; exact sets_wd (NoW.of h.out h1) h2
theorem kO {w W : World} {b b' o : Nat} {ob : Obj} {vs : List Value} (hS : W = setsW w b' o vs) (h : Hid (w.heap[b]? = some ob)) (hne : b ≠ b') : Hid (W.heap[b]? = some ob) := by
  rw [hS]; exact sets_other h.out hne
def putL (o : Nat) (vs cs : List Value) : List Value := cs.take o ++ vs ++ cs.drop (o + vs.length)
theorem kP {w W : World} {b o t : Nat} {vs cs ds : List Value} (hS : W = setsW w b o vs) (h : Hid (w.heap[b]? = some (.cells cs.toArray t (0, 0)))) (h1 : Nat.ble (o + vs.length) cs.length = true) (h2 : putL o vs cs = ds) :
    Hid (W.heap[b]? = some (.cells ds.toArray t (0, 0))) := by
  have h1 := Nat.le_of_ble_eq_true h1
  have e : cs = cs.take o ++ (cs.drop o).take vs.length ++ cs.drop (o + vs.length) := by
    rw [← List.drop_drop, List.append_assoc, List.take_append_drop, List.take_append_drop]
  have h' := h.out
  rw [e] at h'
  have := sets_blk (vs := vs) h' (by rw [List.length_take, List.length_drop]; omega)
  rw [List.length_take, Nat.min_eq_left (by omega)] at this
  show _ = _
  rw [hS, ← h2]
  exact this
theorem kS {a w W : World} {b o : Nat} {vs : List Value} (hS : W = setsW w b o vs) (hle : Hid (a.heap.size ≤ b)) (h : Hid (Below a.heap.size a w)) : Hid (Below a.heap.size a W) := by
  show Below _ _ _; rw [hS]; exact sets_below hle.out h.out
theorem kC {w : World} {b t : Nat} {cs : List Value} {v : Value} (h : Hid (w.heap[b]? = some (.cells cs.toArray t (0, 0)))) (i : Nat) (hv : cs[i]? = some v) : w.cell? ⟨b, i, none⟩ = some v := by
  rw [blk_cell h.out]; simpa using hv
theorem kD {w : World} {b t : Nat} {cs : Array Value} (h : Hid (w.heap[b]? = some (.cells cs t (0, 0)))) (i : Nat) : w.cell? ⟨b, i, none⟩ = cs[i]? := blk_cell h.out i
theorem kF {w : World} {b t : Nat} {cs : Array Value} (h : Hid (w.heap[b]? = some (.cells cs t (0, 0)))) (i : Nat) : w.frozen? ⟨b, i, none⟩ = false := blk_free h.out i
end Go.Proofs.YtodckaioeomccaaGreat
namespace Go.Proofs.YtodckaioeomccaaGreat
open Go.RowKit Go.Proofs.Plc
set_option linter.unusedVariables false
set_option linter.unusedSimpArgs false
def quadL (q : Qd) : List Value := [.int .i64 q.a, .int .i64 q.b, .int .i64 q.c, .int .i64 q.d]
def quadV (q : Qd) : Value := .agg #[.int .i64 q.a, .int .i64 q.b, .int .i64 q.c, .int .i64 q.d]
def cosI : List Int := (List.range 24).flatMap fun k => [(cosT k).a, (cosT k).b, (cosT k).c, (cosT k).d]
theorem cosI_len : cosI.length = 96 := by decide +kernel
/-- The searcher's words. -/
def srL (gv : Value) (o ap : Int) (pv bv : Value) (q : Qd) : List Value := .cons gv (.cons (.int .i64 o) (.cons (.int .i64 ap) (cosI.map intV ++ .cons pv (.cons bv (quadL q)))))
theorem sr_ps (gv : Value) (o ap : Int) (pv bv : Value) (q : Qd) (i : Nat) : (srL gv o ap pv bv q)[99 + i]? = (pv :: bv :: quadL q)[i]? := by
  rw [show 99 + i = 96 + i + 1 + 1 + 1 by omega]
  show (gv :: .int .i64 o :: .int .i64 ap :: (cosI.map intV ++ pv :: bv :: quadL q))[96 + i + 1 + 1 + 1]? = _
  rw [List.getElem?_cons_succ, List.getElem?_cons_succ, List.getElem?_cons_succ, List.getElem?_append_right (by rw [List.length_map, cosI_len]; omega), List.length_map, cosI_len, Nat.add_sub_cancel_left]
theorem cosI_at : ∀ k : Fin 24, cosI[4 * k.1]? = some (cosT k.1).a ∧ cosI[4 * k.1 + 1]? = some (cosT k.1).b ∧ cosI[4 * k.1 + 2]? = some (cosT k.1).c ∧ cosI[4 * k.1 + 3]? = some (cosT k.1).d := by decide +kernel
theorem sr_cos {x : Int} {i : Nat} (gv : Value) (o ap : Int) (pv bv : Value) (q : Qd) (h : cosI[i]? = some x) : (srL gv o ap pv bv q)[3 + i]? = some (.int .i64 x) := by
  show (gv :: .int .i64 o :: .int .i64 ap :: (cosI.map intV ++ pv :: bv :: quadL q))[3 + i]? = _
  have hi := (List.getElem?_eq_some_iff.1 h).1
  rw [show 3 + i = i + 1 + 1 + 1 by omega, List.getElem?_cons_succ, List.getElem?_cons_succ, List.getElem?_cons_succ, List.getElem?_append_left (by rw [List.length_map]; exact hi), List.getElem?_map, h]
  rfl
/-- The searcher's block. -/
def SrB (w : World) (b : Nat) (gv : Value) (o ap : Int) (pv bv : Value) (q : Qd) : Prop := w.heap[b]? = some (.cells (srL gv o ap pv bv q).toArray 187 (0, 0))
theorem SrB.at_ {w : World} {b : Nat} {gv : Value} {o ap : Int} {pv bv : Value} {q : Qd} (h : SrB w b gv o ap pv bv q) {i : Nat} {u : Value} (hi : (srL gv o ap pv bv q)[i]? = some u) : w.cell? ⟨b, i, none⟩ = some u := by
  have := blk_cell h i
  rw [this]; simpa using hi
theorem SrB.gs {w : World} {b : Nat} {gv : Value} {o ap : Int} {pv bv : Value} {q : Qd} (h : SrB w b gv o ap pv bv q) : w.cell? ⟨b, 0, none⟩ = some gv := h.at_ rfl
theorem SrB.or {w : World} {b : Nat} {gv : Value} {o ap : Int} {pv bv : Value} {q : Qd} (h : SrB w b gv o ap pv bv q) : w.cell? ⟨b, 1, none⟩ = some (.int .i64 o) := h.at_ rfl
theorem SrB.ap {w : World} {b : Nat} {gv : Value} {o ap : Int} {pv bv : Value} {q : Qd} (h : SrB w b gv o ap pv bv q) : w.cell? ⟨b, 2, none⟩ = some (.int .i64 ap) := h.at_ rfl
theorem SrB.ps {w : World} {b : Nat} {gv : Value} {o ap : Int} {pv bv : Value} {q : Qd} (h : SrB w b gv o ap pv bv q) : w.cell? ⟨b, 99, none⟩ = some pv := h.at_ (sr_ps _ _ _ _ _ _ 0)
theorem SrB.be {w : World} {b : Nat} {gv : Value} {o ap : Int} {pv bv : Value} {q : Qd} (h : SrB w b gv o ap pv bv q) : w.cell? ⟨b, 100, none⟩ = some bv := h.at_ (sr_ps _ _ _ _ _ _ 1)
theorem SrB.cos {w : World} {b : Nat} {gv : Value} {o ap : Int} {pv bv : Value} {q : Qd} (h : SrB w b gv o ap pv bv q) {k : Nat} (hk : k < 24) :
    w.cell? ⟨b, 3 + k * 4, none⟩ = some (.int .i64 (cosT k).a) ∧ w.cell? ⟨b, 3 + k * 4 + 1, none⟩ = some (.int .i64 (cosT k).b) ∧ w.cell? ⟨b, 3 + k * 4 + 2, none⟩ = some (.int .i64 (cosT k).c) ∧ w.cell? ⟨b, 3 + k * 4 + 3, none⟩ = some (.int .i64 (cosT k).d) := by
  obtain ⟨h1, h2, h3, h4⟩ := cosI_at ⟨k, hk⟩
  rw [Nat.add_assoc, Nat.add_assoc, Nat.add_assoc, Nat.mul_comm k 4]
  exact ⟨h.at_ (sr_cos _ _ _ _ _ _ h1), h.at_ (sr_cos _ _ _ _ _ _ h2), h.at_ (sr_cos _ _ _ _ _ _ h3), h.at_ (sr_cos _ _ _ _ _ _ h4)⟩
theorem SrB.below {w w' : World} {b : Nat} {gv : Value} {o ap : Int} {pv bv : Value} {q : Qd} (h : SrB w b gv o ap pv bv q) (hb : Below w.heap.size w w') : SrB w' b gv o ap pv bv q := blk_below h hb
/-! Four whole numbers in a block. -/
def co (q : Qd) : Nat → Int
  | 0 => q.a
  | 1 => q.b
  | 2 => q.c
  | _ => q.d
def QB (w : World) (b : Nat) (f : Nat → Int) : Prop := w.heap[b]? = some (.cells #[.int .i64 (f 0), .int .i64 (f 1), .int .i64 (f 2), .int .i64 (f 3)] 183 (0, 0))
theorem QB.cell {w : World} {b : Nat} {f : Nat → Int} (h : QB w b f) {j : Nat} (hj : j < 4) : w.cell? ⟨b, j, none⟩ = some (.int .i64 (f j)) := by
  rw [blk_cell h]
  rcases (show j = 0 ∨ j = 1 ∨ j = 2 ∨ j = 3 by omega) with rfl | rfl | rfl | rfl <;> rfl
theorem QB.free {w : World} {b : Nat} {f : Nat → Int} (h : QB w b f) (j : Nat) : w.frozen? ⟨b, j, none⟩ = false := blk_free h j
theorem QB.below {w w' : World} {b : Nat} {f : Nat → Int} (h : QB w b f) (hb : Below w.heap.size w w') : QB w' b f := blk_below h hb
theorem QB.set {w : World} {b : Nat} {f : Nat → Int} (h : QB w b f) {j : Nat} (hj : j < 4) (u : Int) : QB (w.setCell ⟨b, j, none⟩ (.int .i64 u)) b (fun i => if i = j then u else f i) := by
  have := blk_set (i := j) (.int .i64 u) h
  rcases (show j = 0 ∨ j = 1 ∨ j = 2 ∨ j = 3 by omega) with rfl | rfl | rfl | rfl <;> exact this
theorem QB.congr {w : World} {b : Nat} {f g : Nat → Int} (h : QB w b f) (e : ∀ j, j < 4 → f j = g j) : QB w b g := by
  unfold QB
  rw [← e 0 (by omega), ← e 1 (by omega), ← e 2 (by omega), ← e 3 (by omega)]; exact h
theorem QB.other {w : World} {b b' i : Nat} {f : Nat → Int} (h : QB w b f) (u : Value) (hne : b ≠ b') : QB (w.setCell ⟨b', i, none⟩ u) b f := blk_other u h hne
/-! Sizes of norms. -/
def SQ (B : Nat) (q : Qd) : Prop := q.a.natAbs ≤ B ∧ q.b.natAbs ≤ B ∧ q.c.natAbs ≤ B ∧ q.d.natAbs ≤ B
theorem SQ.mono {B C : Nat} {q : Qd} (h : SQ B q) (hc : B ≤ C) : SQ C q := ⟨by have := h.1; omega, by have := h.2.1; omega, by have := h.2.2.1; omega, by have := h.2.2.2; omega⟩
theorem gg_small {g h : Int} (hg : 0 ≤ g ∧ g ≤ 1000) (hh : 0 ≤ h ∧ h ≤ 1000) : 0 ≤ g * h ∧ g * h ≤ 1000000 :=
  ⟨Int.mul_nonneg hg.1 hh.1, Int.mul_le_mul hg.2 hh.2 hh.1 (by omega)⟩
theorem mul4_small {x c : Int} {B : Nat} (hx : x.natAbs ≤ B) (hc : c.natAbs ≤ 4) : (x * c).natAbs ≤ B * 4 := by rw [Int.natAbs_mul]; exact Nat.mul_le_mul hx hc
theorem addQ_small {n c : Qd} {x : Int} {B : Nat} (hn : SQ B n) (hx : x.natAbs ≤ 2000000) (hc : SQ 4 c) : SQ (B + 8000000) (addQ n x c) := by
  have h1 := mul4_small hx hc.1
  have h2 := mul4_small hx hc.2.1
  have h3 := mul4_small hx hc.2.2.1
  have h4 := mul4_small hx hc.2.2.2
  have := hn.1; have := hn.2.1; have := hn.2.2.1; have := hn.2.2.2
  refine ⟨?_, ?_, ?_, ?_⟩ <;> (simp only [addQ]; omega)
theorem cosT_small (k : Nat) (hk : k < 24) : SQ 4 (cosT k) := by
  obtain ⟨⟨a, b⟩, c, d⟩ := cos_small ⟨k, hk⟩
  exact ⟨a, b, c, d⟩
def Grams (gs : List Int) : Prop := ∀ i, 0 ≤ at0 gs i ∧ at0 gs i ≤ 1000
theorem xx_small {gs : List Int} (hg : Grams gs) (i k : Nat) : (2 * at0 gs i * at0 gs k).natAbs ≤ 2000000 ∧ (4 * at0 gs i * at0 gs i).natAbs ≤ 4000000 := by
  have h1 := gg_small (hg i) (hg k)
  have h2 := gg_small (hg i) (hg i)
  rw [Int.mul_assoc, Int.mul_assoc]
  omega
theorem inN_small {gs ps : List Int} (hg : Grams gs) (j : Int) (i : Nat) {n : Qd} {B : Nat} (hn : SQ B n) : ∀ k, SQ (B + 8000000 * k) (inN gs ps j i n k)
  | 0 => hn
  | k + 1 => (addQ_small (inN_small (ps := ps) hg j i hn k) (xx_small hg i k).1 (cosT_small _ (plc_lt _))).mono (by omega)
theorem normN_small {gs ps : List Int} (hg : Grams gs) (j : Int) : ∀ i, i ≤ 4 → SQ (40000000 * i) (normN gs ps j i)
  | 0, _ => ⟨Nat.le_refl _, Nat.le_refl _, Nat.le_refl _, Nat.le_refl _⟩
  | i + 1, h => by
    have h1 := normN_small (ps := ps) hg j i (by omega)
    have h2 := (xx_small hg i i).2
    refine (inN_small (ps := ps) hg j i (B := 40000000 * i + 4000000) (n := ⟨_, _, _, _⟩) ⟨?_, ?_, ?_, ?_⟩ i).mono (by omega)
    · have := h1.1; show Int.natAbs (_ + _) ≤ _; omega
    · have := h1.2.1; dsimp only; omega
    · have := h1.2.2.1; dsimp only; omega
    · have := h1.2.2.2; dsimp only; omega
/-- What lies where while value runs. -/
structure VS (w wr : World) (nb : Nat) (x : Qd) (f : Nat → Int) : Prop where
  bel : Below w.heap.size w wr
  qr : QB wr w.heap.size (co .zero)
  qw : QB wr (w.heap.size + 1) (co x)
  qn : QB wr nb f
  ge : w.heap.size + 2 ≤ nb
theorem VS.below {w wr w' : World} {nb : Nat} {x : Qd} {f : Nat → Int} (h : VS w wr nb x f) (hb : Below wr.heap.size wr w') : VS w w' nb x f :=
  ⟨h.bel.trans (hb.mono h.bel.size), h.qr.below hb, h.qw.below hb, h.qn.below hb, h.ge⟩
theorem VS.set {w wr : World} {nb : Nat} {x : Qd} {f : Nat → Int} (h : VS w wr nb x f) {j : Nat} (hj : j < 4) (u : Int) : VS w (wr.setCell ⟨nb, j, none⟩ (.int .i64 u)) nb x (fun i => if i = j then u else f i) := by
  have := h.ge
  exact ⟨h.bel.setCell (show _ ≤ nb by omega) _, h.qr.other _ (by omega), h.qw.other _ (by omega), h.qn.set hj u, h.ge⟩
theorem VS.congr {w wr : World} {nb : Nat} {x : Qd} {f g : Nat → Int} (h : VS w wr nb x f) (e : ∀ j, j < 4 → f j = g j) : VS w wr nb x g := ⟨h.bel, h.qr, h.qw, h.qn.congr e, h.ge⟩
theorem VS.drew {w wr : World} {nb : Nat} {x : Qd} {f : Nat → Int} (h : VS w wr nb x f) : VS w wr.drew nb x f := h.below (Below.refl _ _).drew
theorem co_add (n c : Qd) (x : Int) : ∀ j, co (addQ n x c) j = co n j + x * co c j
  | 0 => rfl
  | 1 => rfl
  | 2 => rfl
  | _ + 3 => rfl
theorem SQ.co {B : Nat} {q : Qd} (h : SQ B q) : ∀ j, (co q j).natAbs ≤ B
  | 0 => h.1
  | 1 => h.2.1
  | 2 => h.2.2.1
  | _ + 3 => h.2.2.2
theorem QB.put {w : World} {b : Nat} {f : Nat → Int} (h : QB w b f) (Y : Qd) :
    QB ((((w.setCell ⟨b, 0, none⟩ (.int .i64 Y.a)).setCell ⟨b, 1, none⟩ (.int .i64 Y.b)).setCell ⟨b, 2, none⟩ (.int .i64 Y.c)).setCell ⟨b, 3, none⟩ (.int .i64 Y.d)) b (co Y) :=
  ((((h.set (j := 0) (by omega) Y.a).set (j := 1) (by omega) Y.b).set (j := 2) (by omega) Y.c).set (j := 3) (by omega) Y.d).congr fun j hj => by
    rcases (show j = 0 ∨ j = 1 ∨ j = 2 ∨ j = 3 by omega) with rfl | rfl | rfl | rfl <;> rfl
theorem QB.others {w : World} {b b' : Nat} {f : Nat → Int} (h : QB w b f) (Y : Qd) (hne : b ≠ b') :
    QB ((((w.setCell ⟨b', 0, none⟩ (.int .i64 Y.a)).setCell ⟨b', 1, none⟩ (.int .i64 Y.b)).setCell ⟨b', 2, none⟩ (.int .i64 Y.c)).setCell ⟨b', 3, none⟩ (.int .i64 Y.d)) b f :=
  (((h.other _ hne).other _ hne).other _ hne).other _ hne
theorem put_below {a w : World} {b : Nat} (h : Below a.heap.size a w) (hb : a.heap.size ≤ b) (Y : Qd) :
    Below a.heap.size a ((((w.setCell ⟨b, 0, none⟩ (.int .i64 Y.a)).setCell ⟨b, 1, none⟩ (.int .i64 Y.b)).setCell ⟨b, 2, none⟩ (.int .i64 Y.c)).setCell ⟨b, 3, none⟩ (.int .i64 Y.d)) :=
  (((h.setCell hb _).setCell hb _).setCell hb _).setCell hb _
theorem worst_q {lt : Qd → Qd → Bool} {Q : Qd → Prop} {gs ps : List Int} {o : Nat} (HQ : ∀ j : Nat, j < o → Q (normN gs ps ((j : Int) + 1) ps.length)) : ∀ k, k < o → Q (worstN lt gs ps (k + 1))
  | 0, h => by unfold worstN; rw [if_pos (.inl rfl)]; exact HQ 0 h
  | k + 1, h => by
    unfold worstN
    split
    · exact HQ (k + 1) h
    · exact worst_q HQ k (by omega)
end Go.Proofs.YtodckaioeomccaaGreat
