/- Words for blocks, and steps of regions: what serves any struct (for texts that do not stand on the package exact). -/
import Derived.Test.YtfondpakbiagjaaGreatDoorBase2
import Derived.Test.YtfondpakbiagjaaGreatDoorSeqD
import Derived.Deep.MidRow
import Derived.StillTailTactics
namespace Go.Proofs.YtfondpakbiagjaaGreatDoor
open Go.RowKit
set_option linter.unusedVariables false
set_option linter.unusedSimpArgs false
/-- A value that is no word of a number. -/
def notWB : Value → Bool
  | .int .i64 _ => true
  | .int _ _ => false
  | _ => true
/-- Each word stays. -/
def Wd (w w' : World) : Prop := ∀ (b i : Nat) (u : Value), notWB u = false → w.cell? ⟨b, i, none⟩ = some u → w'.cell? ⟨b, i, none⟩ = some u
theorem Wd.refl (w : World) : Wd w w := fun _ _ _ _ h => h
theorem Wd.trans {a b c : World} (h : Wd a b) (k : Wd b c) : Wd a c := fun x i u hu e => k x i u hu (h x i u hu e)
theorem cell_lt {w : World} {b i : Nat} {u : Value} (h : w.cell? ⟨b, i, none⟩ = some u) : b < w.heap.size := by
  rcases Nat.lt_or_ge b w.heap.size with h' | h'
  · exact h'
  · unfold World.cell? at h
    simp [Array.getElem?_eq_none h'] at h
theorem Wd.of_below {w w' : World} (h : Below w.heap.size w w') : Wd w w' := fun b i u _ e => (h.cell (p := ⟨b, i, none⟩) (cell_lt e)).trans e
theorem Rd.wd {α : Type} {f : α → Value} {w w' : World} {S : Nat → Prop} {v : Value} {xs : List α} (hf : ∀ x, notWB (f x) = false) (h : Rd f w S v xs) (hw : Wd w w') : Rd f w' S v xs := by
  obtain ⟨A, cap, rfl, h1, h2, h3⟩ := h
  refine ⟨A, cap, rfl, h1, h2, fun hn => ?_⟩
  obtain ⟨b, off, rfl, hb, hc⟩ := h3 hn
  exact ⟨b, off, rfl, hb, fun i hi => hw _ _ _ (hf _) (hc i hi)⟩
theorem blk_lt {w : World} {b : Nat} {o : Obj} (h : w.heap[b]? = some o) : b < w.heap.size := (Array.getElem?_eq_some_iff.1 h).1
theorem blk_below {w w' : World} {b : Nat} {o : Obj} (h : w.heap[b]? = some o) (hb : Below w.heap.size w w') : w'.heap[b]? = some o := (hb.block b (blk_lt h)).trans h
theorem blk_cell {w : World} {b t : Nat} {cs : Array Value} (h : w.heap[b]? = some (.cells cs t (0, 0))) (i : Nat) : w.cell? ⟨b, i, none⟩ = cs[i]? := cell_of_row w b i _ t (0, 0) h
theorem blk_free {w : World} {b t : Nat} {cs : Array Value} (h : w.heap[b]? = some (.cells cs t (0, 0))) (i : Nat) : w.frozen? ⟨b, i, none⟩ = false := frozen_of_row w b i _ t h
theorem blk_set {w : World} {b t i : Nat} {cs : Array Value} (u : Value) (h : w.heap[b]? = some (.cells cs t (0, 0))) : (w.setCell ⟨b, i, none⟩ u).heap[b]? = some (.cells (cs.setIfInBounds i u) t (0, 0)) := by
  have hlt := blk_lt h
  have h' : w.heap[b] = .cells cs t (0, 0) := by simpa [Array.getElem?_eq_getElem hlt] using h
  show (w.heap.modify b _)[b]? = _
  rw [Array.getElem?_eq_getElem (by simpa using hlt), Array.getElem_modify_self, h']
  rfl
theorem blk_other {w : World} {b b' i : Nat} {o : Obj} (u : Value) (h : w.heap[b]? = some o) (hne : b ≠ b') : (w.setCell ⟨b', i, none⟩ u).heap[b]? = some o := (Below.heap_setCell w ⟨b', i, none⟩ u b hne).trans h
/-- A block without words. -/
def NoW (w : World) (b : Nat) : Prop := ∀ (i : Nat) (u : Value), w.cell? ⟨b, i, none⟩ = some u → notWB u = true
theorem NoW.of {w : World} {b t : Nat} {cs : Array Value} (h : w.heap[b]? = some (.cells cs t (0, 0))) (hc : cs.toList.all notWB = true) : NoW w b := fun i u e => by
  rw [blk_cell h i] at e
  exact List.all_eq_true.1 hc u (Array.mem_toList_iff.2 (Array.mem_of_getElem? e))
/-- Stores into one block without words. -/
def Wset (b : Nat) (w w' : World) : Prop := Wd w w' ∧ NoW w' b
theorem Wset.start {w : World} {b : Nat} (h : NoW w b) : Wset b w w := ⟨.refl _, h⟩
theorem Wset.set {w w' : World} {b i : Nat} {u : Value} (h : Wset b w w') (hu : notWB u = true) : Wset b w (w'.setCell ⟨b, i, none⟩ u) := by
  refine ⟨h.1.trans fun b' i' x hx e => ?_, fun i' x e => ?_⟩
  · by_cases hp : (⟨b', i', none⟩ : Addr) = ⟨b, i, none⟩
    · simp only [Addr.mk.injEq] at hp
      obtain ⟨rfl, rfl, _⟩ := hp
      have := h.2 _ _ e
      rw [hx] at this; cases this
    · rw [World.cell?_setCell_other w' ⟨b, i, none⟩ ⟨b', i', none⟩ u (fun e => hp e.symm)]; exact e
  · by_cases hp : i' = i
    · subst hp
      obtain ⟨y, hy⟩ : ∃ y, w'.cell? ⟨b, i', none⟩ = some y := by
        unfold World.cell? World.setCell at e
        unfold World.cell?
        simp only [Array.getElem?_modify, if_true] at e
        generalize w'.heap[b]? = q at e ⊢
        match q, e with
        | some (.cells c t m), e =>
          simp only [Option.map_some, Option.isSome_none, Bool.false_eq_true, if_false] at e ⊢
          rcases Nat.lt_or_ge i' c.size with h1 | h1
          · exact ⟨_, Array.getElem?_eq_getElem h1⟩
          · rw [Array.getElem?_eq_none (by simpa using h1)] at e; cases e
      rw [World.cell?_setCell_same _ _ _ hy] at e
      exact (Option.some.inj e) ▸ hu
    · rw [World.cell?_setCell_other w' ⟨b, i, none⟩ ⟨b, i', none⟩ u (fun e => hp (by simp only [Addr.mk.injEq] at e; exact e.2.1.symm))] at e
      exact h.2 _ _ e
/-- Stores into cells that follow each other. -/
def setsW (w : World) (b o : Nat) : List Value → World
  | [] => w
  | v :: vs => setsW (w.setCell ⟨b, o, none⟩ v) b (o + 1) vs
theorem sets_wset {b : Nat} {w : World} : ∀ {vs : List Value} {o : Nat} {w' : World}, Wset b w w' → vs.all notWB = true → Wset b w (setsW w' b o vs)
  | [], _, _, h, _ => h
  | v :: vs, o, w', h, hv => by
    simp only [List.all_cons, Bool.and_eq_true] at hv
    exact sets_wset (vs := vs) (h.set hv.1) hv.2
theorem sets_wd {b o : Nat} {w : World} {vs : List Value} (h : NoW w b) (hv : vs.all notWB = true) : Wd w (setsW w b o vs) := (sets_wset (.start h) hv).1
theorem sets_other {b b' : Nat} {ob : Obj} : ∀ {vs : List Value} {o : Nat} {w : World}, w.heap[b]? = some ob → b ≠ b' → (setsW w b' o vs).heap[b]? = some ob
  | [], _, _, h, _ => h
  | v :: vs, o, w, h, hne => sets_other (vs := vs) (blk_other v h hne) hne
theorem sets_size {b : Nat} : ∀ {vs : List Value} {o : Nat} {w : World}, (setsW w b o vs).heap.size = w.heap.size
  | [], _, _ => rfl
  | v :: vs, o, w => (sets_size (vs := vs)).trans (by simp [World.setCell])
theorem sets_below {b B : Nat} {w : World} (hb : B ≤ b) : ∀ {vs : List Value} {o : Nat} {w' : World}, Below B w w' → Below B w (setsW w' b o vs)
  | [], _, _, h => h
  | v :: vs, o, w', h => sets_below hb (vs := vs) (h.setCell hb v)
theorem sets_blk {b t : Nat} : ∀ {vs p q r : List Value} {w : World}, w.heap[b]? = some (.cells (p ++ q ++ r).toArray t (0, 0)) → q.length = vs.length → (setsW w b p.length vs).heap[b]? = some (.cells (p ++ vs ++ r).toArray t (0, 0))
  | [], p, q, r, w, h, hl => by
    rw [List.length_eq_zero_iff.1 hl] at h
    exact h
  | v :: vs, p, q, r, w, h, hl => by
    match q, hl with
    | x :: q, hl =>
      have h1 := blk_set (i := p.length) v h
      have e : (p ++ x :: q ++ r).toArray.setIfInBounds p.length v = ((p ++ [v]) ++ q ++ r).toArray := by
        simp [List.setIfInBounds_toArray]
      rw [e] at h1
      have := sets_blk (vs := vs) h1 (by simpa using hl)
      rw [show (p ++ [v]).length = p.length + 1 by simp] at this
      show (setsW (w.setCell ⟨b, p.length, none⟩ v) b (p.length + 1) vs).heap[b]? = _
      simpa using this
class WdSt (p : Prop) (w w' : World) (q : outParam Prop) : Prop where
  st : Wd w w' → p → q
theorem kW {p q : Prop} {w w' : World} [WdSt p w w' q] (hT : Wd w w') (h : Hid p) : Hid q := WdSt.st hT h.out
theorem st_al0 (w : World) (cs : Array Value) (t : TypeId) : ∃ W, Hid (W = w.alloc (.cells cs t)) ∧ Hid (W.heap[w.heap.size]? = some (.cells cs t (0, 0))) ∧ Hid (W.heap.size = w.heap.size + 1) ∧ Below w.heap.size w W :=
  ⟨_, rfl, heap_alloc_new w _, by show _ = _; simp, (Below.refl _ _).alloc (Nat.le_refl _) _⟩
theorem st_alk {w w0 : World} (k k' : Nat) (cs : Array Value) (t : TypeId) (hs : Hid (w.heap.size = w0.heap.size + k)) (hk : k' = k + 1) :
    ∃ W, Hid (W = w.alloc (.cells cs t)) ∧ Hid (W.heap[w0.heap.size + k]? = some (.cells cs t (0, 0))) ∧ Hid (W.heap.size = w0.heap.size + k') ∧ Below w.heap.size w W := by
  refine ⟨_, rfl, ?_, ?_, (Below.refl _ _).alloc (Nat.le_refl _) _⟩
  · show _ = _; rw [← hs.out]; exact heap_alloc_new w _
  · show _ = _; have := hs.out; simp; omega
theorem kB {w w' : World} {b : Nat} {o : Obj} (h : Hid (w.heap[b]? = some o)) (hb : Below w.heap.size w w') : Hid (w'.heap[b]? = some o) := blk_below h hb
theorem kU {a w w' : World} (h : Hid (Below a.heap.size a w)) (k : Below w.heap.size w w') : Hid (Below a.heap.size a w') := h.out.trans (k.mono h.out.size)
theorem kM1 {w W : World} {b o : Nat} {v : Value} (h : Hid (W = w.setCell ⟨b, o, none⟩ v)) : W = setsW w b o [v] := h
theorem kN {w W : World} {b o t : Nat} {cs : Array Value} {vs : List Value} (hS : W = setsW w b o vs) (h : Hid (w.heap[b]? = some (.cells cs t (0, 0)))) (h1 : cs.toList.all notWB = true) (h2 : vs.all notWB = true) : Wd w W := by
  rw [hS]; exact sets_wd (NoW.of h.out h1) h2
theorem kO {w W : World} {b b' o : Nat} {ob : Obj} {vs : List Value} (hS : W = setsW w b' o vs) (h : Hid (w.heap[b]? = some ob)) (hne : b ≠ b') : Hid (W.heap[b]? = some ob) := by
  rw [hS]; exact sets_other h.out hne
def putL (o : Nat) (vs cs : List Value) : List Value := cs.take o ++ vs ++ cs.drop (o + vs.length)
theorem kP {w W : World} {b o t : Nat} {vs cs ds : List Value} (hS : W = setsW w b o vs) (h : Hid (w.heap[b]? = some (.cells cs.toArray t (0, 0)))) (h1 : Nat.ble (o + vs.length) cs.length = true) (h2 : putL o vs cs = ds) :
    Hid (W.heap[b]? = some (.cells ds.toArray t (0, 0))) := by
  have h1 := Nat.le_of_ble_eq_true h1
  have e : cs = cs.take o ++ (cs.drop o).take vs.length ++ cs.drop (o + vs.length) := by
    rw [← List.drop_drop, List.append_assoc, List.take_append_drop, List.take_append_drop]
  have h' := h.out
  rw [e] at h'
  have := sets_blk (vs := vs) h' (by rw [List.length_take, List.length_drop]; omega)
  rw [List.length_take, Nat.min_eq_left (by omega)] at this
  show _ = _
  rw [hS, ← h2]
  exact this
theorem kPf {w W : World} {b t : Nat} {vs cs : List Value} (hS : W = setsW w b 0 vs) (h : Hid (w.heap[b]? = some (.cells cs.toArray t (0, 0)))) (hl : cs.length = vs.length) : Hid (W.heap[b]? = some (.cells vs.toArray t (0, 0))) :=
  kP hS h (Nat.ble_eq_true_of_le (by omega)) (by unfold putL; rw [List.take_zero, List.nil_append, Nat.zero_add, ← hl, List.drop_length, List.append_nil])
theorem tt {a b c : World} (h : Below a.heap.size a b) (k : Below b.heap.size b c) : Below a.heap.size a c := h.trans (k.mono h.size)
theorem klt {w : World} {b : Nat} {o : Obj} (h : Hid (w.heap[b]? = some o)) : Hid (b < w.heap.size) := blk_lt h.out
theorem ksz {a w : World} (h : Hid (Below a.heap.size a w)) : Hid (a.heap.size ≤ w.heap.size) := h.out.size
theorem nlt {a b : Nat} (h : Nat.ble (a + 1) b = true := by rfl) : a < b := Nat.le_of_ble_eq_true h
theorem mV {P : Program} {f : FuncId} {ar : Array Value} {w : World} {v : Value} {K : Ending → World → Prop} (h : Calls P f ar w fun e w' => e = .returned v ∧ Below w.heap.size w w') (k : ∀ w', Below w.heap.size w w' → K (.returned v) w') : Calls P f ar w K :=
  h.mono fun e w' ⟨he, hb⟩ => by subst he; exact k w' hb
theorem kS {a w W : World} {b o : Nat} {vs : List Value} (hS : W = setsW w b o vs) (hle : Hid (a.heap.size ≤ b)) (h : Hid (Below a.heap.size a w)) : Hid (Below a.heap.size a W) := by
  show Below _ _ _; rw [hS]; exact sets_below hle.out h.out
theorem kZ {w W : World} {b o : Nat} {vs : List Value} (hS : W = setsW w b o vs) : Hid (W.heap.size = w.heap.size) := by show _ = _; rw [hS]; exact sets_size
theorem kC {w : World} {b t : Nat} {cs : List Value} {v : Value} (h : Hid (w.heap[b]? = some (.cells cs.toArray t (0, 0)))) (i : Nat) (hv : cs[i]? = some v) : w.cell? ⟨b, i, none⟩ = some v := by
  rw [blk_cell h.out]; simpa using hv
theorem kD {w : World} {b t : Nat} {cs : Array Value} (h : Hid (w.heap[b]? = some (.cells cs t (0, 0)))) (i : Nat) : w.cell? ⟨b, i, none⟩ = cs[i]? := blk_cell h.out i
theorem kF {w : World} {b t : Nat} {cs : Array Value} (h : Hid (w.heap[b]? = some (.cells cs t (0, 0)))) (i : Nat) : w.frozen? ⟨b, i, none⟩ = false := blk_free h.out i

theorem kV {p q : Prop} {w w' : World} [WdSt p w w' q] (hb : Below w.heap.size w w') (h : Hid p) : Hid q := kW (Wd.of_below hb) h
section
variable {P : Program} {ops : Array Oper} {Q : Exit → Act → World → Prop} {S : World → Prop}
def pull {α : Type} : Nat → List α → List α
  | 0, l => l
  | _ + 1, [] => []
  | n + 1, x :: l => match pull n l with
    | [] => [x]
    | y :: r => y :: x :: r
theorem pull_perm {α : Type} : ∀ (n : Nat) (l : List α), (pull n l).Perm l
  | 0, l => by simp [pull]
  | _ + 1, [] => by simp [pull]
  | n + 1, x :: l => by
    have h := pull_perm n l
    simp only [pull]
    split
    · rename_i e; rw [e] at h; exact List.Perm.cons x h
    · rename_i y r e; rw [e] at h; exact (List.Perm.swap x y r).trans (List.Perm.cons x h)
theorem seq_pull {l : List (Nat × Oper)} {a : Act} {w : World} (n : Nat) (h : Seq P ops Q S (pull n l) a w) : Seq P ops Q S l a w := seq_perm (pull_perm n l) h
end
section
variable {P : Program} {ops : Array Oper} {Q : Exit → Act → World → Prop} {S : World → Prop}
theorem plq {l m : List (Nat × Oper)} {a : Act} {w : World} (n : Nat) (hm : pull n l = m := by first | (simp only [places, pull]; rfl) | rfl) (h : Seq P ops Q S m a w) : Seq P ops Q S l a w := by
  subst hm
  exact seq_pull n h
end

theorem blk_there {w : World} {b t off n : Nat} {cs : Array Value} (h : w.heap[b]? = some (.cells cs t (0, 0))) (hn : off + n ≤ cs.size) : w.there b off n := fun j hj =>
  ⟨by rw [blk_cell h, Array.getElem?_eq_getElem (by omega)]; rfl, blk_free h _⟩
theorem blk_range {w : World} {b t : Nat} {p q r : List Value} (h : w.heap[b]? = some (.cells (p ++ q ++ r).toArray t (0, 0))) : w.rangeAt b p.length q := fun j v hj => by
  have hl := (List.getElem?_eq_some_iff.1 hj).1
  rw [blk_cell h]
  simp only [List.getElem?_toArray]
  rw [List.append_assoc, List.getElem?_append_right (by omega), Nat.add_sub_cancel_left, List.getElem?_append_left hl]
  exact hj
theorem setCells_sets (b : Nat) : ∀ (vs : List Value) (o : Nat) (w : World), w.setCells b o vs = setsW w b o vs
  | [], _, _ => rfl
  | v :: vs, o, w => setCells_sets b vs (o + 1) _
/-- One result, read out of its cells. -/
theorem results_cell {P : Program} {fn : Func} {t b : Nat} {ty : TypeId} {tmps : Array Value} {w : World} {d : TypeDesc} {cs : List Value} (h : fn.results = #[.cell t ty]) (hp : tmps.getD t undef = .pointer (some ⟨b, 0, none⟩)) (hc : w.rangeAt b 0 cs)
    (hu : P.underlying ty = some d) (hd : d.isRow = true) (hi : (P.info? ty).map (·.size) = some cs.length) : (results fn tmps).run P w = .ok (.agg cs.toArray) w := by
  have hl := run_loadVar_mid w b 0 ty cs d hc hu hd hi
  rw [Array.getD_eq_getD_getElem?] at hp
  simp [results, h, hp, asAddr, hl]
/-- A result and an error. -/
theorem results_cell_tmp {P : Program} {fn : Func} {t u b : Nat} {ty : TypeId} {tmps : Array Value} {w : World} {d : TypeDesc} {cs : List Value} (h : fn.results = #[.cell t ty, .tmp u]) (hp : tmps.getD t undef = .pointer (some ⟨b, 0, none⟩)) (hc : w.rangeAt b 0 cs)
    (hu : P.underlying ty = some d) (hd : d.isRow = true) (hi : (P.info? ty).map (·.size) = some cs.length) : (results fn tmps).run P w = .ok (.tuple #[.agg cs.toArray, tmps.getD u undef]) w := by
  have hl := run_loadVar_mid w b 0 ty cs d hc hu hd hi
  rw [Array.getD_eq_getD_getElem?] at hp
  simp [results, h, hp, asAddr, hl]
theorem blk_all {w : World} {b t : Nat} {cs : List Value} (h : w.heap[b]? = some (.cells cs.toArray t (0, 0))) : w.rangeAt b 0 cs := blk_range (p := []) (q := cs) (r := []) (by simpa using h)
/-- Stores of many cells, in few words. -/
theorem smd {P : Program} {ops : Array Oper} {rest : List Oper} {op : Oper} {a : Act} {w : World} {Q : Exit → Act → World → Prop} {x y : Operand} {cells : Array Value} {n : Nat} (ty : TypeId) (b o : Nat) (hgd : op.guard = none := by rfl) (ho : op.op = .store ty x y := by rfl)
    (hx : a.eval x = .pointer (some ⟨b, o, none⟩) := by rfl) (hy : a.eval y = .agg cells := by rfl) (ht : Hid (w.there b o n)) (hn : cells.size = n := by rfl) (hi : (P.info? ty).map (·.size) = some n := by kernel_rfl) (h1 : cells.all (·.oneCell') = true := by kernel_rfl)
    (h : wpList P ops Q rest (a.put op.dst undef) (w.setCells b o cells.toList)) : wpList P ops Q (op :: rest) a w := by
  subst hn
  exact wpList_store_mid hgd ty x y ho b o cells hx hy ht.out hi h1 h
theorem smw {P : Program} {op : Oper} {a : Act} {w : World} {K : Act → World → Prop} {Q : Exit → Act → World → Prop} {x y : Operand} {cells : Array Value} {n : Nat} (ty : TypeId) (b o : Nat) (ho : op.op = .store ty x y := by rfl)
    (hx : a.eval x = .pointer (some ⟨b, o, none⟩) := by rfl) (hy : a.eval y = .agg cells := by rfl) (ht : Hid (w.there b o n)) (hn : cells.size = n := by rfl) (hi : (P.info? ty).map (·.size) = some n := by kernel_rfl) (h1 : cells.all (·.oneCell') = true := by kernel_rfl)
    (h : K (a.put op.dst undef) (w.setCells b o cells.toList)) : op.wp P a w K Q := by
  subst hn
  exact wp_store_mid ty x y ho b o cells hx hy ht.out hi h1 h
theorem kth {w : World} {b t : Nat} {cs : Array Value} (o n : Nat) (h : Hid (w.heap[b]? = some (.cells cs t (0, 0)))) (hn : Nat.ble (o + n) cs.size = true := by rfl) : Hid (w.there b o n) := blk_there h.out (Nat.le_of_ble_eq_true hn)
theorem kM {w W : World} {b o : Nat} {vs : List Value} (h : Hid (W = w.setCells b o vs)) : W = setsW w b o vs := h.out.trans (setCells_sets _ _ _ _)

theorem box_new (w1 : World) (t : TypeId) {z cs : List Value} {n : Nat} (hz : z.length = n) (hl : cs.length = n) :
    (w1.alloc (.cells z.toArray t)).there w1.heap.size 0 n ∧
    ∃ W, Hid (W = (w1.alloc (.cells z.toArray t)).setCells w1.heap.size 0 cs) ∧ Hid (W.heap[w1.heap.size]? = some (.cells cs.toArray t (0, 0))) ∧ Below w1.heap.size w1 W := by
  obtain ⟨W0, h0, hb, hs, j⟩ := st_al0 w1 z.toArray t
  rw [← h0.out]
  obtain ⟨W, hW⟩ : ∃ W, Hid (W = W0.setCells w1.heap.size 0 cs) := ⟨_, rfl⟩
  refine ⟨blk_there hb.out (by simp [hz]), W, hW, ?_, ?_⟩
  · refine kP (kM hW) (cs := z) hb (Nat.ble_eq_true_of_le (by omega)) ?_
    unfold putL
    rw [List.take_zero, List.nil_append, Nat.zero_add, hl, ← hz, List.drop_length, List.append_nil]
  · exact (kS (a := w1) (kM hW) (Nat.le_refl _) (kU (Lib.hid (Below.refl _ w1)) j)).out
/-- A load of many cells that its guard lets run. -/
theorem wpList_load_midG {P : Program} {ops : Array Oper} {rest : List Oper} {op : Oper} {a : Act} {w : World} {Q : Exit → Act → World → Prop} (hw : Region.wanted op (yielded ops a.tmps) = true) (ty : TypeId) (x : Operand) (ho : op.op = .load ty x)
    (b o : Nat) (hx : a.eval x = .pointer (some ⟨b, o, none⟩)) (cs : List Value) (d : TypeDesc) (hc : w.rangeAt b o cs) (hu : P.underlying ty = some d) (hd : d.isRow = true) (hi : (P.info? ty).map (·.size) = some cs.length)
    (h : wpList P ops Q rest (a.put op.dst (.agg cs.toArray)) w) : wpList P ops Q (op :: rest) a w :=
  wpList_step fun K hK => by simp only [hw, if_true]; exact wp_load_mid ty x ho b o hx cs d hc hu hd hi (hK _ _ h)

end Go.Proofs.YtfondpakbiagjaaGreatDoor
