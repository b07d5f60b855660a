/- A set of names that the call made, as a map from names to bools. The walk of the statement PlantRecalls. PlantRecalls: for every input the law returns true; each argument reads afterwards as it read before. No condition. -/
import Derived.Test.YtlanephpmoajiaaMap
import Derived.RangeFuncFrom
import Derived.Test.YtlanephpmoajiaaRecPl
import Derived.Test.YtlanephpmoajiaaLeads
import Derived.Test.YtlanephpmoajiaaAllLoop
import Derived.Test.YtlanephpmoajiaaOpenKF
import Derived.Test.YtlanephpmoajiaaCertPlain
import Derived.Test.YtlanephpmoajiaaRows
import Derived.WalkKit
import Derived.ProofKit
import Derived.OpenShut
import Derived.ShutString
import Derived.ChangeOld
import Derived.Below
import Derived.Test.YtlanephpmoajiaaItems
namespace Go.Proofs.Ytlanephpmoajiaa
open Go.RowKit Go.Maps Go.WideMaps
set_option linter.unusedVariables false
theorem zero4 (w : World) : (zeroValue 4).run Try.prog w = .ok (.bool false) w := by kernel_rfl
theorem plainElem_bool_inv {H : Type} {P : Program} {e : TypeId} (he : P.underlying e = some .bool) {v : Value} {z : DataW H × List MemPlace} (h : plainElem P e v = some z) : ∃ b, v = .bool b ∧ z = (.lit (.bool b), []) := by
  unfold plainElem at h
  rw [he] at h
  cases v <;> simp at h
  exact ⟨_, rfl, h.symm⟩
/-- Block b is a map of at most c entries that leads a name to true if m does, and else to false or nowhere. -/
def SetIs (w : World) (b c : Nat) (m : ByteArray → Bool) : Prop :=
  ∃ (n : Nat) (D : DataW Unit), w.ownsMap Try.prog 9 (plainElem Try.prog 4) b n D ∧ n ≤ c ∧ IsMap D ∧ ∀ nm : ByteArray, D.atKey (.string nm.data.toList) (.lit (.bool false)) = .lit (.bool (m nm))
theorem SetIs.same {w w' : World} {b c : Nat} {m : ByteArray → Bool} (h : SetIs w b c m) (hb : w'.heap[b]? = w.heap[b]?) : SetIs w' b c m := by
  obtain ⟨n, D, ⟨es, clock, h1, h2⟩, h3⟩ := h
  exact ⟨n, D, ⟨es, clock, hb.trans h1, h2⟩, h3⟩
theorem SetIs.lt {w : World} {b c : Nat} {m : ByteArray → Bool} (h : SetIs w b c m) : b < w.heap.size := let ⟨_, _, h, _⟩ := h; h.lt
theorem SetIs.mono {w : World} {b c d : Nat} {m : ByteArray → Bool} (h : SetIs w b c m) (hd : c ≤ d) : SetIs w b d m := let ⟨n, D, h1, h2, h3⟩ := h; ⟨n, D, h1, Nat.le_trans h2 hd, h3⟩
theorem SetIs.made (w : World) : SetIs (w.alloc (.map #[] 0)) w.heap.size 0 (fun _ => false) :=
  ⟨0, .map [], World.ownsMap_made _ _ _ _, Nat.le_refl _, isMap_empty, fun _ => rfl⟩
theorem SetIs.isMap {w : World} {b c : Nat} {m : ByteArray → Bool} (h : SetIs w b c m) : ∃ es k, w.heap[b]? = some (.map es k) := let ⟨_, _, ⟨es, k, h, _⟩, _⟩ := h; ⟨es, k, h⟩
theorem SetIs.look {w : World} {b c : Nat} {m : ByteArray → Bool} {nm : ByteArray} (h : SetIs w b c m) (hnm : nm.size ≤ maxLen) : (Instr.lookup 111 (.map (some b)) (.string nm) false).run Try.prog w = .ok (.bool (m nm)) w := by
  have hk : keyOf Try.prog 9 (.string nm) = some (.string nm.data.toList) := keyOf_string_mk Try.underlying9 hnm
  obtain ⟨n, D, h1, h2, h3, h4⟩ := h
  obtain ⟨v, ps, hr, hv⟩ := h1.lookup keyed9 Try.underlying111 (zero4 w) (plainElem_bool (H := Unit) Try.underlying4 false) hk
  rw [hr]
  obtain ⟨q, rfl, hq⟩ := plainElem_bool_inv Try.underlying4 hv
  rw [h4 nm] at hq
  simp only [Prod.mk.injEq, DataW.lit.injEq, Lit.bool.injEq] at hq
  rw [hq.1]
theorem SetIs.add {w : World} {b c : Nat} {m : ByteArray → Bool} {nm : ByteArray} (h : SetIs w b c m) (hnm : nm.size ≤ maxLen) (hc : c ≤ 2000) :
    ∃ w', (Instr.mapUpdate 111 (.map (some b)) (.string nm) (.bool true)).run Try.prog w = .ok () w' ∧ SetIs w' b (c + 1) (fun t => decide (t = nm) || m t) ∧ w.grownBy w' (some b) := by
  have hk : keyOf Try.prog 9 (.string nm) = some (.string nm.data.toList) := keyOf_string_mk Try.underlying9 hnm
  obtain ⟨n, D, h1, h2, h3, h4⟩ := h
  obtain ⟨w', hr, ho, hg⟩ := h1.update keyed9 Try.underlying111 (by unfold maxLen; omega) hk (plainElem_bool (H := Unit) Try.underlying4 true)
  refine ⟨w', hr, ⟨n + 1, _, ho, by omega, h3.put _ _, fun t => ?_⟩, hg⟩
  by_cases hn : nm = t
  · subst hn
    rw [atKey_put_same h3 (Keyed.key keyed9 hk)]
    simp
  · rw [atKey_put_other (by intro e; simp only [Lit.string.injEq] at e; exact hn (ba_inj e).symm), h4]
    simp [show ¬ t = nm from fun e => hn e.symm]
/-- A set below B abides what the law of a loop over a function writes from B on. -/
theorem SetIs.from_ {α : Type} (B b c : Nat) (hb : b < B) (m : α → ByteArray → Bool) : OwnFrom B (fun (s : α) W => SetIs W b c (m s)) := fun s X Y row hs hg hr =>
  hs.same (hg.block b hs.lt (fun e => by have := (hr b e.symm).1; omega))
end Go.Proofs.Ytlanephpmoajiaa

namespace Go.Proofs.Ytlanephpmoajiaa
open Go.RowKit Go.Shelf
set_option linter.unusedVariables false
set_option linter.unusedSimpArgs false
attribute [local go_sem] Oper.semAt_some
theorem rdK_take {α : Type} {k : Nat} {f : α → List Value} {w : World} {S : Nat → Prop} {A : Option Addr} {n c : Nat} {x : α} {xs : List α} (h : RdK k f w S (.slice A n c) (x :: xs)) : RdK k f w S (.slice A 1 c) [x] := by
  obtain ⟨A', c', he, h1, h2, h3⟩ := h
  cases he
  obtain ⟨b, off, rfl, hb, hc⟩ := h3 (by simp)
  refine ⟨_, _, rfl, by simp at h1 ⊢; omega, h2, fun _ => ⟨b, off, rfl, hb, fun i y hy j u hu => ?_⟩⟩
  cases i with
  | zero => simp at hy; subst hy; exact hc 0 _ rfl j u hu
  | succ i => simp at hy
theorem rdK_tail {α : Type} {k : Nat} {f : α → List Value} {w : World} {S : Nat → Prop} {b off n c : Nat} {x y : α} {xs : List α} (h : RdK k f w S (.slice (some ⟨b, off, none⟩) n c) (x :: y :: xs)) : RdK k f w S (.slice (some ⟨b, off + k, none⟩) (n - 1) (c - 1)) (y :: xs) := by
  obtain ⟨A', c', he, h1, h2, h3⟩ := h
  cases he
  obtain ⟨b', off', e, hb, hc⟩ := h3 (by simp)
  cases e
  refine ⟨_, _, rfl, by simp at h1 ⊢; omega, by omega, fun _ => ⟨b, off + k, rfl, hb, fun i z hz j u hu => ?_⟩⟩
  have := hc (i + 1) z hz j u hu
  rw [show off + (i + 1) * k + j = off + k + i * k + j by rw [Nat.add_mul]; omega] at this
  exact this
/-- The four boxes of the call's own, and what lay. -/
structure RcB (w : World) (f g : FaultD) (vu : Value) (wr : World) : Prop where
  bel : Below w.heap.size w wr
  b0 : wr.heap[w.heap.size]? = some (.cells #[.string f.item, .int .i64 f.since, .int .i64 f.until_] 47)
  b1 : wr.heap[w.heap.size + 1]? = some (.cells #[.string g.item, .int .i64 g.since, .int .i64 g.until_] 47)
  b2 : wr.heap[w.heap.size + 2]? = some (.cells #[vu] 33)
  b3 : Boxed wr (w.heap.size + 3) 4 (.bool false)
theorem RcB.lt {w wr : World} {f g : FaultD} {vu : Value} (h : RcB w f g vu wr) : w.heap.size + 3 < wr.heap.size := h.b3.lt
theorem RcB.below {w wr w2 : World} {f g : FaultD} {vu : Value} (h : RcB w f g vu wr) (hb : Below wr.heap.size wr w2) : RcB w f g vu w2 :=
  have hl := h.lt
  ⟨h.bel.trans (hb.mono h.bel.size), (hb.block _ (by omega)).trans h.b0, (hb.block _ (by omega)).trans h.b1, (hb.block _ (by omega)).trans h.b2, (hb.block _ hl).trans h.b3⟩
theorem rcB_new (w : World) (f g : FaultD) (vu : Value) : RcB w f g vu ((((w.alloc (.cells #[.string f.item, .int .i64 f.since, .int .i64 f.until_] 47)).alloc (.cells #[.string g.item, .int .i64 g.since, .int .i64 g.until_] 47)).alloc (.cells #[vu] 33)).alloc (.cells #[.bool false] 4)) := by
  have s1 : (w.alloc (.cells #[.string f.item, .int .i64 f.since, .int .i64 f.until_] 47)).heap.size = w.heap.size + 1 := by simp
  have s2 : ((w.alloc (.cells #[.string f.item, .int .i64 f.since, .int .i64 f.until_] 47)).alloc (.cells #[.string g.item, .int .i64 g.since, .int .i64 g.until_] 47)).heap.size = w.heap.size + 2 := by simp
  have s3 : (((w.alloc (.cells #[.string f.item, .int .i64 f.since, .int .i64 f.until_] 47)).alloc (.cells #[.string g.item, .int .i64 g.since, .int .i64 g.until_] 47)).alloc (.cells #[vu] 33)).heap.size = w.heap.size + 3 := by simp
  refine ⟨((((Below.refl _ w).alloc (Nat.le_refl _) _).alloc (by simp) _).alloc (by simp; omega) _).alloc (by simp; omega) _, ?_, ?_, ?_, ?_⟩
  · rw [Below.heap_alloc _ _ _ (by omega), Below.heap_alloc _ _ _ (by omega), Below.heap_alloc _ _ _ (by omega)]; exact heap_alloc_new w _
  · rw [Below.heap_alloc _ _ _ (by omega), Below.heap_alloc _ _ _ (by omega)]; have := heap_alloc_new (w.alloc (.cells #[.string f.item, .int .i64 f.since, .int .i64 f.until_] 47)) (.cells #[.string g.item, .int .i64 g.since, .int .i64 g.until_] 47); rwa [s1] at this
  · rw [Below.heap_alloc _ _ _ (by omega)]; have := heap_alloc_new ((w.alloc (.cells #[.string f.item, .int .i64 f.since, .int .i64 f.until_] 47)).alloc (.cells #[.string g.item, .int .i64 g.since, .int .i64 g.until_] 47)) (.cells #[vu] 33); rwa [s2] at this
  · have := Boxed.new (((w.alloc (.cells #[.string f.item, .int .i64 f.since, .int .i64 f.until_] 47)).alloc (.cells #[.string g.item, .int .i64 g.since, .int .i64 g.until_] 47)).alloc (.cells #[vu] 33)) 4 (.bool false); rwa [s3] at this
theorem two_rdK (w : World) (f g : FaultD) : RdK 3 ftC (w.alloc (.cells #[.string f.item, .int .i64 f.since, .int .i64 f.until_, .string g.item, .int .i64 g.since, .int .i64 g.until_] 47)) (fun _ => True) (.slice (some ⟨w.heap.size, 0, none⟩) 2 2) [f, g] := by
  refine ⟨_, 2, rfl, Nat.le_refl _, by simp [maxLen], fun _ => ⟨w.heap.size, 0, rfl, trivial, fun i x hx j u hu => ?_⟩⟩
  refine (cell_of_row _ _ (0 + i * 3 + j) _ _ _ (heap_alloc_new w _)).trans ?_
  rcases i with _ | _ | i
  · simp at hx; subst hx
    rcases j with _ | _ | _ | j <;> simp [ftC] at hu <;> subst hu <;> rfl
  · simp at hx; subst hx
    rcases j with _ | _ | _ | j <;> simp [ftC] at hu <;> subst hu <;> rfl
  · simp at hx
theorem leaveK0 {fn : Func} {a : Act} {w W : World} {b : Nat} (hq : W.cell? ⟨b, 0, none⟩ = some (.bool true)) (hb : Below w.heap.size w W)
    (hr : ∀ W' : World, W'.cell? ⟨b, 0, none⟩ = some (.bool true) → (results fn a.tmps).run Try.prog W' = .ok (.bool true) W') (hd : a.defers = []) :
    bodyPostM Fence.wide 3 Try.prog fn (fun e w' => e = .returned (.bool true) ∧ Below w.heap.size w w') .ret a W := by
  show LeavesInM Fence.wide 3 Try.prog fn a.tmps _ a.defers .returning W
  rw [hd]
  exact ⟨.bool true, hr _ hq, rfl, hb⟩
/-- The result is stored, and the call left. -/
theorem RcB.done {w wr w2 : World} {f g : FaultD} {vu : Value} (h : RcB w f g vu wr) (hb : Below wr.heap.size wr w2) : w2.cell? ⟨w.heap.size + 3, 0, none⟩ = some (.bool false) ∧ w2.frozen? ⟨w.heap.size + 3, 0, none⟩ = false ∧ (w2.setCell ⟨w.heap.size + 3, 0, none⟩ (.bool true)).cell? ⟨w.heap.size + 3, 0, none⟩ = some (.bool true) ∧ Below w.heap.size w (w2.setCell ⟨w.heap.size + 3, 0, none⟩ (.bool true)) :=
  have h2 := h.below hb
  ⟨h2.b3.cell, h2.b3.frozen, (h2.b3.set _).cell, h2.bel.setCell (p := ⟨w.heap.size + 3, 0, none⟩) (by show w.heap.size ≤ w.heap.size + 3; omega) _⟩
def ReL (w : World) (err : Int) (L : List ByteArray) (e : Ending) (w' : World) : Prop := ∃ v, e = .returned (.tuple #[v, .int .i64 err]) ∧ Rd .string w' (fun _ => True) v L ∧ Below w.heap.size w w'
def recaL (xs : List ItemD) (l : List FaultD) : List ByteArray := if recallErr xs l = 0 then namesOf xs (recMs xs l) else []
theorem reL_recall {w w' : World} {xs : List ItemD} {l : List FaultD} {e : Ending} (h : RecallPost w xs l e w') : ReL w (recallErr xs l) (recaL xs l) e w' := by
  obtain ⟨v, he, hr, hb⟩ := h; exact ⟨v, he, hr.mono fun _ _ => trivial, hb⟩
theorem reL_trail {w w' : World} {xs : List ItemD} {f : FaultD} {nm : ByteArray} {e : Ending} (h : TrailPost w xs f nm e w') : ReL w (trailErr xs f nm) (trailL xs f nm) e w' := by
  obtain ⟨v, he, hr, hb⟩ := h; exact ⟨v, he, hr.mono fun _ _ => trivial, hb⟩
/-- What the loop over All leaves: the set of names, each one that the fault may be in; the count of the choices. -/
def RecI (acc : List ItemD) (f : FaultD) (wl : World) (mb : Nat) (L : List ItemD) (W : World) : Prop :=
  ∃ (k : Nat) (m : ByteArray → Bool), SetIs W mb k m ∧ Boxed W (mb + 2) 3 (.int .i64 (k : Nat)) ∧ Boxed W (mb + 1) 111 (.map (some mb)) ∧ (∀ s, m s = true → TouchedN acc f s) ∧ k ≤ 12 * L.length ∧ Below mb wl W
theorem recI_own (acc : List ItemD) (f : FaultD) (wl : World) (mb B : Nat) (hm : mb ≤ wl.heap.size) (hB : mb + 2 < B) : OwnFrom B (RecI acc f wl mb) := fun L X Y row hs hg hr => by
  obtain ⟨k, m, h1, h2, h3, h4, h5, h6⟩ := hs
  have hk : ∀ q, q < B → q < X.heap.size → Y.heap[q]? = X.heap[q]? := fun q hq hl => hg.block q hl (fun e => by have := (hr q e.symm).1; omega)
  exact ⟨k, m, h1.same (hk _ (by omega) h1.lt), (hk _ (by omega) h2.lt).trans h2, (hk _ (by omega) h3.lt).trans h3, h4, h5, h6.grown hg (Nat.le_trans hm h6.size) (fun q e => by have := (hr q e).1; omega)⟩
theorem recI_new (acc : List ItemD) (f : FaultD) (w : World) (p : Value) : RecI acc f ((((w.alloc (.map #[] 0)).alloc (.cells #[.map (some w.heap.size)] 111)).alloc (.cells #[.int .i64 0] 3)).alloc (.cells #[p] 49)) w.heap.size [] ((((w.alloc (.map #[] 0)).alloc (.cells #[.map (some w.heap.size)] 111)).alloc (.cells #[.int .i64 0] 3)).alloc (.cells #[p] 49)) := by
  have s1 : (w.alloc (.map #[] 0)).heap.size = w.heap.size + 1 := by simp
  have s2 : ((w.alloc (.map #[] 0)).alloc (.cells #[.map (some w.heap.size)] 111)).heap.size = w.heap.size + 2 := by simp
  have s3 : (((w.alloc (.map #[] 0)).alloc (.cells #[.map (some w.heap.size)] 111)).alloc (.cells #[.int .i64 0] 3)).heap.size = w.heap.size + 3 := by simp
  refine ⟨0, fun _ => false, (SetIs.made w).same ?_, ?_, ?_, (fun s h => by cases h), Nat.zero_le _, Below.refl _ _⟩
  · rw [Below.heap_alloc _ _ _ (by omega), Below.heap_alloc _ _ _ (by omega), Below.heap_alloc _ _ _ (by omega)]
  · have := Boxed.new ((w.alloc (.map #[] 0)).alloc (.cells #[.map (some w.heap.size)] 111)) 3 (.int .i64 0)
    rw [s2] at this
    exact this.alloc _
  · have := Boxed.new (w.alloc (.map #[] 0)) 111 (.map (some w.heap.size))
    rw [s1] at this
    exact (this.alloc _).alloc _
theorem Keep.drew' {S : Nat → Prop} {W w : World} (h : Keep S W w) : Keep S W w.drew := ⟨h.os, h.tape, h.output, h.size, h.block⟩
theorem kp_cell {W wr : World} {mb b o : Nat} (h : Keep (fun q => q < W.heap.size ∧ q ≠ mb ∧ q ≠ mb + 2) W wr) (h1 : b < W.heap.size) (h2 : b ≠ mb) (h3 : b ≠ mb + 2) : wr.cell? ⟨b, o, none⟩ = W.cell? ⟨b, o, none⟩ := h.cell (p := ⟨b, o, none⟩) ⟨h1, h2, h3⟩
theorem u8_bounds {n : Int} (h : (Lit.int .u8 n).wf = true) : 0 ≤ n ∧ n ≤ 255 := by
  simp only [Lit.wf, Bool.and_eq_true, decide_eq_true_eq] at h
  exact h
theorem nameAt_size {xs : List ItemD} (h : ∀ x ∈ xs, x.name.size ≤ maxLen) (i : Nat) : (nameAt xs i).size ≤ maxLen := by
  unfold nameAt
  cases hx : xs[i]? with
  | none => exact Nat.zero_le _
  | some x => exact h x (mem_of_get? hx)
theorem trailGo_sizes {xs : List ItemD} (h : ∀ x ∈ xs, x.name.size ≤ maxLen) {f : FaultD} (hf : f.item.size ≤ maxLen) : ∀ d i, ∀ s ∈ trailGo xs f d i, s.size ≤ maxLen
  | 0, _, s, hs => by cases hs
  | d + 1, i, s, hs => by
    unfold trailGo at hs
    cases hx : xs[i]? with
    | none => rw [hx] at hs; cases hs
    | some x =>
      rw [hx] at hs
      simp only at hs
      split at hs
      · simp at hs; subst hs; exact hf
      · rcases List.mem_cons.1 hs with rfl | hs
        · exact nameAt_size h _
        · exact trailGo_sizes h hf d _ s hs
theorem trailOf_sizes {xs : List ItemD} (h : ∀ x ∈ xs, x.name.size ≤ maxLen) {f : FaultD} (hf : f.item.size ≤ maxLen) (i : Nat) : ∀ s ∈ trailOf xs f i, s.size ≤ maxLen := fun s hs => by
  unfold trailOf at hs
  rcases List.mem_cons.1 (List.mem_reverse.1 hs) with rfl | hs
  · exact nameAt_size h _
  · exact trailGo_sizes h hf _ _ s hs
theorem leaveR1 {fn : Func} {a : Act} {w W : World} {D b : Nat} (hK : W.heap[D]? = some (.deferred (some []))) (hq : W.cell? ⟨b, 0, none⟩ = some (.bool true)) (hD : w.heap.size ≤ D) (hb : Below w.heap.size w W)
    (hr : ∀ W' : World, W'.cell? ⟨b, 0, none⟩ = some (.bool true) → (results fn a.tmps).run Try.prog W' = .ok (.bool true) W') (hd : a.defers = [{ target := .collected D, args := #[] }]) :
    bodyPostM Fence.wide 3 Try.prog fn (fun e w' => e = .returned (.bool true) ∧ Below w.heap.size w w') .ret a W := by
  show LeavesInM Fence.wide 3 Try.prog fn a.tmps _ a.defers .returning W
  rw [hd]
  refine ⟨by simp, .inl ⟨_, _, rfl, run_takeDeferred hK, ?_⟩⟩
  have hc5 := cell_kept hq (grownBy_putObj' _ D (.deferred none)) (fun r e => by cases e; exact ⟨_, hK, rfl⟩)
  exact ⟨.bool true, hr _ hc5, rfl, hb.trans (belowK_b (w := w) (Nat.le_refl _) W D _ _ hD hK rfl rfl)⟩
set_option maxRecDepth 100000 in
set_option maxHeartbeats 4000000 in
theorem recalls_any (v0 : Value) (xs : List ItemD) (f g : FaultD) (vu : Value) (us : List Int) (w : World) (hv : RdI w (fun _ => True) v0 xs) (hw : ∀ x ∈ xs, ItemWf x) (hf : FaultWf f) (hg : FaultWf g) (hu : Rd (fun n : Int => Value.int .u8 n) w (fun _ => True) vu us) (huw : ∀ n ∈ us, (Lit.int .u8 n).wf = true) :
    Calls Try.prog 13 #[v0, .agg #[.string f.item, .int .i64 f.since, .int .i64 f.until_], .agg #[.string g.item, .int .i64 g.since, .int .i64 g.until_], vu] w fun e w' => e = .returned (.bool true) ∧ Below w.heap.size w w' := by
  have HV := Lib.hid hv
  have HW := Lib.hid hw
  have HU := Lib.hid hu
  have HUW := Lib.hid huw
  have HF1 := Lib.hid hf
  have HG1 := Lib.hid hg
  obtain ⟨A, n, cap, rfl, -⟩ := hv.open_
  obtain ⟨Au, mu, cu, rfl, hmu, -⟩ := hu.open_
  have HMU := Lib.hid hmu
  have hrc := rcB_new w f g (.slice Au mu cu)
  obtain ⟨W1, hW1⟩ : ∃ W1, W1 = (((w.alloc (.cells #[.string f.item, .int .i64 f.since, .int .i64 f.until_] 47)).alloc (.cells #[.string g.item, .int .i64 g.since, .int .i64 g.until_] 47)).alloc (.cells #[.slice Au mu cu] 33)).alloc (.cells #[.bool false] 4) := ⟨_, rfl⟩
  rw [← hW1] at hrc
  have HW1 := Lib.hid hW1
  have HR1 := Lib.hid hrc
  clear hv hw hf hg hu huw hmu hrc hW1
  refine callsIn_wide.1 (callsIn_of_wp_marks (n := 3) Try.func13 rfl trivial (wpIn_wide.2 ?_) rfl)
  simp only [Try.ntmps13, List.size_toArray, List.length_cons, List.length_nil, Nat.reduceAdd, Nat.reduceSub, Array.replicate_succ, Array.replicate_zero, List.push_toArray, List.append_toArray, List.nil_append, List.cons_append]
  go_wp2_with fail
  rw [← HW1.out]
  refine (few_any _ xs _ W1 (HV.out.below HR1.out.bel)).mono ?_
  rintro e w2 ⟨b, rfl, hfew, hb2⟩
  have HR2 := Lib.hid (HR1.out.below hb2)
  clear hb2
  cases b with
  | false =>
    clear hfew
    go_wp2_with (go_at_call 16; refine (awake_any _).mono ?_; rintro e w3 ⟨rfl, hb3⟩; obtain ⟨c3, f3, hQ, hE⟩ := HR2.out.done hb3; have HQ := Lib.hid hQ; have HE := Lib.hid hE; clear hQ hE hb3)
    refine leaveK0 HQ.out HE.out ?_ rfl
    intro W' hq
    simp [results, Try.results13, go_sem, hq]
  | true =>
    have HF := Lib.hid (hfew rfl)
    clear hfew
    go_wp2_with fail
    refine (books_any _ xs _ w2 (HV.out.below HR2.out.bel) HF.out).mono ?_
    rintro e w3 ⟨p, bv, rfl, F, hbk, hrd, hb3⟩
    have hok := entAll_ok HF.out.each HW.out
    have huq := entAll_uq xs
    have hne := entAll_ne xs
    have hlen : (entAll xs).length ≤ 24 := by have := entAll_len xs; have := HF.out.len; omega
    obtain ⟨acc, hacc⟩ : ∃ acc, acc = entAll xs := ⟨_, rfl⟩
    rw [← hacc] at hbk hrd hok huq hne hlen
    have HR3 := Lib.hid (HR2.out.below hb3)
    have HBK := Lib.hid hbk
    have HOK := Lib.hid hok
    have HUQ := Lib.hid huq
    have HNE := Lib.hid hne
    have hl1024 : acc.length ≤ 1024 := by omega
    have p0 : w3.cell? ⟨w.heap.size, 0, none⟩ = some (.string f.item) := cell_of_row w3 _ 0 _ _ _ HR3.out.b0
    have p1 : w3.cell? ⟨w.heap.size, 1, none⟩ = some (.int .i64 f.since) := cell_of_row w3 _ 1 _ _ _ HR3.out.b0
    have p2 : w3.cell? ⟨w.heap.size, 2, none⟩ = some (.int .i64 f.until_) := cell_of_row w3 _ 2 _ _ _ HR3.out.b0
    have q0 : w3.cell? ⟨w.heap.size + 1, 0, none⟩ = some (.string g.item) := cell_of_row w3 _ 0 _ _ _ HR3.out.b1
    have q1 : w3.cell? ⟨w.heap.size + 1, 1, none⟩ = some (.int .i64 g.since) := cell_of_row w3 _ 1 _ _ _ HR3.out.b1
    have q2 : w3.cell? ⟨w.heap.size + 1, 2, none⟩ = some (.int .i64 g.until_) := cell_of_row w3 _ 2 _ _ _ HR3.out.b1
    obtain ⟨bb, vi, r, fs', rfl, -⟩ := hbk
    clear hrd hok huq hne hacc hb3
    obtain ⟨w4, hw4⟩ : ∃ w4, w4 = w3.alloc (.cells #[.string f.item, .int .i64 f.since, .int .i64 f.until_, .string g.item, .int .i64 g.since, .int .i64 g.until_] 47) := ⟨_, rfl⟩
    have h34 : Below w3.heap.size w3 w4 := by rw [hw4]; exact (Below.refl _ _).alloc (Nat.le_refl _) _
    have hfa := faults_any _ [f, g] _ w4 (by rw [hw4]; exact two_rdK w3 f g) (by simp)
    have HW4 := Lib.hid hw4
    have HR4 := Lib.hid (HR3.out.below h34)
    have HBK4 := Lib.hid (HBK.out.below h34)
    have HFA := Lib.hid hfa
    clear hw4 h34 hfa
    go_wp2_with fail
    clear p0 p1 p2 q0 q1 q2
    rw [← HW4.out]
    refine HFA.out.mono ?_
    rintro e w5 ⟨va, vb, rfl, hra, -, hb5⟩
    have HR5 := Lib.hid (HR4.out.below hb5)
    have HBK5 := Lib.hid (HBK4.out.below hb5)
    have hra' : RdK 3 ftC w5 (fun b => b < w5.heap.size) va [f, g] := (hra.lt ftC_0).mono fun _ h => h.2
    obtain ⟨Aa, na, ca, rfl, hna, hca, hma, hca2⟩ := hra'.open_
    obtain rfl : na = 2 := by simpa using hna.symm
    obtain ⟨ba, oa, f', rfl, hba0, hf', hfc⟩ := hca2 0 (by omega)
    obtain rfl : f = f' := by simpa using hf'
    have HRA := Lib.hid hra'
    have hca1 : (1 : Int) ≤ (ca : Int) := by omega
    have hca3 : ¬ ((ca : Int) = 1) := by omega
    have hca4 : ¬ (ca = 1) := by omega
    have hca5 : 1 < ca := by omega
    have hca6 : 1 ≤ ca := by omega
    have g0 : w5.cell? ⟨ba, oa, none⟩ = some (.string f.item) := hfc 0 _ rfl
    have g1 : w5.cell? ⟨ba, oa + 1, none⟩ = some (.int .i64 f.since) := hfc 1 _ rfl
    have g2 : w5.cell? ⟨ba, oa + 2, none⟩ = some (.int .i64 f.until_) := hfc 2 _ rfl
    have HG := Lib.hid (And.intro g0 (And.intro g1 g2))
    have hsz : ∀ h ∈ [f, g], h.item.size ≤ maxLen := fun h hh => by simp at hh; rcases hh with rfl | rfl <;> first | exact HF1.out.item | exact HG1.out.item
    have C1 := Lib.hid (fun w' (h : Below w5.heap.size w5 w') => (Recall_any (.pointer (some ⟨bb, 0, none⟩)) _ F acc (.slice (some ⟨ba, oa, none⟩) 1 ca) [f] _ w' (HBK5.out.below h) HOK.out.found hl1024 ((rdK_take HRA.out).below ftC_0 h) (fun x hx => hsz x (by simp at hx; simp [hx]))).mono fun _ _ h => reL_recall h)
    have C2 := Lib.hid (fun w' (h : Below w5.heap.size w5 w') => (Recall_any (.pointer (some ⟨bb, 0, none⟩)) _ F acc (.slice (some ⟨ba, oa + 3, none⟩) 1 (ca - 1)) [g] _ w' (HBK5.out.below h) HOK.out.found hl1024 ((rdK_tail HRA.out).below ftC_0 h) (fun x hx => hsz x (by simp at hx; simp [hx]))).mono fun _ _ h => reL_recall h)
    have C3 := Lib.hid (fun w' (h : Below w5.heap.size w5 w') => (Recall_any (.pointer (some ⟨bb, 0, none⟩)) _ F acc (.slice (some ⟨ba, oa, none⟩) 2 ca) [f, g] _ w' (HBK5.out.below h) HOK.out.found hl1024 (HRA.out.below ftC_0 h) hsz).mono fun _ _ h => reL_recall h)
    rw [recallErr_one] at C1 C2
    have hE := recallErr_two acc f g
    rw [hE] at C3
    obtain ⟨ef, hef⟩ : ∃ ef, ef = faultErr acc f := ⟨_, rfl⟩
    obtain ⟨eg, heg⟩ : ∃ eg, eg = faultErr acc g := ⟨_, rfl⟩
    obtain ⟨L1, hL1⟩ : ∃ L, L = recaL acc [f] := ⟨_, rfl⟩
    obtain ⟨L2, hL2⟩ : ∃ L, L = recaL acc [g] := ⟨_, rfl⟩
    obtain ⟨L3, hL3⟩ : ∃ L, L = recaL acc [f, g] := ⟨_, rfl⟩
    rw [← hef, ← hL1] at C1
    rw [← heg, ← hL2] at C2
    rw [← hef, ← heg, ← hL3] at C3
    have HEF := Lib.hid hef
    have HEG := Lib.hid heg
    have HL1 := Lib.hid hL1
    have HL2 := Lib.hid hL2
    have HL3 := Lib.hid hL3
    have hcase : ((ef != 0) = true ∧ (((if ef = 0 then eg else ef) : Int) != 0) = true) ∨ ((ef != 0) = false ∧ (eg != 0) = true ∧ (((if ef = 0 then eg else ef) : Int) != 0) = true) ∨ (ef = 0 ∧ eg = 0) := by
      rcases int_cases ef with ⟨h1, h2⟩ | ⟨h1, h2⟩
      · rcases int_cases eg with ⟨h3, h4⟩ | ⟨h3, h4⟩
        · exact .inr (.inr ⟨h2, h4⟩)
        · exact .inr (.inl ⟨h1, h3, by rw [if_pos h2]; exact h3⟩)
      · exact .inl ⟨h1, by rw [if_neg h2]; exact h1⟩
    obtain ⟨e3, he3⟩ : ∃ e3, e3 = (if ef = 0 then eg else ef) := ⟨_, rfl⟩
    rw [← he3] at C3 hcase
    have HE3 := Lib.hid he3
    clear hra hra' hb5 hna hca2 hf' hfc g0 g1 g2 hE hef heg hL1 hL2 hL3 he3
    go_wp2_with fail
    refine (C1.out w5 (Below.refl _ _)).mono ?_
    rintro e w6 ⟨v1, rfl, hr1, hb6⟩
    obtain ⟨A1, n1, c1, rfl, hn1, -, hmax1, hc1⟩ := hr1.lt.open_
    have HC1 := Lib.hid hc1
    have HN1 := Lib.hid hn1
    obtain ⟨w7, hw7⟩ : ∃ w7, w7 = w6.alloc (.cells #[.slice A1 n1 c1] 52) := ⟨_, rfl⟩
    have h67 : Below w6.heap.size w6 w7 := by rw [hw7]; exact (Below.refl _ _).alloc (Nat.le_refl _) _
    have hone : Boxed w7 w6.heap.size 52 (.slice A1 n1 c1) := by rw [hw7]; exact Boxed.new w6 52 _
    have H67 := Lib.hid h67
    have HB7 : Hid (Below w5.heap.size w5 w7) := hb6.trans (h67.mono hb6.size)
    have HV1 := Lib.hid (hr1.below h67)
    have HONE := Lib.hid hone
    have HW7 := Lib.hid hw7
    clear hr1 hb6 hw7 h67 hone hc1 hn1
    go_wp2_with fail
    rw [← HW7.out]
    refine (C2.out w7 HB7.out).mono ?_
    rintro e w8 ⟨v2, rfl, hr2, hb8⟩
    obtain ⟨A2, n2, c2, rfl, hn2, -, hmax2, -⟩ := hr2.open_
    have HN2 := Lib.hid hn2
    have HV2 := Lib.hid hr2
    have HB8 : Hid (Below w5.heap.size w5 w8) := HB7.out.trans (hb8.mono HB7.out.size)
    have HB78 := Lib.hid hb8
    clear hr2 hb8 hn2
    go_wp2_with fail
    refine (C3.out w8 HB8.out).mono ?_
    rintro e w9 ⟨v3, rfl, hr3, hb9⟩
    obtain ⟨A3, n3, c3, rfl, hn3, -, hmax3, hc3⟩ := hr3.lt.open_
    have HN3 := Lib.hid hn3
    have HC3 := Lib.hid hc3
    have HB9 : Hid (Below w5.heap.size w5 w9) := HB8.out.trans (hb9.mono HB8.out.size)
    have HB79 : Hid (Below w7.heap.size w7 w9) := HB78.out.trans (hb9.mono HB78.out.size)
    have HV2 := Lib.hid (HV2.out.below hb9)
    have HV3 := Lib.hid hr3
    have HV1 := Lib.hid (HV1.out.below HB79.out)
    have HONE : Hid (Boxed w9 w6.heap.size 52 (.slice A1 n1 c1)) := (HB79.out.block _ HONE.out.lt).trans HONE.out
    have HR9 := Lib.hid (HR5.out.below HB9.out)
    have H69 : Hid (Below w6.heap.size w6 w9) := H67.out.trans (HB79.out.mono H67.out.size)
    have hs69 : w6.heap.size < w9.heap.size := HONE.out.lt
    clear hr3 hb9 hn3 hc3
    rcases hcase with ⟨t1, t2⟩ | ⟨t1, t2, t3⟩ | ⟨t1, t2⟩
    · go_wp2_with (go_at_call 16; refine (awake_any _).mono ?_; rintro e w10 ⟨rfl, hb10⟩; obtain ⟨c3', f3', hQ, hE⟩ := HR9.out.done hb10; have HQ := Lib.hid hQ; have HE := Lib.hid hE; clear hQ hE hb10)
      refine leaveK0 HQ.out HE.out ?_ rfl
      intro W' hq
      simp [results, Try.results13, go_sem, hq]
    · go_wp2_with (go_at_call 16; refine (awake_any _).mono ?_; rintro e w10 ⟨rfl, hb10⟩; obtain ⟨c3', f3', hQ, hE⟩ := HR9.out.done hb10; have HQ := Lib.hid hQ; have HE := Lib.hid hE; clear hQ hE hb10)
      refine leaveK0 HQ.out HE.out ?_ rfl
      intro W' hq
      simp [results, Try.results13, go_sem, hq]
    · subst t1
      subst t2
      obtain rfl : e3 = 0 := by rw [HE3.out]; rfl
      clear HE3
      have hmm := @run_makeMap Try.prog
      go_wp2_with fail
      refine (all_any _ _ ⟨_, rfl⟩).mono ?_
      rintro e wl ⟨rfl, hwl⟩
      have hI0 := recI_new acc f w9 (.pointer (some ⟨bb, 0, none⟩))
      have hbl : Below w9.heap.size w9 wl := by rw [← hwl]; exact (((((Below.refl _ _).alloc (Nat.le_refl _) _).alloc (by simp) _).alloc (by simp; omega) _).alloc (by simp; omega) _)
      have hsl : wl.heap.size = w9.heap.size + 4 := by rw [← hwl]; simp
      have hcl : wl.cell? ⟨w9.heap.size + 1 + 1 + 1, 0, none⟩ = some (.pointer (some ⟨bb, 0, none⟩)) := by
        rw [← hwl]
        have := Boxed.cell (Boxed.new (((w9.alloc (.map #[] 0)).alloc (.cells #[.map (some w9.heap.size)] 111)).alloc (.cells #[.int .i64 0] 3)) 49 (.pointer (some ⟨bb, 0, none⟩)))
        simpa using this
      rw [hwl] at hI0
      have HBK9 := Lib.hid (HBK5.out.below HB9.out)
      have hsm : ∀ x ∈ acc, x.frm.length ≤ 1000 ∧ ∀ c ∈ x.frm, c.length ≤ 1000 := fun x hx => ⟨by have := (HOK.out.small x hx).frm; omega, fun c hc => by have := (HOK.out.small x hx).cs c hc; omega⟩
      clear hwl hmm
      go_wp2_with fail
      have HSL := Lib.hid hsl
      refine wp_all_boxed (tb := 22) (p := .pointer (some ⟨bb, 0, none⟩)) (w0 := w9) rfl HBK9.out hsm hl1024 hbl (by rw [hsl]; omega) hcl (RecI acc f wl w9.heap.size) (fun _ _ _ => False) (recI_own acc f wl _ _ (by rw [hsl]; omega) (by rw [hsl]; omega)) (fun _ _ _ _ _ h _ _ => h) hI0 ?assign ?body ?done ?stop
      case stop => intro D c k W _ _ h; exact h.elim
      case assign =>
        intro l x A n cp W K hK
        simp only [itemCells] at hK ⊢
        gi_wp2
        simpa using hK
      case body =>
        intro l k x A6 n6 c6 Bx W0 W hx hi0 hck hi hrd hBx hBxs
        obtain ⟨kc, m, hset, hnb, htb, htn, hkc, hbel⟩ := hi
        have hW0 : w9.heap.size + 2 < W0.heap.size := by obtain ⟨_, _, _, h0, _⟩ := hi0; exact h0.lt
        have hkx := (List.getElem?_eq_some_iff.1 hx).1
        have hkl : (acc.take k).length = k := by rw [List.length_take]; omega
        have hkl1 : (acc.take (k + 1)).length = k + 1 := by rw [List.length_take]; omega
        rw [hkl] at hkc
        have hss := HOK.out.small x (mem_of_get? hx)
        have hfo := HOK.out.found x (mem_of_get? hx)
        have hnx := HNE.out x (mem_of_get? hx)
        obtain ⟨vs, hvs, hvl, hvin⟩ := hrd.lt
        obtain ⟨A6', n6', c6', hA6, hn6, hcap6, hmax6, hcc⟩ := hvs.open_
        simp only [Value.slice.injEq] at hA6
        obtain ⟨rfl, rfl, rfl⟩ := hA6
        have h9W : Below w9.heap.size w9 W := hbl.trans (hbel.mono (Nat.le_refl _))
        have hr9 := HR9.out.below h9W
        have hus := HU.out.lt.below hr9.bel
        have hBxl := (Array.getElem?_eq_some_iff.1 hBx).1
        obtain ⟨Au', mu', cu', hAu, hmu', -, hmu6, hcus⟩ := hus.open_
        simp only [Value.slice.injEq] at hAu
        obtain ⟨rfl, rfl, rfl⟩ := hAu
        obtain ⟨xn, xk, xa, xf⟩ := x
        simp only [itemCells] at hBx hss hfo hnx hvl hvin
        simp only [itemCells, List.setIfInBounds_toArray, List.set_cons_zero, List.set_cons_succ]
        have hxf : xf.length = n6 := by omega
        have hn12 : n6 ≤ 12 := by have := hss.frm; simp only at this; omega
        have e3 : W.cell? ⟨Bx, 3, none⟩ = some (.slice A6 n6 c6) := cell_of_row W _ 3 _ _ _ hBx
        have HX := Lib.hid hx
        have HRC := Lib.hid hr9
        have HBX := Lib.hid hBx
        have HCC := Lib.hid hcc
        have HVIN := Lib.hid hvin
        have HCU := Lib.hid hcus
        have HFO := Lib.hid hfo
        have HNX := Lib.hid hnx
        have HXF := Lib.hid hxf
        have HKL := Lib.hid hkl1
        have HTB := Lib.hid htb
        have HBEL := Lib.hid hbel
        have hsn : xn.size ≤ maxLen := by have := hss.name; simp only at this; unfold maxLen; omega
        have HSN := Lib.hid hsn
        have HST : Hid (SetIs W w9.heap.size kc m ∧ Boxed W (w9.heap.size + 2) 3 (.int .i64 (kc : Nat)) ∧ (∀ s, m s = true → TouchedN acc f s)) := ⟨hset, hnb, htn⟩
        have hW9 : w9.heap.size + 2 < W.heap.size := hnb.lt
        have hr9l := hr9.lt
        have hw9r : w.heap.size + 3 < w9.heap.size := HR9.out.lt
        have hk24 : k ≤ 24 := by omega
        have HSZ := Lib.hid hck.size
        clear hset hnb htb htn hbel hss hsn hfo hnx hvl hvin hcc hcus hx hBx hi0 hck hrd hvs hus hr9 h9W hkl hkl1 hxf hmu' hn6
        gi_wp2
        clear e3
        gi_loopw [92] (fun iv wr => ∃ (j k' : Nat) (m' : ByteArray → Bool), j ≤ n6 ∧ iv = .int .i64 (j : Int) ∧ SetIs wr w9.heap.size k' m' ∧ Boxed wr (w9.heap.size + 2) 3 (.int .i64 (k' : Nat)) ∧ (∀ s, m' s = true → TouchedN acc f s) ∧ k' ≤ 12 * k + j ∧ Keep (fun q => q < W.heap.size ∧ q ≠ w9.heap.size ∧ q ≠ w9.heap.size + 2) W wr) (fun iv _ => n6 - (intOf iv).toNat)
        case atStart => exact ⟨0, kc, m, Nat.zero_le _, rfl, HST.out.1, HST.out.2.1, HST.out.2.2, by omega, Keep.refl _ _⟩
        case round =>
          obtain ⟨j, k', m', hj, rfl, hset, hnb, htn, hk', hkeep⟩ := hrel
          by_cases hlt : j < n6
          · obtain ⟨bq, oq, u, hA6e, ⟨hq1, hq2⟩, hu, hcu⟩ := HCC.out j hlt
            cases hA6e
            obtain ⟨c, hc⟩ : ∃ c, xf[j]? = some c := ⟨xf[j]'(by have := HXF.out; omega), List.getElem?_eq_getElem _⟩
            obtain ⟨u', hu', hru⟩ := HVIN.out j c hc
            rw [hu] at hu'
            obtain rfl := Option.some.inj hu'
            have hcm := mem_of_get? hc
            obtain ⟨Ac, nu, cu2, rfl, hnu, -, hnu6, hcs⟩ := hru.open_
            have hnu1 : 1 ≤ nu := by have := List.length_pos_iff.2 (HNX.out c hcm); omega
            have d5 : wr.cell? ⟨bq, oq + j, none⟩ = some (.slice Ac nu cu2) := (kp_cell hkeep (by omega) (by omega) (by omega)).trans hcu
            have dn := hnb.cell
            have fn := hnb.frozen
            have du : wr.cell? ⟨w.heap.size + 2, 0, none⟩ = some (.slice Au mu cu) := (kp_cell hkeep (by omega) (by omega) (by omega)).trans (cell_of_row W _ 0 _ _ _ HRC.out.b2)
            have HSET := Lib.hid hset
            have HNB := Lib.hid hnb
            have HTN := Lib.hid htn
            have HKP := Lib.hid hkeep
            have HC := Lib.hid hc
            have HCM := Lib.hid hcm
            have HNU := Lib.hid hnu
            have HCS := Lib.hid hcs
            have hk300 : k' ≤ 400 := by omega
            have hji : (j : Int) < (n6 : Int) := by omega
            have hnui : (0 : Int) < (nu : Int) := by omega
            have hnu0 : 0 < nu := by omega
            have hnune : ¬ ((nu : Int) = 0) := by omega
            have hnune2 : ¬ (nu = 0) := by omega
            clear hset hnb htn hkeep hc hcm hnu hcs hu hcu hru
            have dt : wr.cell? ⟨w9.heap.size + 1, 0, none⟩ = some (.map (some w9.heap.size)) := (kp_cell HKP.out (by omega) (by omega) (by omega)).trans HTB.out.cell
            have f0 : wr.cell? ⟨w.heap.size, 0, none⟩ = some (.string f.item) := (kp_cell HKP.out (by omega) (by omega) (by omega)).trans (cell_of_row W _ 0 _ _ _ HRC.out.b0)
            have f1 : wr.cell? ⟨w.heap.size, 1, none⟩ = some (.int .i64 f.since) := (kp_cell HKP.out (by omega) (by omega) (by omega)).trans (cell_of_row W _ 1 _ _ _ HRC.out.b0)
            have f2 : wr.cell? ⟨w.heap.size, 2, none⟩ = some (.int .i64 f.until_) := (kp_cell HKP.out (by omega) (by omega) (by omega)).trans (cell_of_row W _ 2 _ _ _ HRC.out.b0)
            have e0 : wr.cell? ⟨Bx, 0, none⟩ = some (.string xn) := (kp_cell HKP.out (by omega) (by omega) (by omega)).trans (cell_of_row W _ 0 _ _ _ HBX.out)
            have e2 : wr.cell? ⟨Bx, 2, none⟩ = some (.int .i64 xa) := (kp_cell HKP.out (by omega) (by omega) (by omega)).trans (cell_of_row W _ 2 _ _ _ HBX.out)
            have ne1 : w9.heap.size + 1 ≠ w9.heap.size + 1 + 1 := by omega
            have ne2 : w9.heap.size + 1 + 1 ≠ w9.heap.size + 1 := by omega
            have ne3 : w.heap.size ≠ w9.heap.size + 1 + 1 := by omega
            have ne4 : w9.heap.size + 1 + 1 ≠ w.heap.size := by omega
            have ne5 : Bx ≠ w9.heap.size + 1 + 1 := by omega
            have ne6 : w9.heap.size + 1 + 1 ≠ Bx := by omega
            have HSTEP : Hid (∀ s, s ∈ c → (TouchedN acc f s ∨ (s = f.item ∧ f.since ≤ xa ∧ xa ≤ f.until_)) → TouchedN acc f xn) := fun s hs ht => touched_step HUQ.out HEF.out.symm HX.out HCM.out hs ht
            by_cases hmu0 : mu = 0
            · subst hmu0
              obtain ⟨wz, hwz⟩ : ∃ wz, wz = wr.setCell ⟨w9.heap.size + 1 + 1, 0, none⟩ (.int .i64 ((k' : Int) + 1)) := ⟨_, rfl⟩
              have hkz : Keep (fun q => q ≠ w9.heap.size + 2) wr wz := by rw [hwz]; exact (Keep.refl _ _).setCell (fun h => h rfl) _
              have hnbz : Boxed wz (w9.heap.size + 2) 3 (.int .i64 (((k' + 1 : Nat)) : Int)) := by rw [hwz]; exact HNB.out.set _
              have hsetz : SetIs wz w9.heap.size k' m' := HSET.out.same (hkz.block _ (by show w9.heap.size ≠ _; omega))
              have HWZ := Lib.hid hwz
              have HKZ := Lib.hid hkz
              have HNBZ := Lib.hid hnbz
              have HSETZ := Lib.hid hsetz
              have HKPZ : Hid (Keep (fun q => q < W.heap.size ∧ q ≠ w9.heap.size ∧ q ≠ w9.heap.size + 2) W wz) := HKP.out.trans (hkz.mono fun q h => h.2.2)
              clear hwz hkz hnbz hsetz
              obtain ⟨bc, oc, s, hAc, ⟨hs1, hs2⟩, hs, hcell⟩ := HCS.out 0 hnu0
              cases hAc
              have dc : wr.cell? ⟨bc, oc, none⟩ = some (.string s) := (kp_cell HKP.out (by omega) (by omega) (by omega)).trans hcell
              have hbc1 : bc ≠ w9.heap.size + 1 + 1 := by omega
              have hbc2 : w9.heap.size + 1 + 1 ≠ bc := by omega
              have hsm' := (HFO.out c HCM.out s (mem_of_get? hs)).1
              have HSM := Lib.hid hsm'
              have HSC := Lib.hid (mem_of_get? hs)
              clear hs hcell hsm'
              have hlk := HSETZ.out.look HSM.out
              rw [HWZ.out] at hlk
              cases hin : m' s with
              | true =>
                rw [hin] at hlk
                have HIN := Lib.hid hin
                clear hin
                have hadd := HSETZ.out.add HSN.out (by omega)
                obtain ⟨wu, hru, hsu, hgu⟩ := hadd
                rw [HWZ.out] at hru
                have HFIN : Hid (SetIs wu w9.heap.size (k' + 1) (fun t => decide (t = xn) || m' t) ∧ Boxed wu (w9.heap.size + 2) 3 (.int .i64 ((k' + 1 : Nat) : Int)) ∧ (∀ t, (decide (t = xn) || m' t) = true → TouchedN acc f t) ∧ Keep (fun q => q < W.heap.size ∧ q ≠ w9.heap.size ∧ q ≠ w9.heap.size + 2) W wu) := by
                  refine ⟨hsu, (hgu.block _ HNBZ.out.lt (fun e => by have := Option.some.inj e; omega)).trans HNBZ.out, fun t ht => ?_, ⟨hgu.os.trans HKPZ.out.os, hgu.tape.trans HKPZ.out.tape, hgu.output.trans HKPZ.out.output, Nat.le_trans HKPZ.out.size hgu.size, fun q hq => (hgu.block q (Nat.lt_of_lt_of_le hq.1 HKPZ.out.size) (fun e => hq.2.1 (Option.some.inj e))).trans (HKPZ.out.block q hq)⟩⟩
                  simp only [Bool.or_eq_true, decide_eq_true_eq] at ht
                  rcases ht with rfl | ht
                  · exact HSTEP.out s HSC.out (.inl (HTN.out s HIN.out))
                  · exact HTN.out t ht
                clear hsu hgu HSTEP
                gi_wp2
                go_roundw
                case rel => obtain ⟨x1, x2, x3, x4⟩ := HFIN.out; exact ⟨j + 1, k' + 1, _, by omega, by go_num, x1, x2, x3, by omega, x4⟩
                case measure => simp [intOf]; omega
              | false =>
                rw [hin] at hlk
                clear hin
                rcases str_cases s f.item with ⟨st1, st2, st3⟩ | ⟨st1, st2, st3⟩
                · clear st3
                  have HFIN := Lib.hid (And.intro (HSETZ.out.mono (Nat.le_succ k')) (And.intro HNBZ.out (And.intro HTN.out HKPZ.out)))
                  gi_wp2
                  rw [← HWZ.out]
                  go_roundw
                  case rel => obtain ⟨x1, x2, x3, x4⟩ := HFIN.out; exact ⟨j + 1, k' + 1, _, by omega, by go_num, x1, x2, x3, by omega, x4⟩
                  case measure => simp [intOf]; omega
                · by_cases ha : f.since ≤ xa
                  · by_cases hb : xa ≤ f.until_
                    · have HQ3 := Lib.hid (And.intro st3 (And.intro ha hb))
                      clear st3
                      have hadd := HSETZ.out.add HSN.out (by omega)
                      obtain ⟨wu, hru, hsu, hgu⟩ := hadd
                      rw [HWZ.out] at hru
                      have HFIN : Hid (SetIs wu w9.heap.size (k' + 1) (fun t => decide (t = xn) || m' t) ∧ Boxed wu (w9.heap.size + 2) 3 (.int .i64 ((k' + 1 : Nat) : Int)) ∧ (∀ t, (decide (t = xn) || m' t) = true → TouchedN acc f t) ∧ Keep (fun q => q < W.heap.size ∧ q ≠ w9.heap.size ∧ q ≠ w9.heap.size + 2) W wu) := by
                        refine ⟨hsu, (hgu.block _ HNBZ.out.lt (fun e => by have := Option.some.inj e; omega)).trans HNBZ.out, fun t ht => ?_, ⟨hgu.os.trans HKPZ.out.os, hgu.tape.trans HKPZ.out.tape, hgu.output.trans HKPZ.out.output, Nat.le_trans HKPZ.out.size hgu.size, fun q hq => (hgu.block q (Nat.lt_of_lt_of_le hq.1 HKPZ.out.size) (fun e => hq.2.1 (Option.some.inj e))).trans (HKPZ.out.block q hq)⟩⟩
                        simp only [Bool.or_eq_true, decide_eq_true_eq] at ht
                        rcases ht with rfl | ht
                        · exact HSTEP.out s HSC.out (.inr HQ3.out)
                        · exact HTN.out t ht
                      clear hsu hgu HSTEP
                      gi_wp2
                      go_roundw
                      case rel => obtain ⟨x1, x2, x3, x4⟩ := HFIN.out; exact ⟨j + 1, k' + 1, _, by omega, by go_num, x1, x2, x3, by omega, x4⟩
                      case measure => simp [intOf]; omega
                    · clear st3
                      have HFIN := Lib.hid (And.intro (HSETZ.out.mono (Nat.le_succ k')) (And.intro HNBZ.out (And.intro HTN.out HKPZ.out)))
                      gi_wp2
                      rw [← HWZ.out]
                      go_roundw
                      case rel => obtain ⟨x1, x2, x3, x4⟩ := HFIN.out; exact ⟨j + 1, k' + 1, _, by omega, by go_num, x1, x2, x3, by omega, x4⟩
                      case measure => simp [intOf]; omega
                  · clear st3
                    have HFIN := Lib.hid (And.intro (HSETZ.out.mono (Nat.le_succ k')) (And.intro HNBZ.out (And.intro HTN.out HKPZ.out)))
                    gi_wp2
                    rw [← HWZ.out]
                    go_roundw
                    case rel => obtain ⟨x1, x2, x3, x4⟩ := HFIN.out; exact ⟨j + 1, k' + 1, _, by omega, by go_num, x1, x2, x3, by omega, x4⟩
                    case measure => simp [intOf]; omega
            · have hmu1 : (0 : Int) < (mu : Int) := by omega
              have hmu2 : 0 < mu := by omega
              have hmu3 : ¬ ((mu : Int) = 0) := by omega
              obtain ⟨t, ht⟩ : ∃ t, t = k' % mu := ⟨_, rfl⟩
              have htl : t < mu := by rw [ht]; exact Nat.mod_lt _ hmu2
              have htk : t ≤ k' := by rw [ht]; exact Nat.mod_le _ _
              have htm : ((k' : Int)).tmod (mu : Int) = (t : Int) := by rw [ht]; rfl
              obtain ⟨bt, ot, qv, hAt, ⟨_, hbt⟩, hqv, hqc⟩ := HCU.out t htl
              cases hAt
              have hq255 := u8_bounds (HUW.out qv (mem_of_get? hqv))
              obtain ⟨hq0, hq5⟩ := hq255
              obtain ⟨qn, hqn⟩ : ∃ qn : Nat, qv = (qn : Int) := ⟨qv.toNat, by omega⟩
              subst hqn
              obtain ⟨z, hz⟩ : ∃ z, z = qn % nu := ⟨_, rfl⟩
              have hzl : z < nu := by rw [hz]; exact Nat.mod_lt _ hnu0
              have hzq : z ≤ qn := by rw [hz]; exact Nat.mod_le _ _
              have hzm : ((qn : Int)).tmod (nu : Int) = (z : Int) := by rw [hz]; rfl
              have hzm2 : ((qn : Int)) % (nu : Int) = (z : Int) := by rw [hz]; rfl
              obtain ⟨wz, hwz⟩ : ∃ wz, wz = (wr.setCell ⟨w9.heap.size + 1 + 1, 0, none⟩ (.int .i64 ((k' : Int) + 1))).drew := ⟨_, rfl⟩
              have hkz : Keep (fun q => q ≠ w9.heap.size + 2) wr wz := by rw [hwz]; exact ((Keep.refl _ _).setCell (fun h => h rfl) _).drew'
              have hnbz : Boxed wz (w9.heap.size + 2) 3 (.int .i64 (((k' + 1 : Nat)) : Int)) := by rw [hwz]; exact HNB.out.set _
              have hsetz : SetIs wz w9.heap.size k' m' := HSET.out.same (hkz.block _ (by show w9.heap.size ≠ _; omega))
              have HWZ := Lib.hid hwz
              have HKZ := Lib.hid hkz
              have HNBZ := Lib.hid hnbz
              have HSETZ := Lib.hid hsetz
              have HKPZ : Hid (Keep (fun q => q < W.heap.size ∧ q ≠ w9.heap.size ∧ q ≠ w9.heap.size + 2) W wz) := HKP.out.trans (hkz.mono fun q h => h.2.2)
              clear hwz hkz hnbz hsetz
              obtain ⟨bc, oc, s, hAc, ⟨hs1, hs2⟩, hs, hcell⟩ := HCS.out z hzl
              cases hAc
              have dc : wr.cell? ⟨bc, oc + z, none⟩ = some (.string s) := (kp_cell HKP.out (by omega) (by omega) (by omega)).trans hcell
              have hbc1 : bc ≠ w9.heap.size + 1 + 1 := by omega
              have hbc2 : w9.heap.size + 1 + 1 ≠ bc := by omega
              have hsm' := (HFO.out c HCM.out s (mem_of_get? hs)).1
              have HSM := Lib.hid hsm'
              have HSC := Lib.hid (mem_of_get? hs)
              clear hs hcell hsm'
              have htn2 : (t : Int) < (mu : Int) := by omega
              have ht0 : (0 : Int) ≤ (t : Int) := by omega
              have hzi : (z : Int) < (nu : Int) := by omega
              have hz0 : (0 : Int) ≤ (z : Int) := by omega
              have ht64 : (t : Int) ≤ 1000 := by omega
              have hz64 : (z : Int) ≤ 1000 := by omega
              have hwt : IntKind.i64.wrap (t : Int) = (t : Int) := IntWalk.i64_in _ (by omega)
              have hwq : IntKind.i64.wrap (qn : Int) = (qn : Int) := IntWalk.i64_in _ (by omega)
              have dq : wr.cell? ⟨bt, ot + t, none⟩ = some (.int .u8 (qn : Int)) := (kp_cell HKP.out (by omega) (by omega) (by omega)).trans hqc
              clear ht hz hqv hqc
              gi_wp2
              refine seqIn_start (S := fun w' => w'.cell? ⟨w.heap.size + 2, 0, none⟩ = some (.slice (some ⟨bt, ot, none⟩) mu cu) ∧ w'.cell? ⟨w9.heap.size + 2, 0, none⟩ = some (.int .i64 (k' : Nat)) ∧ w'.cell? ⟨bt, ot + t, none⟩ = some (.int .u8 (qn : Int))) (by kernel_rfl) (fun _ => trivial) (by kernel_rfl) (by exact ⟨du, dn, dq⟩) ?_
              repeat (first
                | (refine seqIn_take0 (v := ?_) ?_ (fun _ _ _ h => h) (by kernel_rfl) ?_ ?_; rotate_left; (focus rfl); (focus (intro w' hSw; (try dsimp only at hSw); go_simp; (try with_reducible rfl); done)); (try simp only [Act.put, List.setIfInBounds_toArray, List.set_cons_zero, List.set_cons_succ]))
                | (refine seqIn_takeG (v := ?_) (g := ?_) (d := ?_) (b := ?_) (u := ?_) ?_ ?_ ?_ ?_ (fun _ _ _ h => h) (by kernel_rfl) ?_ ?_; rotate_left 5; (focus rfl); (focus rfl); (focus rfl); (focus (first | rfl | (go_simp; done))); (focus (intro w' hSw; (try dsimp only at hSw); go_simp; (try with_reducible rfl); done)); (try simp only [Act.put, List.setIfInBounds_toArray, List.set_cons_zero, List.set_cons_succ]))
                | (refine seqIn_skipG (g := ?_) (d := ?_) (b := ?_) (u := ?_) ?_ ?_ ?_ ?_ (fun _ _ _ h => h) (by kernel_rfl) ?_; rotate_left 4; (focus rfl); (focus rfl); (focus rfl); (focus (first | rfl | (go_simp; done))); (try simp only [Act.put, List.setIfInBounds_toArray, List.set_cons_zero, List.set_cons_succ])))
              refine seqIn_done (by kernel_rfl) ?_
              have hlk := HSETZ.out.look HSM.out
              rw [HWZ.out] at hlk
              cases hin : m' s with
              | true =>
                rw [hin] at hlk
                have HIN := Lib.hid hin
                clear hin
                have hadd := HSETZ.out.add HSN.out (by omega)
                obtain ⟨wu, hru, hsu, hgu⟩ := hadd
                rw [HWZ.out] at hru
                have HFIN : Hid (SetIs wu w9.heap.size (k' + 1) (fun t => decide (t = xn) || m' t) ∧ Boxed wu (w9.heap.size + 2) 3 (.int .i64 ((k' + 1 : Nat) : Int)) ∧ (∀ t, (decide (t = xn) || m' t) = true → TouchedN acc f t) ∧ Keep (fun q => q < W.heap.size ∧ q ≠ w9.heap.size ∧ q ≠ w9.heap.size + 2) W wu) := by
                  refine ⟨hsu, (hgu.block _ HNBZ.out.lt (fun e => by have := Option.some.inj e; omega)).trans HNBZ.out, fun t ht => ?_, ⟨hgu.os.trans HKPZ.out.os, hgu.tape.trans HKPZ.out.tape, hgu.output.trans HKPZ.out.output, Nat.le_trans HKPZ.out.size hgu.size, fun q hq => (hgu.block q (Nat.lt_of_lt_of_le hq.1 HKPZ.out.size) (fun e => hq.2.1 (Option.some.inj e))).trans (HKPZ.out.block q hq)⟩⟩
                  simp only [Bool.or_eq_true, decide_eq_true_eq] at ht
                  rcases ht with rfl | ht
                  · exact HSTEP.out s HSC.out (.inl (HTN.out s HIN.out))
                  · exact HTN.out t ht
                clear hsu hgu HSTEP
                gi_wp2
                go_roundw
                case rel => obtain ⟨x1, x2, x3, x4⟩ := HFIN.out; exact ⟨j + 1, k' + 1, _, by omega, by go_num, x1, x2, x3, by omega, x4⟩
                case measure => simp [intOf]; omega
              | false =>
                rw [hin] at hlk
                clear hin
                rcases str_cases s f.item with ⟨st1, st2, st3⟩ | ⟨st1, st2, st3⟩
                · clear st3
                  have HFIN := Lib.hid (And.intro (HSETZ.out.mono (Nat.le_succ k')) (And.intro HNBZ.out (And.intro HTN.out HKPZ.out)))
                  gi_wp2
                  rw [← HWZ.out]
                  go_roundw
                  case rel => obtain ⟨x1, x2, x3, x4⟩ := HFIN.out; exact ⟨j + 1, k' + 1, _, by omega, by go_num, x1, x2, x3, by omega, x4⟩
                  case measure => simp [intOf]; omega
                · by_cases ha : f.since ≤ xa
                  · by_cases hb : xa ≤ f.until_
                    · have HQ3 := Lib.hid (And.intro st3 (And.intro ha hb))
                      clear st3
                      have hadd := HSETZ.out.add HSN.out (by omega)
                      obtain ⟨wu, hru, hsu, hgu⟩ := hadd
                      rw [HWZ.out] at hru
                      have HFIN : Hid (SetIs wu w9.heap.size (k' + 1) (fun t => decide (t = xn) || m' t) ∧ Boxed wu (w9.heap.size + 2) 3 (.int .i64 ((k' + 1 : Nat) : Int)) ∧ (∀ t, (decide (t = xn) || m' t) = true → TouchedN acc f t) ∧ Keep (fun q => q < W.heap.size ∧ q ≠ w9.heap.size ∧ q ≠ w9.heap.size + 2) W wu) := by
                        refine ⟨hsu, (hgu.block _ HNBZ.out.lt (fun e => by have := Option.some.inj e; omega)).trans HNBZ.out, fun t ht => ?_, ⟨hgu.os.trans HKPZ.out.os, hgu.tape.trans HKPZ.out.tape, hgu.output.trans HKPZ.out.output, Nat.le_trans HKPZ.out.size hgu.size, fun q hq => (hgu.block q (Nat.lt_of_lt_of_le hq.1 HKPZ.out.size) (fun e => hq.2.1 (Option.some.inj e))).trans (HKPZ.out.block q hq)⟩⟩
                        simp only [Bool.or_eq_true, decide_eq_true_eq] at ht
                        rcases ht with rfl | ht
                        · exact HSTEP.out s HSC.out (.inr HQ3.out)
                        · exact HTN.out t ht
                      clear hsu hgu HSTEP
                      gi_wp2
                      go_roundw
                      case rel => obtain ⟨x1, x2, x3, x4⟩ := HFIN.out; exact ⟨j + 1, k' + 1, _, by omega, by go_num, x1, x2, x3, by omega, x4⟩
                      case measure => simp [intOf]; omega
                    · clear st3
                      have HFIN := Lib.hid (And.intro (HSETZ.out.mono (Nat.le_succ k')) (And.intro HNBZ.out (And.intro HTN.out HKPZ.out)))
                      gi_wp2
                      rw [← HWZ.out]
                      go_roundw
                      case rel => obtain ⟨x1, x2, x3, x4⟩ := HFIN.out; exact ⟨j + 1, k' + 1, _, by omega, by go_num, x1, x2, x3, by omega, x4⟩
                      case measure => simp [intOf]; omega
                  · clear st3
                    have HFIN := Lib.hid (And.intro (HSETZ.out.mono (Nat.le_succ k')) (And.intro HNBZ.out (And.intro HTN.out HKPZ.out)))
                    gi_wp2
                    rw [← HWZ.out]
                    go_roundw
                    case rel => obtain ⟨x1, x2, x3, x4⟩ := HFIN.out; exact ⟨j + 1, k' + 1, _, by omega, by go_num, x1, x2, x3, by omega, x4⟩
                    case measure => simp [intOf]; omega
          · obtain rfl : j = n6 := by omega
            have hkb : Below w9.heap.size W wr := Keep.below (hkeep.mono fun q (hq : q < w9.heap.size) => ⟨by omega, by omega, by omega⟩)
            have h9r : Below w9.heap.size w9 wr := (hbl.trans (HBEL.out.mono (Nat.le_refl _))).trans hkb
            have htbr : Boxed wr (w9.heap.size + 1) 111 (.map (some w9.heap.size)) := (hkeep.block _ ⟨by show w9.heap.size + 1 < _; omega, by show w9.heap.size + 1 ≠ _; omega, by show w9.heap.size + 1 ≠ _; omega⟩).trans HTB.out
            have dt := htbr.cell
            have e0 : wr.cell? ⟨Bx, 0, none⟩ = some (.string xn) := (kp_cell hkeep (by omega) (by omega) (by omega)).trans (cell_of_row W _ 0 _ _ _ HBX.out)
            have e1 : wr.cell? ⟨Bx, 1, none⟩ = some (.int .i64 xk) := (kp_cell hkeep (by omega) (by omega) (by omega)).trans (cell_of_row W _ 1 _ _ _ HBX.out)
            have b14 : Boxed wr w6.heap.size 52 (.slice A1 n1 c1) := (h9r.block _ hs69).trans HONE.out
            have d14 := b14.cell
            have hlk := hset.look HSN.out
            have HHAS := Lib.hid (has_any (.slice A1 n1 c1) L1 _ xn wr (HV1.out.below h9r))
            have HTR : Hid (xk = 3 → TouchedN acc f xn → hasN L1 xn = true) := fun h1 h2 => by
              have h3 := touched_rec (f := f) HUQ.out HX.out h1 h2
              have h4 : L1 = namesOf acc (recMs acc [f]) := by rw [HL1.out]; unfold recaL; rw [recallErr_one, if_pos HEF.out.symm]
              rw [h4]; exact h3
            have HFIN : Hid (KeepsFrom wl.heap.size W wr ∧ Below w9.heap.size W wr ∧ RecI acc f wl w9.heap.size (acc.take (k + 1)) wr) := by
              refine ⟨⟨hkeep.size, fun q o hq ho _ => (hkeep.block q ⟨(Array.getElem?_eq_some_iff.1 ho).1, by have := HSL.out; omega, by have := HSL.out; omega⟩).trans ho⟩, hkb, k', m', hset, hnb, htbr, htn, by rw [HKL.out]; omega, HBEL.out.trans hkb⟩
            have HTN := Lib.hid htn
            clear hset hnb htn hkeep hkb h9r htbr
            cases hin : m' xn with
            | false =>
              rw [hin] at hlk
              clear hin b14
              gi_wp2
              refine ⟨trivial, ?_⟩
              gi_wp2
              exact HFIN.out
            | true =>
              rw [hin] at hlk
              have HIN := Lib.hid (HTN.out _ hin)
              clear hin
              by_cases hk3 : xk = 3
              · have hh := HTR.out hk3 HIN.out
                rw [hh] at HHAS
                subst hk3
                clear hh b14
                gi_wp2
                refine ⟨trivial, CallsIn.inRound l (callsIn_wide.2 (HHAS.out.mono ?_))⟩
                rintro e w' ⟨rfl, rfl⟩
                gi_wp2
                exact HFIN.out
              · have hk3b : (xk == 3) = false := by simpa using hk3
                clear hk3 b14
                gi_wp2
                refine ⟨trivial, ?_⟩
                gi_wp2
                exact HFIN.out
      case done =>
        intro D W hD hI hK
        obtain ⟨w20, hw20⟩ : ∃ w20 : World, w20 = W := ⟨_, rfl⟩
        subst hw20
        obtain ⟨kc, m, -, -, -, -, -, hbel⟩ := hI
        have h9 : Below w9.heap.size w9 w20 := hbl.trans (hbel.mono (Nat.le_refl _))
        have H9 := Lib.hid h9
        have H5 : Hid (Below w5.heap.size w5 w20) := HB9.out.trans (h9.mono HB9.out.size)
        have HRZ := Lib.hid (HR9.out.below h9)
        have HBKZ := Lib.hid (HBK9.out.below h9)
        have hone20 : Boxed w20 w6.heap.size 52 (.slice A1 n1 c1) := (h9.block _ hs69).trans HONE.out
        have HONEZ := Lib.hid hone20
        have d14 := hone20.cell
        have HK := Lib.hid hK
        have HD := Lib.hid hD
        have HL1E : Hid (L1 = namesOf acc (recMs acc [f])) := by show L1 = _; rw [HL1.out]; unfold recaL; rw [recallErr_one, if_pos HEF.out.symm]
        have HL2E : Hid (L2 = namesOf acc (recMs acc [g])) := by show L2 = _; rw [HL2.out]; unfold recaL; rw [recallErr_one, if_pos HEG.out.symm]
        have HL3E : Hid (L3 = namesOf acc (recMs acc [f, g])) := by show L3 = _; rw [HL3.out]; unfold recaL; rw [recallErr_two, if_pos HEF.out.symm, if_pos HEG.out.symm]
        have HSZN : Hid (∀ x ∈ acc, x.name.size ≤ maxLen) := fun x hx => by have := (HOK.out.small x hx).name; unfold maxLen; omega
        have H6Z : Hid (Below w6.heap.size w6 w20) := H69.out.trans (h9.mono H69.out.size)
        clear hbel h9 hone20 hK hD hI0 hsl hcl hbl
        go_wp2_with fail
        clear d14
        go_loopw [161] (fun iv wr => ∃ i : Nat, i ≤ n1 ∧ iv = .int .i64 (i : Int) ∧ Below w20.heap.size w20 wr) (fun iv _ => n1 - (intOf iv).toNat)
        case atStart => exact ⟨0, Nat.zero_le _, rfl, Below.refl _ _⟩
        case round =>
          obtain ⟨i, hi, rfl, hbel⟩ := hrel
          have HBR := Lib.hid hbel
          clear hbel
          by_cases hlt : i < n1
          · obtain ⟨b1, o1, s, rfl, ⟨_, hb1⟩, hs, hcell⟩ := HC1.out i hlt
            have h6r : Below w6.heap.size w6 wr := H6Z.out.trans (HBR.out.mono H6Z.out.size)
            have d1 : wr.cell? ⟨b1, o1 + i, none⟩ = some (.string s) := (h6r.cell (p := ⟨b1, _, none⟩) hb1).trans hcell
            have hsl1 : s ∈ namesOf acc (recMs acc [f]) := by rw [← HL1E.out]; exact mem_of_get? hs
            obtain ⟨ii, x, hrec⟩ := recalled_of HUQ.out HEF.out.symm hsl1
            have hs3 : s ∈ L3 := by rw [HL3E.out]; exact recTwo_iff.2 (.inl hsl1)
            have h3s : hasN L3 s = true := hasN_iff'.2 hs3
            have hssz : s.size ≤ maxLen := by rw [← hrec.name]; exact HSZN.out x (mem_of_get? hrec.get)
            have G1 := Lib.hid (fun w' (h : Below w20.heap.size w20 w') => Get_any (.pointer (some ⟨bb, 0, none⟩)) _ F acc s w' (HBKZ.out.below h) HOK.out.small hssz)
            have G2 := Lib.hid (fun w' (h : Below w20.heap.size w20 w') => (trail_any (.pointer (some ⟨bb, 0, none⟩)) _ F acc f s w' (HBKZ.out.below h) HOK.out.found HUQ.out hlen HF1.out.item hssz).mono fun _ _ h => reL_trail h)
            have G3 := Lib.hid (fun w' (h : Below w20.heap.size w20 w') => has_any (.slice A3 n3 c3) L3 _ s w' ((show Rd .string w9 _ _ L3 from HV3.out).below (H9.out.trans (h.mono H9.out.size))))
            have G4 := Lib.hid (fun v w' (h : Below w20.heap.size w20 w') S (hr : Rd .string w' S v (trailOf acc f ii)) => leads_any (.pointer (some ⟨bb, 0, none⟩)) _ F v acc f (trailOf acc f ii) S w' (HBKZ.out.below h) hr hl1024 (by have := trailGo_le acc f (ii + 1) ii; have h5 := (List.getElem?_eq_some_iff.1 hrec.get).1; unfold trailOf; simp; omega) HF1.out.item (trailOf_sizes HSZN.out HF1.out.item ii))
            rw [hrec.err, hrec.trail] at G2
            rw [h3s] at G3
            rw [hrec.leads] at G4
            have HREC := Lib.hid hrec
            have hii : (i : Int) < (n1 : Int) := by omega
            clear h6r hcell hs hsl1 hrec hs3 h3s
            go_wp2_with fail
            clear d1
            refine (G1.out wr HBR.out).mono ?_
            rintro e wa ⟨⟨hi', -⟩ | ⟨i', x', v6, hi', hx', rfl, ho⟩, hba⟩
            · exact absurd (hi'.symm.trans HREC.out.idx) (by simp)
            obtain rfl := Option.some.inj (hi'.symm.trans HREC.out.idx)
            obtain rfl := Option.some.inj (hx'.symm.trans HREC.out.get)
            obtain ⟨A6, c6, rfl⟩ := ho.slice
            obtain ⟨wb, hwb⟩ : ∃ wb, wb = wa.alloc (.cells #[.string x'.name, .int .i64 x'.kind, .int .i64 x'.at_, .slice A6 x'.frm.length c6] 37) := ⟨_, rfl⟩
            have hbb : Below wa.heap.size wa wb := by rw [hwb]; exact (Below.refl _ _).alloc (Nat.le_refl _) _
            have hmb := heap_alloc_new wa (.cells #[.string x'.name, .int .i64 x'.kind, .int .i64 x'.at_, .slice A6 x'.frm.length c6] 37)
            rw [← hwb] at hmb
            have HBB : Hid (Below w20.heap.size w20 wb) := (HBR.out.trans (hba.mono HBR.out.size)).trans (hbb.mono (Nat.le_trans HBR.out.size hba.size))
            have HMB := Lib.hid hmb
            have HWB := Lib.hid hwb
            have h5b : Below w5.heap.size w5 wb := H5.out.trans (HBB.out.mono H5.out.size)
            have p0 : (wa.alloc (.cells #[.string x'.name, .int .i64 x'.kind, .int .i64 x'.at_, .slice A6 x'.frm.length c6] 37)).cell? ⟨ba, oa, none⟩ = some (.string f.item) := by rw [← hwb]; exact (h5b.cell (p := ⟨ba, _, none⟩) hba0).trans HG.out.1
            have p1 : (wa.alloc (.cells #[.string x'.name, .int .i64 x'.kind, .int .i64 x'.at_, .slice A6 x'.frm.length c6] 37)).cell? ⟨ba, oa + 1, none⟩ = some (.int .i64 f.since) := by rw [← hwb]; exact (h5b.cell (p := ⟨ba, _, none⟩) hba0).trans HG.out.2.1
            have p2 : (wa.alloc (.cells #[.string x'.name, .int .i64 x'.kind, .int .i64 x'.at_, .slice A6 x'.frm.length c6] 37)).cell? ⟨ba, oa + 2, none⟩ = some (.int .i64 f.until_) := by rw [← hwb]; exact (h5b.cell (p := ⟨ba, _, none⟩) hba0).trans HG.out.2.2
            clear hi' hx' ho hba hwb hbb hmb h5b
            go_wp2_with fail
            clear p0 p1 p2
            rw [← HWB.out]
            refine (G2.out wb HBB.out).mono ?_
            rintro e wc ⟨vt, rfl, hrt, hbc⟩
            have HBC : Hid (Below w20.heap.size w20 wc) := HBB.out.trans (hbc.mono HBB.out.size)
            have hmc : wc.heap[wa.heap.size]? = _ := (hbc.block _ (Array.getElem?_eq_some_iff.1 HMB.out).1).trans HMB.out
            have HL4 := Lib.hid (G4.out vt wc HBC.out _ hrt)
            obtain ⟨At, nt, ct, rfl, hnt, -, hmt, hcellt⟩ := hrt.lt.open_
            have hlast := HREC.out.last
            have hlen2 := HREC.out.len
            rw [List.getD_eq_getElem?_getD, hnt] at hlast
            rw [hnt] at hlen2
            obtain ⟨bt, ot, st, rfl, ⟨_, hbt⟩, hst, hcl⟩ := hcellt (nt - 1) (by omega)
            rw [hst] at hlast
            obtain rfl : st = s := hlast
            have hnt2 : ¬ ((nt : Int) < 2) := by omega
            have hnt3 : nt ≤ 1000 := by
              have h4 := trailGo_le acc f (i' + 1) i'
              have h5 := (List.getElem?_eq_some_iff.1 HREC.out.get).1
              have h6 : (trailOf acc f i').length = (trailGo acc f (i' + 1) i').length + 1 := by unfold trailOf; simp
              omega
            have hj1 : (0 : Int) ≤ (nt : Int) - 1 := by omega
            have hj2 : (nt : Int) - 1 < (nt : Int) := by omega
            have hj3 : ((nt : Int) - 1).toNat = nt - 1 := by omega
            have hkd : x'.kind = 3 := HREC.out.kind
            have h5c : Below w5.heap.size w5 wc := H5.out.trans (HBC.out.mono H5.out.size)
            have p0 : wc.cell? ⟨ba, oa, none⟩ = some (.string f.item) := (h5c.cell (p := ⟨ba, _, none⟩) hba0).trans HG.out.1
            have p1 : wc.cell? ⟨ba, oa + 1, none⟩ = some (.int .i64 f.since) := (h5c.cell (p := ⟨ba, _, none⟩) hba0).trans HG.out.2.1
            have p2 : wc.cell? ⟨ba, oa + 2, none⟩ = some (.int .i64 f.until_) := (h5c.cell (p := ⟨ba, _, none⟩) hba0).trans HG.out.2.2
            have pk : wc.cell? ⟨wa.heap.size, 1, none⟩ = some (.int .i64 3) := by rw [← hkd]; exact cell_of_row wc _ 1 _ _ _ hmc
            have HHS := Lib.hid (G3.out wc HBC.out)
            clear hbc hmc hrt hnt hcellt hlen2 hst hkd h5c
            go_wp2_with fail
            refine HHS.out.mono ?_
            rintro e w' ⟨rfl, rfl⟩
            go_wp2_with fail
            refine HL4.out.mono ?_
            rintro e wd ⟨rfl, hbd⟩
            have HBD : Hid (Below w20.heap.size w20 wd) := HBC.out.trans (hbd.mono HBC.out.size)
            have hcl2 : wd.cell? ⟨bt, ot + (nt - 1), none⟩ = some (.string st) := (hbd.cell (p := ⟨bt, _, none⟩) hbt).trans hcl
            clear p0 p1 p2 pk hcl hbd
            go_wp2_with fail
            go_roundw
            case rel => exact ⟨i + 1, by omega, by go_num, HBD.out⟩
            case measure => simp [intOf]; omega
          · have hii : ¬ ((i : Int) < (n1 : Int)) := by omega
            have H9R : Hid (Below w9.heap.size w9 wr) := H9.out.trans (HBR.out.mono H9.out.size)
            obtain ⟨w40, hw40⟩ : ∃ w40 : World, w40 = wr := ⟨_, rfl⟩
            subst hw40
            go_wp2_with fail
            have hb14 : Boxed w40 w6.heap.size 52 (.slice A1 n1 c1) := (HBR.out.block _ HONEZ.out.lt).trans HONEZ.out
            have d14 := hb14.cell
            have HH1 := Lib.hid (fun s => has_any (.slice A1 n1 c1) L1 _ s w40 (HV1.out.below H9R.out))
            have HH2 := Lib.hid (fun s => has_any (.slice A2 n2 c2) L2 _ s w40 (HV2.out.below H9R.out))
            have HIN3 : Hid (∀ s ∈ L3, hasN L1 s = false → hasN L2 s = true) := fun s hs h1 => by
              rw [HL3E.out] at hs
              rcases recTwo_iff.1 hs with h | h
              · rw [← HL1E.out] at h
                rw [hasN_iff'.2 h] at h1
                cases h1
              · rw [← HL2E.out] at h
                exact hasN_iff'.2 h
            clear hb14
            go_loop [224] (fun iv => ∃ t : Nat, t ≤ n3 ∧ iv = .int .i64 (t : Int)) (fun iv => n3 - (intOf iv).toNat)
            case atStart => exact ⟨0, Nat.zero_le _, rfl⟩
            case round =>
              obtain ⟨t, ht, rfl⟩ := hrel
              by_cases hlt3 : t < n3
              · obtain ⟨b1, o1, s, rfl, ⟨_, hb1⟩, hs, hcell⟩ := HC3.out t hlt3
                have d1 : w40.cell? ⟨b1, o1 + t, none⟩ = some (.string s) := (H9R.out.cell (p := ⟨b1, _, none⟩) hb1).trans hcell
                have K1 := Lib.hid (HH1.out s)
                have K2 := Lib.hid (HH2.out s)
                have hin3 := HIN3.out s (mem_of_get? hs)
                have hti : (t : Int) < (n3 : Int) := by omega
                cases hq : hasN L1 s with
                | false =>
                  rw [hq] at K1
                  rw [hin3 hq] at K2
                  clear hcell hs hin3 hq
                  go_wp2_with fail
                  refine K1.out.mono ?_
                  rintro e w' ⟨rfl, rfl⟩
                  go_wp2_with fail
                  refine K2.out.mono ?_
                  rintro e w' ⟨rfl, rfl⟩
                  go_wp2_with fail
                  go_round
                  case rel => exact ⟨t + 1, by omega, by go_num⟩
                  case measure => simp [intOf]; omega
                | true =>
                  rw [hq] at K1
                  clear hcell hs hin3 hq
                  go_wp2_with fail
                  refine K1.out.mono ?_
                  rintro e w' ⟨rfl, rfl⟩
                  go_wp2_with fail
                  go_round
                  case rel => exact ⟨t + 1, by omega, by go_num⟩
                  case measure => simp [intOf]; omega
              · have hsum : n3 ≤ n1 + n2 := by
                  have h := rec_sum acc f g
                  rw [← HL1E.out, ← HL2E.out, ← HL3E.out, HN1.out, HN2.out, HN3.out] at h
                  exact h
                have hti : ¬ ((t : Int) < (n3 : Int)) := by omega
                have hsi : (n3 : Int) ≤ (n1 : Int) + (n2 : Int) := by omega
                have hn1k : n1 ≤ 24 := by
                  have h := HL1E.out
                  have h2 : (namesOf acc (recMs acc [f])).length ≤ acc.length := by
                    unfold namesOf
                    rw [List.length_map]
                    refine Nat.le_trans (List.length_filter_le _ _) ?_
                    rw [List.length_zip]; omega
                  rw [← h, HN1.out] at h2; omega
                have hn2k : n2 ≤ 24 := by
                  have h := HL2E.out
                  have h2 : (namesOf acc (recMs acc [g])).length ≤ acc.length := by
                    unfold namesOf
                    rw [List.length_map]
                    refine Nat.le_trans (List.length_filter_le _ _) ?_
                    rw [List.length_zip]; omega
                  rw [← h, HN2.out] at h2; omega
                have HR40 := Lib.hid (HR9.out.below H9R.out)
                have HKR : Hid (w40.heap[D]? = some (.deferred (some []))) := (HBR.out.block D (Array.getElem?_eq_some_iff.1 HK.out).1).trans HK.out
                go_wp2_with (go_at_call 16; refine (awake_any _).mono ?_; rintro e w50 ⟨rfl, hb50⟩; obtain ⟨c3', f3', hQ, hE⟩ := HR40.out.done hb50; have HQ := Lib.hid hQ; have HE := Lib.hid hE; have HKQ : Hid (w50.heap[D]? = some (.deferred (some []))) := (hb50.block D (Array.getElem?_eq_some_iff.1 HKR.out).1).trans HKR.out; clear hQ hE hb50)
                have hw9r : w.heap.size + 3 < w9.heap.size := HR9.out.lt
                have hDD : wl.heap.size ≤ D := HD.out
                have hSS := HSL.out
                refine leaveR1 ((Below.heap_setCell _ _ _ _ (by show D ≠ w.heap.size + 3; omega)).trans HKQ.out) HQ.out (by omega) HE.out ?_ rfl
                intro W' hq
                simp [results, Try.results13, go_sem, hq]
end Go.Proofs.Ytlanephpmoajiaa

namespace Go.Proofs.Ytlanephpmoajiaa
open Go.ChangeShapes Go.WideShapes Go.ChangeAt Go.RowKit
open Go.ChangeMaps (open_string shut_string)
set_option linter.unusedVariables false

namespace plantRecalls
theorem own : ownKnob Try.prog.godebug = none := by kernel_rfl
theorem laidOut : laidOutB Try.prog = true := by kernel_rfl

set_option maxRecDepth 100000 in
theorem lifted (os : Os) (started : os.Started) (H : Type) (enc : TypeId × Value → H) :
    ReturnsInHanded {} Try.checked os 13 .any (Rows.plantRecallsSpec.pre6 enc Try.prog Try.f13 Rows.plantRecallsRow.domain false) (Rows.plantRecallsSpec.post enc Try.prog Try.f13 false true false false) := by
  refine returnsInHanded_of_change (C := Try.checked) own started (by kernel_rfl) Try.func13
    (ChangeSpec.witness6 (enc := enc) (C := Try.checked) false ⟨#[], #[.slice none 0 0, .agg #[.string ByteArray.empty, .int .i64 0, .int .i64 0], .agg #[.string ByteArray.empty, .int .i64 0, .int .i64 0], .slice none 0 0], []⟩ 8 (by kernel_rfl) (by kernel_rfl) (by kernel_rfl) (by kernel_rfl)) ?_
  intro W base args ds gs before hval0 hW hcnd _
  have hval : ∀ (j : Nat) t v, Try.f13.params[j]? = some t → args[j]? = some v → Value.okWide Try.prog W .any base t v := hval0
  have hW' := hW
  obtain ⟨p, q, hA0, hV, rfl, hfz, hnd⟩ := hW
  have hA : DataW.TrodAll enc Try.prog W 0 (fun _ => true) true Try.f13.params.toList args.toList ds p := hA0
  rw [Try.params13] at hA hval
  obtain ⟨v0, vs0, d0, ds0, p0, q0, hargs, rfl, rfl, h0, r0⟩ := trodAll_cons hA
  obtain ⟨v1, vs1, d1, ds1, p1, q1, rfl, rfl, rfl, h1, r1⟩ := trodAll_cons r0
  obtain ⟨v2, vs2, d2, ds2, p2, q2, rfl, rfl, rfl, h2, r2⟩ := trodAll_cons r1
  obtain ⟨v3, vs3, d3, ds3, p3, q3, rfl, rfl, rfl, h3, r3⟩ := trodAll_cons r2
  obtain ⟨rfl, rfl, rfl⟩ := trodAll_nil r3
  obtain rfl : args = #[v0, v1, v2, v3] := by cases args; simp_all
  obtain ⟨rfl, rfl⟩ := trodVars_none hV
  have k0 := h0
  have lt0 : ∀ x ∈ p0, x.block < W.heap.size := by obtain ⟨m, hm⟩ := k0; exact DataW.trod_lt m _ _ _ hm
  have k1 := h1
  have lt1 : ∀ x ∈ p1, x.block < W.heap.size := by obtain ⟨m, hm⟩ := k1; exact DataW.trod_lt m _ _ _ hm
  have k2 := h2
  have lt2 : ∀ x ∈ p2, x.block < W.heap.size := by obtain ⟨m, hm⟩ := k2; exact DataW.trod_lt m _ _ _ hm
  have k3 := h3
  have lt3 : ∀ x ∈ p3, x.block < W.heap.size := by obtain ⟨m, hm⟩ := k3; exact DataW.trod_lt m _ _ _ hm
  obtain ⟨a0, len0, cap0, rfl⟩ := okWide_slice Try.underlying27 (hval 0 27 v0 rfl rfl)
  obtain ⟨xs0, e0, ww0⟩ : ∃ xs0, RdI W (fun _ => True) (.slice a0 len0 cap0) xs0 ∧ ∀ x ∈ xs0, ItemWf x := by
    obtain ⟨fuel, hf⟩ := h0
    obtain ⟨v, xs, hcs, h1, h2⟩ := open_items hf
    simp [Value.cells] at hcs
    subst hcs
    exact ⟨xs, h1, h2⟩
  obtain ⟨cs1, rfl, _⟩ := okWide_struct Try.underlying47 (hval 1 47 v1 rfl rfl)
  obtain ⟨f1, rfl, hf1⟩ : ∃ f : FaultD, cs1 = #[.string f.item, .int .i64 f.since, .int .i64 f.until_] ∧ FaultWf f := by
    obtain ⟨fuel, hf⟩ := h1
    obtain ⟨f, hcs, h⟩ := open_faultD hf
    exact ⟨f, Array.toList_inj.1 hcs, h⟩
  obtain ⟨cs2, rfl, _⟩ := okWide_struct Try.underlying47 (hval 2 47 v2 rfl rfl)
  obtain ⟨f2, rfl, hf2⟩ : ∃ f : FaultD, cs2 = #[.string f.item, .int .i64 f.since, .int .i64 f.until_] ∧ FaultWf f := by
    obtain ⟨fuel, hf⟩ := h2
    obtain ⟨f, hcs, h⟩ := open_faultD hf
    exact ⟨f, Array.toList_inj.1 hcs, h⟩
  obtain ⟨a3, len3, cap3, rfl⟩ := okWide_slice Try.underlying33 (hval 3 33 v3 rfl rfl)
  obtain ⟨xs3, e3, ww3⟩ : ∃ xs3, Rd (fun n : Int => Value.int .u8 n) W (fun _ => True) (.slice a3 len3 cap3) xs3 ∧ ∀ n ∈ xs3, (Lit.int .u8 n).wf = true := by
    obtain ⟨fuel, hf⟩ := h3
    obtain ⟨v, xs, hcs, h1, h2⟩ := open_u8s hf
    simp [Value.cells] at hcs
    subst hcs
    exact ⟨xs, h1, h2⟩
  clear hA0 hval0
  refine (recalls_any (.slice a0 len0 cap0) xs0 f1 f2 (.slice a3 len3 cap3) xs3 W e0 ww0 hf1 hf2 e3 ww3).mono fun e W' ⟨he, bel⟩ => ?_
  subst he
  exact ⟨_, rfl, _, _, _, [], _, [], hW', trodAll_mk1 (shut_bool Try.underlying4 _), (trodAll_cons_mk (Below.trod laidOut (by kernel_rfl) (of_decide_eq_true (by kernel_rfl)) k0 bel lt0) (trodAll_cons_mk (Below.trod laidOut (by kernel_rfl) (of_decide_eq_true (by kernel_rfl)) k1 bel lt1) (trodAll_cons_mk (Below.trod laidOut (by kernel_rfl) (of_decide_eq_true (by kernel_rfl)) k2 bel lt2) (trodAll_cons_mk (Below.trod laidOut (by kernel_rfl) (of_decide_eq_true (by kernel_rfl)) k3 bel lt3) trodAll_mk0)))), rfl, bel.frame _, fun h => by cases h⟩

theorem over : Rows.plantRecallsRow.holds Try.pinned (OpenSpec.ofChange Rows.plantRecallsSpec) :=
  OpenClaim.holds_of_wide 13 Try.f13 rfl rfl rfl rfl rfl rfl rfl ⟨rfl, rfl, rfl, rfl, rfl⟩ rfl rfl rfl rfl rfl (by kernel_rfl) Try.func13 (by kernel_rfl)
    (of_decide_eq_true (by kernel_rfl)) (by unfold Func.isWrapper; first | (rw [if_pos (by decide +kernel)]; kernel_rfl) | (rw [if_neg (by decide +kernel)]; exact ⟨rfl, rfl⟩))
    (fun os started H enc _ => lifted os started H enc)

theorem proved : Rows.PlantRecallsSaid :=
  over
#print axioms proved
end plantRecalls
end Go.Proofs.Ytlanephpmoajiaa

