/- A loop over a function whose rounds are told something of what they are handed: the law. slices.Values of a list of ints: its iterator. -/
import Derived.Test.YtodckaioeomccaaGreatPart14
import Derived.Deep.QuietTactic
import Derived.BigQuiet
import Derived.RangeFuncNested
import Derived.RangeFuncBound
import Derived.RangeFuncCalls
import Derived.RangeFuncLeaves
import Derived.Shelf.Abstract
import Derived.OwnWalkIn
import Derived.TacticsInMore
import Derived.LoopNIn
import Derived.LoopIn
namespace Go.Proofs.YtodckaioeomccaaGreat
open Go.RowKit Go.Shelf
set_option linter.unusedVariables false
set_option linter.unusedSimpArgs false
attribute [local go_sem] Oper.semAt_some
structure CellsKept (W W' : World) : Prop where
 size : W.heap.size ≤ W'.heap.size
 same : ∀ (k : Nat) (o : Obj), W.heap[k]? = some o → o.isCells = true → W'.heap[k]? = some o
theorem CellsKept.refl (W : World) : CellsKept W W := ⟨Nat.le_refl _, fun _ _ h _ => h⟩
theorem CellsKept.trans {A B C : World} (h : CellsKept A B) (k : CellsKept B C) : CellsKept A C := ⟨Nat.le_trans h.size k.size, fun i o hi ho => k.same i o (h.same i o hi ho) ho⟩
theorem CellsKept.putObj {W : World} {l : Nat} {o o' : Obj} (hl : W.heap[l]? = some o) (ho : o.isCells = false) : CellsKept W (W.putObj l o') :=
 ⟨by simp, fun k p hk hp => (World.putObj_heap_other (fun e => by subst e; rw [hl] at hk; cases hk; rw [ho] at hp; cases hp)).trans hk⟩
def Told {α : Type} (n₀ gf : Nat) (lb : Array Value) (encs : α → Array Value) (R : List α → α → Nat → World → Prop) (S Sp : List α → Prop) (w : World) : Prop :=
 ∀ (l : Nat) (J Jx : List α → World → Prop) (W : World), Below w.heap.size w W → AbidesFrom W.heap.size J → AbidesFrom W.heap.size Jx →
  (∀ pre x W0 W1, J pre W0 → J pre W1 → CellsKept W0 W1 → R pre x W0.heap.size W1 → YieldAt Fence.wide 1 Tryz.prog l (encs x) W1 fun e W' => (e = .returned (.bool true) ∧ J (pre ++ [x]) W' ∧ Below n₀ W1 W') ∨ (e = .returned (.bool false) ∧ Jx (pre ++ [x]) W')) →
  J [] W → CallsIn Fence.wide 2 Tryz.prog gf (#[.func (.yield l) #[] #[]] ++ lb) W fun e W' => (∃ v, e = .returned v) ∧ ((∃ ys, S ys ∧ J ys W') ∨ ∃ pre, Sp pre ∧ Jx pre W')
theorem wp_range_told {α : Type} {g : Operand} {ps : Array Tmp} {assign body : Code} {Q : Exit → Act → World → Prop} {a : Act} {w : World} {gf : Nat} {lb : Array Value} (hg : a.eval g = .func (.func gf) #[] lb)
  (eg : ∀ args w, (callFunc gf args).run Tryz.prog w = .ok (.enter gf args) w) {encs : α → Array Value} {n₀ : Nat} {R : List α → α → Nat → World → Prop} {S Sp : List α → Prop} (hseq : Told n₀ gf lb encs R S Sp w) (hn : n₀ ≤ w.heap.size) (hps : ∀ x, (encs x).size = ps.size)
  (hR : ∀ pre x b W (l : Nat) (o o' : Obj), W.heap[l]? = some o → o.isCells = false → R pre x b W → R pre x b (W.putObj l o'))
  (I : List α → World → Prop) (Ix : Code → List α → World → Prop) (hI : OwnFrom w.heap.size I) (hIx : ∀ c, OwnFrom w.heap.size (Ix c)) (h0 : I [] w) (Ax : α → Act → World → Prop)
  (hAx : ∀ x a' W (l : Nat) (o o' : Obj), W.heap[l]? = some o → o.isCells = false → Ax x a' W → Ax x a' (W.putObj l o'))
  (hassign : ∀ (l : Nat) (pre : List α) (x : α) (b : Nat) (W : World) (K : Act → World → Prop), I pre W → R pre x b W → (∀ a' W', KeepsFrom w.heap.size W W' → CellsKept W W' → Below n₀ W W' → I pre W' → R pre x b W' → Ax x a' W' → K a' W') → assign.wpIn (Fence.wide.inRound l) 1 Tryz.prog (Exit.then K (fun _ _ _ => False)) { tmps := (ps.zip (encs x)).foldl (fun t (p, v) => t.setIfInBounds p v) a.tmps, defers := [] } W)
  (hbody : ∀ (l : Nat) (pre : List α) (x : α) (a' : Act) (W0 W : World), I pre W0 → CellsKept W0 W → I pre W → R pre x W0.heap.size W → Ax x a' W → body.wpIn (Fence.wide.inRound l) 1 Tryz.prog (ownPostG w.heap.size (Below n₀) I Ix (pre ++ [x]) W) a' W)
  (hdone : ∀ (D : Nat) (ys : List α) (W : World), w.heap.size ≤ D → S ys → I ys W → W.heap[D]? = some (.deferred (some [])) → Q .normal { a with defers := { target := .collected D, args := #[] } :: a.defers } W)
  (hstop : ∀ (D : Nat) (c : Code) (pre : List α) (W : World), w.heap.size ≤ D → Sp pre → Ix c pre W → W.heap[D]? = some (.deferred (some [])) → c.wpIn Fence.wide 3 Tryz.prog Q { a with defers := { target := .collected D, args := #[] } :: a.defers } W) :
  (Code.rangeFunc g ps assign body).wp Tryz.prog Q a w := by
 refine (wpIn_wide (n := 3)).1 (wpIn_rangeFunc fun fn hfn => ?_)
 -- the record, by its state and the jump that it waits with
 let L : LoopState → Option Code → Loop := fun st pe => { state := st, pending := pe, fn, tmps := a.tmps, params := ps, assign, body, defers := w.heap.size }
 have hB : ∀ {k : Nat} (W : World) (l : Nat) (o o' : Obj), k ≤ w.heap.size → w.heap.size ≤ l → W.heap[l]? = some o → Below k W (W.putObj l o') := fun {k} W l o o' hk hl ho =>
  (Below.refl k W).grown (grownBy_putObj' W l o') (by have := (Array.getElem?_eq_some_iff.1 ho).1; omega) (fun j e => by cases e; omega)
 have hmD : ((w.alloc (.deferred (some []))).alloc (.loop (L .ready none))).heap[w.heap.size]? = some (.deferred (some [])) := (Below.heap_alloc _ _ _ (by simp)).trans (World.alloc_heap_new w _)
 have hmL : ((w.alloc (.deferred (some []))).alloc (.loop (L .ready none))).heap[w.heap.size + 1]? = some (.loop (L .ready none)) := by
  have := World.alloc_heap_new (w.alloc (.deferred (some []))) (.loop (L .ready none)); rwa [World.size_alloc] at this
 have hI1 : I [] ((w.alloc (.deferred (some []))).alloc (.loop (L .ready none))) := hI.alloc _ (hI.alloc _ h0)
 have hb1 : Below w.heap.size w ((w.alloc (.deferred (some []))).alloc (.loop (L .ready none))) := ((Below.refl _ w).alloc (Nat.le_refl _) _).alloc (by simp) _
 have hs1 : ((w.alloc (.deferred (some []))).alloc (.loop (L .ready none))).heap.size = w.heap.size + 2 := by simp
 refine ⟨w.heap.size + 1, [{ target := .collected w.heap.size, args := #[] }], _, { target := .fn (.func gf) lb, args := #[.func (.yield (w.heap.size + 1)) #[] #[]] }, (w.alloc (.deferred (some []))).alloc (.loop (L .ready none)), gf,
  #[.func (.yield (w.heap.size + 1)) #[] #[]] ++ lb, (w.alloc (.deferred (some []))).alloc (.loop (L .ready none)), run_enterLoop_outer _ _ _ _ _, ?_, fun f' hf' => trivial, ?_, (fun h => by cases h), ?_⟩
 ·simp only [resolve, hg]
  simp [go_sem]
  rfl
 ·simp [invoke, go_sem, eg]
 generalize hW1 : (w.alloc (.deferred (some []))).alloc (.loop (L .ready none)) = W1 at hmD hmL hI1 hb1 hs1 ⊢
 have away : ∀ {A : World} {row : Option Nat}, (∀ r, row = some r → W1.heap.size ≤ r ∧ ∃ o : Obj, A.heap[r]? = some o ∧ o.isWalk = true) → ∀ r, row = some r → w.heap.size ≤ r ∧ ∃ o : Obj, A.heap[r]? = some o ∧ o.isCells = false := fun hr r e => by
  obtain ⟨h1, o, ho, hw⟩ := hr r e
  exact ⟨by omega, o, ho, Obj.not_cells_of_walk hw⟩
 have stay : ∀ {A B : World} {row : Option Nat} {k : Nat} {o : Obj}, A.grownBy B row → (∀ r, row = some r → W1.heap.size ≤ r ∧ ∃ o : Obj, A.heap[r]? = some o ∧ o.isWalk = true) → A.heap[k]? = some o → o.isWalk = false → B.heap[k]? = some o := fun hg hr hk ho =>
  (grownBy_keeps hg (fun r e => (hr r e).2) hk ho).trans hk
 refine (hseq (w.heap.size + 1) (fun pre W => I pre W ∧ W.heap[w.heap.size + 1]? = some (.loop (L .ready none)) ∧ W.heap[w.heap.size]? = some (.deferred (some [])))
  (fun pre W => ∃ c, Ix c pre W ∧ W.heap[w.heap.size + 1]? = some (.loop (L .done (some c))) ∧ W.heap[w.heap.size]? = some (.deferred (some []))) W1 hb1
  (fun s A B row hs hg' hr => ⟨hI s A B row hs.1 hg' (away hr), stay hg' hr hs.2.1 rfl, stay hg' hr hs.2.2 rfl⟩)
  (fun s A B row hs hg' hr => let ⟨c, hc, hl, hk⟩ := hs; ⟨c, hIx c s A B row hc hg' (away hr), stay hg' hr hl rfl, stay hg' hr hk rfl⟩) ?_ ⟨hI1, hmL, hmD⟩).mono ?_
 ·-- one round
  rintro pre x Wp W0 ⟨hip, -, -⟩ ⟨hi0, hl0, hk0⟩ hck hr0
  refine ⟨fn, _, assign, body, run_yield (r := L .ready none) hl0 (hps x), roundIn_of_wpIn hfn (hassign _ pre x _ W0 _ hi0 hr0 fun a' W hks hcs hbs hi hr hax => ?_)⟩
  have hl : W.heap[w.heap.size + 1]? = some (.loop (L .ready none)) := hks.same _ _ (by omega) hl0 rfl
  have hk : W.heap[w.heap.size]? = some (.deferred (some [])) := hks.same _ _ (Nat.le_refl _) hk0 rfl
  have hlt := (Array.getElem?_eq_some_iff.1 hl).1
  refine ⟨_, run_beginRound (r := L .ready none) hl rfl, ?_⟩
  have hl2 : (W.putObj (w.heap.size + 1) (.loop (L .busy none))).heap[w.heap.size + 1]? = some (.loop (L .busy none)) := World.putObj_heap_same hlt
  have hk2 : (W.putObj (w.heap.size + 1) (.loop (L .busy none))).heap[w.heap.size]? = some (.deferred (some [])) := (World.putObj_heap_other (by omega)).trans hk
  have hbl := hbs.trans (hB (k := n₀) W _ _ (.loop (L .busy none)) hn (by omega) hl)
  refine wpIn_mono (hbody _ pre x a' Wp _ hip ((hck.trans hcs).trans (CellsKept.putObj hl rfl)) (hI.putObj _ hi (by omega) hl rfl) (hR _ _ _ _ _ _ _ hl rfl hr) (hAx _ _ _ _ _ _ hl rfl hax)) ?_
  have fin : ∀ (jump : Option Code) (W3 : World), KeepsFrom w.heap.size (W.putObj (w.heap.size + 1) (.loop (L .busy none))) W3 →
    (Instr.endRound (w.heap.size + 1) jump).run Tryz.prog W3 = .ok (.bool jump.isNone) (W3.putObj (w.heap.size + 1) (.loop (L (if jump.isNone then .ready else .done) jump))) ∧ W3.heap[w.heap.size + 1]? = some (.loop (L .busy none)) ∧
    (W3.putObj (w.heap.size + 1) (.loop (L (if jump.isNone then .ready else .done) jump))).heap[w.heap.size + 1]? = some (.loop (L (if jump.isNone then .ready else .done) jump)) ∧
    (W3.putObj (w.heap.size + 1) (.loop (L (if jump.isNone then .ready else .done) jump))).heap[w.heap.size]? = some (.deferred (some [])) := fun jump W3 hk3 => by
   have hl3 := hk3.same _ _ (by omega) hl2 rfl
   exact ⟨run_endRound (r := L .busy none) jump hl3, hl3, World.putObj_heap_same (Array.getElem?_eq_some_iff.1 hl3).1, (World.putObj_heap_other (by omega)).trans (hk3.same _ _ (Nat.le_refl _) hk2 rfl)⟩
  intro e a3 W3 hp
  have jump : ∀ c : Code, KeepsFrom w.heap.size (W.putObj (w.heap.size + 1) (.loop (L .busy none))) W3 → Ix c (pre ++ [x]) W3 → _ := fun c hk3 hi3 => by
   obtain ⟨hr3, hl3, hl4, hk4⟩ := fin (some c) W3 hk3
   exact (⟨_, _, hr3, .inr ⟨rfl, c, (hIx _).putObj _ hi3 (by omega) hl3 rfl, hl4, hk4⟩⟩ : ∃ (b : Value) (W4 : World), (Instr.endRound (w.heap.size + 1) (some c)).run Tryz.prog W3 = .ok b W4 ∧
    ((Ending.returned b = .returned (.bool true) ∧ (I (pre ++ [x]) W4 ∧ W4.heap[w.heap.size + 1]? = some (.loop (L .ready none)) ∧ W4.heap[w.heap.size]? = some (.deferred (some []))) ∧ Below n₀ W0 W4) ∨
     (Ending.returned b = .returned (.bool false) ∧ ∃ c, Ix c (pre ++ [x]) W4 ∧ W4.heap[w.heap.size + 1]? = some (.loop (L .done (some c))) ∧ W4.heap[w.heap.size]? = some (.deferred (some [])))))
  cases e with
  | normal =>
   obtain ⟨hk3, hkp3, hi3⟩ := hp
   obtain ⟨hr3, hl3, hl4, hk4⟩ := fin none W3 hk3
   exact ⟨_, _, hr3, .inl ⟨rfl, ⟨hI.putObj _ hi3 (by omega) hl3 rfl, hl4, hk4⟩, (hbl.trans hkp3).trans (hB _ _ _ _ hn (by omega) hl3)⟩⟩
  | ret => exact jump .ret hp.1 hp.2
  | exit id => exact jump (.exit id) hp.1 hp.2
  | goto t => exact jump (.goto t) hp.1 hp.2
  | panic ch => exact hp.elim
  | outgrown => exact hp.elim
 ·-- behind the iterator
  rintro e W2 ⟨⟨v, rfl⟩, ⟨ys, hS, hi, hl, hk⟩ | ⟨pre, hSp, c, hi, hl, hk⟩⟩
  ·exact ⟨none, _, run_endLoop (r := L .ready none) hl (by simp [L]), hdone _ ys _ (Nat.le_refl _) hS (hI.putObj _ hi (by omega) hl rfl) ((World.putObj_heap_other (by omega)).trans hk)⟩
  ·exact ⟨some c, _, run_endLoop (r := L .done (some c)) hl (by simp [L]), hstop _ c pre _ (Nat.le_refl _) hSp ((hIx c).putObj _ hi (by omega) hl rfl) ((World.putObj_heap_other (by omega)).trans hk)⟩
def ValR (l : List Int) (pre : List Int) (x : Int) (b0 : Nat) (W : World) : Prop := l[pre.length]? = some x ∧ pre = l.take pre.length
def valEnc (x : Int) : Array Value := #[.int .i64 x]
set_option maxRecDepth 100000 in
set_option maxHeartbeats 2000000 in
theorem values_told (v : Value) (l : List Int) (w0 w : World) (hv : RdL w0 v l) (h0w : Below w0.heap.size w0 w) (Bs : Nat) (hBs : Bs < w0.heap.size) (hc : w0.cell? ⟨Bs, 0, none⟩ = some v) :
  Told w0.heap.size 195 #[.pointer (some ⟨Bs, 0, none⟩)] valEnc (ValR l) (fun ys => ys = l) (fun _ => True) w := fun L J Jx W hW hJa hJxa hY h0 => by
 have h0W : Below w0.heap.size w0 W := h0w.trans (hW.mono h0w.size)
 have hc' := (h0W.cell (p := ⟨Bs, 0, none⟩) hBs).trans hc
 obtain ⟨A, n, cap, rfl, hn, hcap, hmax, hcm, hcl⟩ := hv.open_
 have HC := h0d hcl
 have HN := h0d hn
 have HJ := h0d hJa
 have HY := h0d hY
 have H0W := h0d h0W
 clear hn hW hJa hJxa hY h0W h0w hc hcl hv hcm
 refine callsIn_of_wp Tryz.func195 rfl trivial ?_ rfl
 simp only [Tryz.ntmps195, List.size_toArray, List.length_cons, List.length_nil, Nat.reduceAdd, Nat.reduceSub, Array.replicate_succ, Array.replicate_zero, List.push_toArray, List.append_toArray, List.nil_append, List.cons_append]
 gi_wp2
 gi_loopw [4, 7] (fun _ i wr => ∃ k : Nat, k ≤ n ∧ i = .int .i64 k ∧ J (l.take k) wr ∧ Below w0.heap.size w0 wr ∧ W.heap.size ≤ wr.heap.size) (fun _ i _ => n - (intOf i).toNat)
 case atStart => exact ⟨0, Nat.zero_le _, rfl, h0, H0W.out, Nat.le_refl _⟩
 case round =>
  obtain ⟨k, hk, rfl, hJ, hbel, hsz⟩ := hrel
  by_cases hlt : k < n
  ·obtain ⟨b, off, x, rfl, hb, hx, hcx⟩ := HC.out k hlt
   have hcx' := (hbel.cell (p := ⟨b, off + k, none⟩) hb).trans hcx
   have hlk : (l.take k).length = k := by rw [List.length_take]; have := HN.out; omega
   obtain ⟨fn, tmps, assign, body, hy, hR⟩ := HY.out (l.take k) x wr wr hJ hJ (CellsKept.refl _) ⟨by rw [hlk]; exact hx, by rw [hlk]⟩
   have HT : Hid (l.take k ++ [x] = l.take (k + 1)) := (take_snoc? hx).symm
   rw [HT.out] at hR
   have HBEL := h0d hbel
   simp only [valEnc] at hy
   clear hx hcx hb hbel hJ hlk
   gi_wp2
   refine hR.mono ?_
   rintro e w6 (⟨rfl, hJ6, hk6⟩ | ⟨rfl, hJx6⟩)
   ·gi_wp2
    go_roundw
    case rel => exact ⟨k + 1, by omega, by go_num, hJ6, HBEL.out.trans hk6, by have := hk6.size; omega⟩
    case measure => simp [intOf]; omega
   ·gi_wp2
    refine bodyPost_ret (results_none rfl _ _ _) rfl ?_
    exact ⟨⟨_, rfl⟩, .inr ⟨_, trivial, hJx6⟩⟩
  ·have hkn : k = n := by omega
   have HKN := h0d hkn
   clear hkn
   gi_wp2
   go_end0
   exact ⟨⟨_, rfl⟩, .inl ⟨_, by rw [HKN.out, ← HN.out, List.take_length], hJ⟩⟩
end Go.Proofs.YtodckaioeomccaaGreat
