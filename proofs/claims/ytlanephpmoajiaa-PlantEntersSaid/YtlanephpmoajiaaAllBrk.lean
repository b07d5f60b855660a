/- A loop over All that may be left by a break, in its block; the ways out of a function behind two such loops. -/
import Derived.Test.YtlanephpmoajiaaAllBox
import Derived.Test.YtlanephpmoajiaaBoth
import Derived.Test.YtlanephpmoajiaaSeq
import Derived.LoopN
namespace Go.Proofs.Ytlanephpmoajiaa
open Go.RowKit Go.Shelf
set_option linter.unusedVariables false
/-- The loop, in block id: I holds of what has come, X where the block is left. -/
theorem wp_all_break {id : Nat} {g : Operand} {t tb : Tmp} {assign body : Code} {Q : Exit → Act → World → Prop} {a : Act} {w w0 : World} {p : Value} {B : Nat} {F : Nat → Prop} {xs : List ItemD} {Bs : Nat}
    (hg : a.eval g = .func (.func 63) #[] #[.pointer (some ⟨Bs, 0, none⟩)]) (hbk : Bk w0 B p F xs) (hsm : ∀ x ∈ xs, x.frm.length ≤ 1000 ∧ ∀ c ∈ x.frm, c.length ≤ 1000) (hxl : xs.length ≤ 1024) (h0w : Below w0.heap.size w0 w)
    (hBs : Bs < w.heap.size) (hc : w.cell? ⟨Bs, 0, none⟩ = some p)
    (I X : List ItemD → World → Prop) (hI : OwnFrom w.heap.size I) (hX : OwnFrom w.heap.size X) (h0 : I [] w)
    (hassign : ∀ (l : Nat) (x : ItemD) (A : Option Addr) (n cp : Nat) (W : World) (K : Act → World → Prop), K { tmps := (a.tmps.setIfInBounds t (.agg (itemCells (x, .slice A n cp)))).setIfInBounds tb (.pointer (some ⟨W.heap.size, 0, none⟩)), defers := [] } (W.alloc (.cells (itemCells (x, .slice A n cp)) 37)) →
      assign.wpIn (Fence.wide.inRound l) 1 Try.prog (Exit.then K (fun _ _ _ => False)) { tmps := a.tmps.setIfInBounds t (.agg (itemCells (x, .slice A n cp))), defers := [] } W)
    (hbody : ∀ (l : Nat) (k : Nat) (x : ItemD) (A : Option Addr) (n cp : Nat) (Bx : Nat) (W0 W : World), xs[k]? = some x → I (xs.take k) W0 → CellsKept W0 W → I (xs.take k) W → Rd2 W (W0.heap.size ≤ ·) (.slice A n cp) x.frm → W.heap[Bx]? = some (.cells (itemCells (x, .slice A n cp)) 37) → w.heap.size ≤ Bx →
      body.wpIn (Fence.wide.inRound l) 1 Try.prog (allPost w.heap.size w0.heap.size I (fun c L W => c = .exit id ∧ X L W) (xs.take (k + 1)) W) { tmps := (a.tmps.setIfInBounds t (.agg (itemCells (x, .slice A n cp)))).setIfInBounds tb (.pointer (some ⟨Bx, 0, none⟩)), defers := [] } W)
    (hfin : ∀ (D : Nat) (W : World), w.heap.size ≤ D → (I xs W ∨ ∃ k, k ≤ xs.length ∧ X (xs.take k) W) → W.heap[D]? = some (.deferred (some [])) → Q .normal { a with defers := { target := .collected D, args := #[] } :: a.defers } W) :
    (Code.rangeFunc g #[t] assign body).wp Try.prog (Exit.inBlock id Q) a w := by
  refine wp_all_boxed hg hbk hsm hxl h0w hBs hc I (fun c L W => c = .exit id ∧ X L W) hI (fun c s A B row hs hg hr => ⟨hs.1, hX s A B row hs.2 hg hr⟩) h0 hassign hbody (fun D W hD hi hk => hfin D W hD (.inl hi) hk) ?_
  rintro D c k W hD hk ⟨rfl, hx⟩ hK
  refine wpIn_wide.2 (wp_exit ?_)
  show (if id = id then _ else _)
  rw [if_pos rfl]
  exact hfin D W hD (.inr ⟨k, hk, hx⟩) hK
/-- The way out behind two loops over a function: the result lies in a cell. -/
theorem leaveM2 {fn : Func} {a : Act} {w W : World} {D D' b : Nat} (hK : W.heap[D]? = some (.deferred (some []))) (hK' : W.heap[D']? = some (.deferred (some []))) (hne : D' ≠ D) (hq : W.cell? ⟨b, 0, none⟩ = some (.bool true)) (hD : w.heap.size ≤ D) (hD' : w.heap.size ≤ D') (hb : Below w.heap.size w W)
    (hr : ∀ W' : World, W'.cell? ⟨b, 0, none⟩ = some (.bool true) → (results fn a.tmps).run Try.prog W' = .ok (.bool true) W') (hd : a.defers = [{ target := .collected D, args := #[] }, { target := .collected D', args := #[] }]) :
    bodyPostM Fence.wide 3 Try.prog fn (fun e w' => e = .returned (.bool true) ∧ Below w.heap.size w w') .ret a W := by
  show LeavesInM Fence.wide 3 Try.prog fn a.tmps _ a.defers .returning W
  rw [hd]
  refine ⟨by simp, .inl ⟨_, _, rfl, run_takeDeferred hK, ?_⟩⟩
  have hc5 := cell_kept hq (grownBy_putObj' _ D (.deferred none)) (fun r e => by cases e; exact ⟨_, hK, rfl⟩)
  have hK2 : (W.putObj D (.deferred none)).heap[D']? = some (.deferred (some [])) := (World.putObj_heap_other hne).trans hK'
  refine ⟨by simp, .inl ⟨_, _, rfl, run_takeDeferred hK2, ?_⟩⟩
  have hc6 := cell_kept hc5 (grownBy_putObj' _ D' (.deferred none)) (fun r e => by cases e; exact ⟨_, hK2, rfl⟩)
  exact ⟨.bool true, hr _ hc6, rfl, (hb.trans (belowK_b (w := w) (Nat.le_refl _) W D _ _ hD hK rfl rfl)).trans (belowK_b (w := w) (Nat.le_refl _) _ D' _ _ hD' hK2 rfl rfl)⟩
/-- Of the first n items that came: the count lies in its box, and is below the limit. -/
def CntI (w0 : World) (nb m : Nat) (L : List ItemD) (W : World) : Prop := Boxed W nb 3 (.int .i64 (L.length : Nat)) ∧ (L.length < m ∧ Below nb w0 W)
def CntX (w0 : World) (nb m : Nat) (L : List ItemD) (W : World) : Prop := Boxed W nb 3 (.int .i64 (L.length : Nat)) ∧ (L.length = m ∧ Below nb w0 W)
theorem cntI_own (w0 : World) (nb m B : Nat) (hn : nb ≤ w0.heap.size) (hB : nb ≤ B) : OwnFrom B (CntI w0 nb m) :=
  OwnFrom.and (Own.from (boxed_own _ _ _) _) (OwnFrom.and (fun _ _ _ _ hs _ _ => hs) (ownFrom_below hn hB))
theorem cntX_own (w0 : World) (nb m B : Nat) (hn : nb ≤ w0.heap.size) (hB : nb ≤ B) : OwnFrom B (CntX w0 nb m) :=
  OwnFrom.and (Own.from (boxed_own _ _ _) _) (OwnFrom.and (fun _ _ _ _ hs _ _ => hs) (ownFrom_below hn hB))
theorem cnt_end {w0 W : World} {nb m : Nat} {xs : List ItemD} (h : CntI w0 nb m xs W ∨ ∃ k, k ≤ xs.length ∧ CntX w0 nb m (xs.take k) W) : Boxed W nb 3 (.int .i64 (min m xs.length : Nat)) ∧ Below nb w0 W := by
  rcases h with ⟨h1, h2, h3⟩ | ⟨k, hk, h1, h2, h3⟩
  · rw [Nat.min_eq_right (by omega)]; exact ⟨h1, h3⟩
  · have : (xs.take k).length = k := by rw [List.length_take]; omega
    rw [this] at h1 h2
    rw [Nat.min_eq_left (by omega), ← h2]; exact ⟨h1, h3⟩
end Go.Proofs.Ytlanephpmoajiaa
