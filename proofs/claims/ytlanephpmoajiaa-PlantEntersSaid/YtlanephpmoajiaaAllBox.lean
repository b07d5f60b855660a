/- A loop over All of a book with items, whose loop variable is boxed. -/
import Derived.Test.YtlanephpmoajiaaTold
namespace Go.Proofs.Ytlanephpmoajiaa
open Go.RowKit Go.Shelf
set_option linter.unusedVariables false
def itemCells (x : ItemD × Value) : Array Value := #[.string x.1.name, .int .i64 x.1.kind, .int .i64 x.1.at_, x.2]
/-- How the body of a round may be left, L having come. -/
def allPost (B n₀ : Nat) (I : List ItemD → World → Prop) (Ix : Code → List ItemD → World → Prop) (L : List ItemD) (W : World) : Exit → Act → World → Prop
  | .normal, _, W' => KeepsFrom B W W' ∧ Below n₀ W W' ∧ I L W'
  | .ret, _, W' => KeepsFrom B W W' ∧ Ix .ret L W'
  | .exit id, _, W' => KeepsFrom B W W' ∧ Ix (.exit id) L W'
  | .goto c, _, W' => KeepsFrom B W W' ∧ Ix (.goto c) L W'
  | .panic _, _, _ => False
  | .outgrown, _, _ => False
theorem wp_all_boxed {g : Operand} {t tb : Tmp} {assign body : Code} {Q : Exit → Act → World → Prop} {a : Act} {w w0 : World} {p : Value} {B : Nat} {F : Nat → Prop} {xs : List ItemD} {Bs : Nat}
    (hg : a.eval g = .func (.func 63) #[] #[.pointer (some ⟨Bs, 0, none⟩)]) (hbk : Bk w0 B p F xs) (hsm : ∀ x ∈ xs, x.frm.length ≤ 1000 ∧ ∀ c ∈ x.frm, c.length ≤ 1000) (hxl : xs.length ≤ 1024) (h0w : Below w0.heap.size w0 w)
    (hBs : Bs < w.heap.size) (hc : w.cell? ⟨Bs, 0, none⟩ = some p)
    (I : List ItemD → World → Prop) (Ix : Code → List ItemD → World → Prop) (hI : OwnFrom w.heap.size I) (hIx : ∀ c, OwnFrom w.heap.size (Ix c)) (h0 : I [] w)
    (hassign : ∀ (l : Nat) (x : ItemD) (A : Option Addr) (n cp : Nat) (W : World) (K : Act → World → Prop), K { tmps := (a.tmps.setIfInBounds t (.agg (itemCells (x, .slice A n cp)))).setIfInBounds tb (.pointer (some ⟨W.heap.size, 0, none⟩)), defers := [] } (W.alloc (.cells (itemCells (x, .slice A n cp)) 37)) →
      assign.wpIn (Fence.wide.inRound l) 1 Try.prog (Exit.then K (fun _ _ _ => False)) { tmps := a.tmps.setIfInBounds t (.agg (itemCells (x, .slice A n cp))), defers := [] } W)
    (hbody : ∀ (l : Nat) (k : Nat) (x : ItemD) (A : Option Addr) (n cp : Nat) (Bx : Nat) (W0 W : World), xs[k]? = some x → I (xs.take k) W0 → CellsKept W0 W → I (xs.take k) W → Rd2 W (W0.heap.size ≤ ·) (.slice A n cp) x.frm → W.heap[Bx]? = some (.cells (itemCells (x, .slice A n cp)) 37) → w.heap.size ≤ Bx →
      body.wpIn (Fence.wide.inRound l) 1 Try.prog (allPost w.heap.size w0.heap.size I Ix (xs.take (k + 1)) W) { tmps := (a.tmps.setIfInBounds t (.agg (itemCells (x, .slice A n cp)))).setIfInBounds tb (.pointer (some ⟨Bx, 0, none⟩)), defers := [] } W)
    (hdone : ∀ (D : Nat) (W : World), w.heap.size ≤ D → I xs W → W.heap[D]? = some (.deferred (some [])) → Q .normal { a with defers := { target := .collected D, args := #[] } :: a.defers } W)
    (hstop : ∀ (D : Nat) (c : Code) (k : Nat) (W : World), w.heap.size ≤ D → k ≤ xs.length → Ix c (xs.take k) W → W.heap[D]? = some (.deferred (some [])) → c.wpIn Fence.wide 3 Try.prog Q { a with defers := { target := .collected D, args := #[] } :: a.defers } W) :
    (Code.rangeFunc g #[t] assign body).wp Try.prog Q a w := by
  refine wp_range_told hg (enters_of Try.func63 (by kernel_rfl) rfl) (all_told p B F xs w0 w hbk hsm hxl h0w Bs hBs hc) h0w.size (fun _ => rfl) allR_put (fun (pre : List (ItemD × Value)) W => I (pre.map (·.1)) W ∧ w.heap.size ≤ W.heap.size) (fun c (pre : List (ItemD × Value)) => Ix c (pre.map (·.1)))
    (fun (s : List (ItemD × Value)) A B row hs hg hr => ⟨hI (s.map Prod.fst) A B row hs.1 hg hr, Nat.le_trans hs.2 hg.size⟩) (fun c s A B row hs hg hr => hIx c _ A B row hs hg hr) ⟨h0, Nat.le_refl _⟩
    (fun x a' W => ∃ Bx A n cp, x.2 = .slice A n cp ∧ W.heap[Bx]? = some (.cells (itemCells x) 37) ∧ w.heap.size ≤ Bx ∧ w.heap.size ≤ W.heap.size ∧ a' = { tmps := (a.tmps.setIfInBounds t (.agg (itemCells x))).setIfInBounds tb (.pointer (some ⟨Bx, 0, none⟩)), defers := [] }) ?_ ?_ ?_ ?_ ?_
  · rintro x a' W l o o' hl ho ⟨Bx, A, n, cp, h1, h2, h3, h4, h5⟩
    refine ⟨Bx, A, n, cp, h1, ?_, h3, by simpa using h4, h5⟩
    refine (World.putObj_heap_other (fun e => ?_)).trans h2
    subst e
    rw [hl] at h2
    cases h2
    cases ho
  · rintro l pre x b W K ⟨hi, hs⟩ ⟨h1, h2, h3⟩ hK
    obtain ⟨x, v⟩ := x
    obtain ⟨A, n, cp, rfl⟩ := h3.isSlice
    have e : (#[t].zip (allEnc (x, Value.slice A n cp))).foldl (fun t (p, v) => t.setIfInBounds p v) a.tmps = a.tmps.setIfInBounds t (.agg (itemCells (x, .slice A n cp))) := by simp [allEnc, itemCells]
    rw [e]
    refine hassign l x A n cp W K (hK _ _ ((KeepsOthers.alloc _ _).from _) ⟨by simp, fun k o hk _ => (Below.heap_alloc W _ k (Array.getElem?_eq_some_iff.1 hk).1).trans hk⟩ ((Below.refl _ W).alloc (Nat.le_trans h0w.size hs) _) ⟨hI.alloc _ hi, by simp; omega⟩ ⟨h1, h2, h3.below ((Below.refl _ W).alloc (Nat.le_refl _) _)⟩
      ⟨W.heap.size, A, n, cp, rfl, World.alloc_heap_new W _, hs, by simp; omega, rfl⟩)
  · rintro l pre x a' W0 W ⟨hi, hs⟩ hck ⟨hi2, -⟩ ⟨h1, h2, h3⟩ ⟨Bx, A, n, cp, h4, h5, h6, h7, rfl⟩
    obtain ⟨x, v⟩ := x
    simp only at h1 h3 h4
    subst h4
    have hL : (pre ++ [(x, Value.slice A n cp)]).map (·.1) = xs.take (pre.length + 1) := by rw [List.map_append, h2, take_snoc? h1]; rfl
    refine wpIn_mono (hbody l pre.length x A n cp Bx W0 W h1 (by rw [← h2]; exact hi) hck (by rw [← h2]; exact hi2) h3 h5 h6) ?_
    rintro e a3 W3 hp
    cases e with
    | normal => exact ⟨hp.1, hp.2.1, by have := hp.2.2; rw [← hL] at this; exact this, Nat.le_trans h7 hp.1.size⟩
    | ret => exact ⟨hp.1, by have := hp.2; rw [← hL] at this; exact this⟩
    | exit id => exact ⟨hp.1, by have := hp.2; rw [← hL] at this; exact this⟩
    | goto c => exact ⟨hp.1, by have := hp.2; rw [← hL] at this; exact this⟩
    | panic ch => exact hp.elim
    | outgrown => exact hp.elim
  · rintro D ys W hD hS ⟨hi, -⟩ hK
    rw [hS] at hi
    exact hdone D W hD hi hK
  · rintro D c pre W hD ⟨h1, h2⟩ hi hK
    rw [h1] at hi
    exact hstop D c _ W hD h2 hi hK
end Go.Proofs.Ytlanephpmoajiaa
