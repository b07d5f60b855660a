/- A book in memory: its items, its map, and what of memory it takes. -/
import Derived.Test.YtogccnngdfancaaMap
import Derived.Test.YtogccnngdfancaaClone
import Derived.Test.YtogccnngdfancaaNames
import Derived.Test.YtogccnngdfancaaContains
namespace Go.Proofs.Ytogccnngdfancaa
open Go.RowKit

/-- The cells of items, one row of four each; fs are the values of their lists. -/
def cellsOf : List ItemD → List Value → List Value
  | x :: xs, f :: fs => .string x.name :: .int .i64 x.kind :: .int .i64 x.at_ :: f :: cellsOf xs fs
  | _, _ => []
theorem cellsOf_at : ∀ (xs : List ItemD) (fs : List Value) (i : Nat) (x : ItemD) (f : Value), xs[i]? = some x → fs[i]? = some f →
    (cellsOf xs fs)[i * 4]? = some (.string x.name) ∧ (cellsOf xs fs)[i * 4 + 1]? = some (.int .i64 x.kind) ∧ (cellsOf xs fs)[i * 4 + 2]? = some (.int .i64 x.at_) ∧ (cellsOf xs fs)[i * 4 + 3]? = some f
  | [], _, _, _, _, h, _ => by simp at h
  | _ :: _, [], _, _, _, _, h => by simp at h
  | y :: xs, g :: fs, 0, x, f, h1, h2 => by
    simp only [List.getElem?_cons_zero, Option.some.injEq] at h1 h2
    subst h1 h2
    exact ⟨rfl, rfl, rfl, rfl⟩
  | y :: xs, g :: fs, i + 1, x, f, h1, h2 => by
    simp only [List.getElem?_cons_succ] at h1 h2
    obtain ⟨a, b, c, d⟩ := cellsOf_at xs fs i x f h1 h2
    rw [show (i + 1) * 4 = i * 4 + 1 + 1 + 1 + 1 from by omega]
    refine ⟨?_, ?_, ?_, ?_⟩ <;> simp only [cellsOf, List.getElem?_cons_succ, Nat.add_assoc] <;> first | exact a | exact b | exact c | exact d
theorem cellsOf_len : ∀ (xs : List ItemD) (fs : List Value), fs.length = xs.length → (cellsOf xs fs).length = xs.length * 4
  | [], [], _ => rfl
  | [], _ :: _, h => by simp at h
  | _ :: _, [], h => by simp at h
  | x :: xs, f :: fs, h => by simp only [cellsOf, List.length_cons]; rw [cellsOf_len xs fs (by simpa using h)]; omega
theorem cellsOf_app : ∀ (xs : List ItemD) (fs : List Value) (ys : List ItemD) (gs : List Value), fs.length = xs.length → cellsOf (xs ++ ys) (fs ++ gs) = cellsOf xs fs ++ cellsOf ys gs
  | [], [], _, _, _ => rfl
  | [], _ :: _, _, _, h => by simp at h
  | _ :: _, [], _, _, h => by simp at h
  | x :: xs, f :: fs, ys, gs, h => by simp only [cellsOf, List.cons_append]; rw [cellsOf_app xs fs ys gs (by simpa using h)]

/-- The book at bb: its slice of items, its map, its lists. -/
structure BkAt (w : World) (B bb : Nat) (vi : Value) (r : Option Nat) (fs : List Value) (F : Nat → Prop) (xs : List ItemD) : Prop where
  hB : B ≤ bb
  blk : w.heap[bb]? = some (.cells #[vi, .map r] 79 (0, 0))
  own : w.ownsRow B 57 4 vi xs.length (cellsOf xs fs)
  len : fs.length = xs.length
  ne : vi.ownBlock ≠ some bb
  map : MapV w r xs
  hr : ∀ b, r = some b → B ≤ b
  hF : F = fun k => k = bb ∨ vi.ownBlock = some k ∨ r = some k
  frm : ∀ (i : Nat) (x : ItemD), xs[i]? = some x → ∃ f : Value, fs[i]? = some f ∧ Rd2 w (fun k => B ≤ k ∧ ¬ F k) f x.frm
/-- p points to a book that holds the items xs, in blocks from B on; it may write the blocks of F. -/
def Bk (w : World) (B : Nat) (p : Value) (F : Nat → Prop) (xs : List ItemD) : Prop :=
  ∃ bb vi r fs, p = .pointer (some ⟨bb, 0, none⟩) ∧ BkAt w B bb vi r fs F xs

theorem BkAt.keep {w w' : World} {B bb : Nat} {vi : Value} {r : Option Nat} {fs : List Value} {F : Nat → Prop} {xs : List ItemD} (h : BkAt w B bb vi r fs F xs) (hk : Keep (fun k => B ≤ k ∧ k < w.heap.size) w w') : BkAt w' B bb vi r fs F xs where
  hB := h.hB
  blk := (hk.block bb ⟨h.hB, (Array.getElem?_eq_some_iff.1 h.blk).1⟩).trans h.blk
  own := by
    refine ⟨h.own.1, h.own.2.imp id ?_⟩
    rintro ⟨g, cap, cur, e1, e2, e3, e4⟩
    exact ⟨g, cap, cur, e1, e2, (hk.block g ⟨e2, (Array.getElem?_eq_some_iff.1 e3).1⟩).trans e3, e4⟩
  len := h.len
  ne := h.ne
  map := h.map.imp id (fun ⟨b, e, hm⟩ => ⟨b, e, hm.same (hk.block b ⟨h.hr b e, hm.lt⟩)⟩)
  hr := h.hr
  hF := h.hF
  frm := fun i x hx => by
    obtain ⟨f, hf, hr⟩ := h.frm i x hx
    exact ⟨f, hf, ((hr.lt.keep (hk.mono fun k hk => ⟨hk.1.1, hk.2⟩)).mono fun k hk => hk.1)⟩
theorem BkAt.below {w w' : World} {B bb : Nat} {vi : Value} {r : Option Nat} {fs : List Value} {F : Nat → Prop} {xs : List ItemD} (h : BkAt w B bb vi r fs F xs) (hk : Below w.heap.size w w') : BkAt w' B bb vi r fs F xs :=
  h.keep ((Keep.of_below hk).mono fun _ h => h.2)
theorem Bk.keep {w w' : World} {B : Nat} {p : Value} {F : Nat → Prop} {xs : List ItemD} (h : Bk w B p F xs) (hk : Keep (fun k => B ≤ k ∧ k < w.heap.size) w w') : Bk w' B p F xs :=
  let ⟨bb, vi, r, fs, e, h⟩ := h; ⟨bb, vi, r, fs, e, h.keep hk⟩
theorem Bk.below {w w' : World} {B : Nat} {p : Value} {F : Nat → Prop} {xs : List ItemD} (h : Bk w B p F xs) (hk : Below w.heap.size w w') : Bk w' B p F xs :=
  let ⟨bb, vi, r, fs, e, h⟩ := h; ⟨bb, vi, r, fs, e, h.below hk⟩
theorem BkAt.cell0 {w : World} {B bb : Nat} {vi : Value} {r : Option Nat} {fs : List Value} {F : Nat → Prop} {xs : List ItemD} (h : BkAt w B bb vi r fs F xs) : w.cell? ⟨bb, 0, none⟩ = some vi := cell_of_row w bb 0 _ _ _ h.blk
theorem BkAt.cell1 {w : World} {B bb : Nat} {vi : Value} {r : Option Nat} {fs : List Value} {F : Nat → Prop} {xs : List ItemD} (h : BkAt w B bb vi r fs F xs) : w.cell? ⟨bb, 1, none⟩ = some (.map r) := cell_of_row w bb 1 _ _ _ h.blk
/-- Item i in memory. -/
theorem BkAt.item {w : World} {B bb : Nat} {vi : Value} {r : Option Nat} {fs : List Value} {F : Nat → Prop} {xs : List ItemD} (h : BkAt w B bb vi r fs F xs) {i : Nat} {x : ItemD} (hx : xs[i]? = some x) :
    ∃ g cap f, vi = .slice (some ⟨g, 0, none⟩) xs.length cap ∧ xs.length ≤ cap ∧ B ≤ g ∧ g < w.heap.size ∧ w.cell? ⟨g, i * 4, none⟩ = some (.string x.name) ∧ w.cell? ⟨g, i * 4 + 1, none⟩ = some (.int .i64 x.kind) ∧ w.cell? ⟨g, i * 4 + 2, none⟩ = some (.int .i64 x.at_) ∧
      w.cell? ⟨g, i * 4 + 3, none⟩ = some f ∧ Rd2 w (fun k => B ≤ k ∧ ¬ F k) f x.frm := by
  have hi := (List.getElem?_eq_some_iff.1 hx).1
  obtain ⟨f, hf, hr⟩ := h.frm i x hx
  obtain ⟨c0, c1, c2, c3⟩ := cellsOf_at xs fs i x f hx hf
  have ho := h.own
  rcases ho.2 with ⟨_, h0⟩ | ⟨g, cap, cur, e1, e2, e3, e4, e5, e6⟩
  · omega
  · subst e1
    refine ⟨g, cap, f, rfl, e4, e2, (Array.getElem?_eq_some_iff.1 e3).1, ?_, ?_, ?_, ?_, hr⟩
    · rw [ho.cellAt _ (by omega), c0]
    · rw [ho.cellAt _ (by omega), c1]
    · rw [ho.cellAt _ (by omega), c2]
    · rw [ho.cellAt _ (by omega), c3]

/-- The first number of a list that is not 0; 0 if all are. -/
def firstNZ : List Int → Int
  | [] => 0
  | e :: l => if e = 0 then firstNZ l else e
theorem firstNZ_zero {l : List Int} (h : ∀ e ∈ l, e = 0) : firstNZ l = 0 := by
  induction l with
  | nil => rfl
  | cons e l ih => simp only [firstNZ, h e (List.mem_cons_self ..), if_true]; exact ih fun x hx => h x (List.mem_cons_of_mem _ hx)
theorem firstNZ_hit : ∀ {l : List Int} {k : Nat} {e : Int}, l[k]? = some e → e ≠ 0 → (∀ j, j < k → ∀ x, l[j]? = some x → x = 0) → firstNZ l = e
  | [], _, _, h, _, _ => by simp at h
  | x :: l, 0, e, h, he, _ => by simp at h; subst h; simp [firstNZ, he]
  | x :: l, k + 1, e, h, he, hn => by
    have := hn 0 (by omega) x rfl
    subst this
    simp only [firstNZ, if_true]
    exact firstNZ_hit (k := k) (by simpa using h) he (fun j hj y hy => hn (j + 1) (by omega) y (by simpa using hy))
/-- The error of choice k of an input of x. -/
def chkAt (xs : List ItemD) (x : ItemD) (c : List ByteArray) (k : Nat) : Int :=
  match idx xs (c.getD k ⟨#[]⟩) with
  | none => 5
  | some i => if (xs.getD i x).kind = 3 then 1 else if x.at_ < (xs.getD i x).at_ then 7 else if hasN (c.take k) (c.getD k ⟨#[]⟩) then 8 else 0
def chkC (xs : List ItemD) (x : ItemD) (c : List ByteArray) : Int := firstNZ ((List.range c.length).map (chkAt xs x c))
def badC (c : List ByteArray) : Bool := decide (c.length < 1) || decide (8 < c.length)
/-- The error of an item for a book, but for its room. -/
def chk (xs : List ItemD) (x : ItemD) : Int :=
  if nameB x.name.data.toList = false ∨ x.kind < 0 ∨ 3 < x.kind ∨ x.at_ < 0 ∨ ¬ (x.kind = 0 ↔ x.frm.length = 0) then 1
  else if 8 < x.frm.length ∨ x.frm.any badC = true then 4
  else if (idx xs x.name).isSome then 8
  else firstNZ (x.frm.map (chkC xs x))
end Go.Proofs.Ytogccnngdfancaa
