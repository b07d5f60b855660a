/- The walks of slices.Index and slices.Contains on strings. A book in memory: its items, its map, and what of memory it takes. A book while an item is entered: its map is ahead of its items. The walks of Book.find, Book.fault and Fault.during. -/
import Derived.Test.YtogccnngdfancaaGreatPart04
import Derived.Lib.Strings
import Derived.Test.YtogccnngdfancaaGreatPart52
import Derived.Test.YtogccnngdfancaaGreatPart01
import Derived.Deep.QuietTactic
import Derived.BigQuiet
namespace Go.Proofs.YtogccnngdfancaaGreat
open Go.RowKit

theorem str_eq (a b : ByteArray) : (a.toList == b.toList) = decide (a = b) := by
  rw [Bool.eq_iff_iff, beq_iff_eq, decide_eq_true_iff, Lib.toList_data, Lib.toList_data]
  refine ⟨fun h => ?_, fun h => by rw [h]⟩
  cases a with | mk a => cases b with | mk b =>
    congr 1
    exact Array.toList_inj.1 h

set_option maxHeartbeats 400000 in
theorem index106_any (v : Value) (xs : List ByteArray) (S : Nat → Prop) (nm : ByteArray) (w : World) (hv : Rd .string w S v xs) :
    Calls Tryz.prog 104 #[v, .string nm] w fun e w' => e = .returned (.int .i64 (firstIdx (fun i => decide (nm = xs.getD i ⟨#[]⟩)) xs.length)) ∧ w = w' := by
  obtain ⟨A, n, cap, rfl, hn, hcap, hmax, hc⟩ := hv.lt.open_
  rw [hn]
  obtain ⟨p, hp⟩ : ∃ p, p = (fun i => decide (nm = xs.getD i ⟨#[]⟩)) := ⟨_, rfl⟩
  rw [← hp]
  have HP := Lib.hid hp
  have HN := Lib.hid hn
  clear hn hp
  go_enter Tryz.func104, Tryz.ntmps104
  go_wp2_with fail
  go_loop [8] (fun i => ∃ k : Nat, k ≤ n ∧ i = .int .i64 k ∧ Hid (∀ j, j < k → p j = false)) (fun i => n - (intOf i).toNat)
  case atStart => exact ⟨0, by omega, rfl, fun j hj => absurd hj (by omega)⟩
  case round =>
    obtain ⟨k, hk, rfl, HK⟩ := hrel
    by_cases hlt : k < n
    · obtain ⟨b, off, u, rfl, _, hu, hcell⟩ := hc k hlt
      have hpk : p k = decide (nm = u) := by rw [HP.out]; simp [List.getD, hu]
      have heq := str_eq nm u
      clear hc hu
      cases hp : p k with
      | true =>
        have HR := Lib.hid (firstIdx_hit hlt hp HK.out)
        have he : (nm.toList == u.toList) = true := by rw [heq, ← hpk, hp]
        clear hp hpk heq
        go_wp2_with fail
        go_ret
        exact ⟨ret_int HR.out.symm, rfl⟩
      | false =>
        have HK1 : Hid (∀ j, j < k + 1 → p j = false) := fun j hj => by
          rcases Nat.lt_or_ge j k with h | h
          · exact HK.out j h
          · obtain rfl : j = k := by omega
            exact hp
        have he : (nm.toList == u.toList) = false := by rw [heq, ← hpk, hp]
        clear hp hpk heq
        go_wp2_with fail
        go_round
        case rel => exact ⟨k + 1, by omega, by go_num, HK1⟩
        case measure => simp [intOf]; omega
    · have HR := Lib.hid (firstIdx_miss (n := n) (fun j hj => HK.out j (by omega)))
      clear hc
      go_wp2_with fail
      go_ret
      exact ⟨ret_int HR.out.symm, rfl⟩

/-- A list has a name. -/
def hasN (xs : List ByteArray) (nm : ByteArray) : Bool := xs.any (fun x => decide (x = nm))
theorem anyIdx_hasN (xs : List ByteArray) (nm : ByteArray) : anyIdx (fun i => decide (nm = xs.getD i ⟨#[]⟩)) xs.length = hasN xs nm := by
  unfold anyIdx hasN
  rw [Bool.eq_iff_iff, List.any_eq_true, List.any_eq_true]
  constructor
  · rintro ⟨i, hi, h⟩
    have hi := List.mem_range.1 hi
    refine ⟨xs[i], List.getElem_mem hi, ?_⟩
    simpa [List.getD, List.getElem?_eq_getElem hi, eq_comm] using h
  · rintro ⟨x, hx, h⟩
    obtain ⟨i, hi, rfl⟩ := List.mem_iff_getElem.1 hx
    refine ⟨i, List.mem_range.2 hi, ?_⟩
    simpa [List.getD, List.getElem?_eq_getElem hi, eq_comm] using h

set_option maxHeartbeats 400000 in
theorem contains94_any (v : Value) (xs : List ByteArray) (S : Nat → Prop) (nm : ByteArray) (w : World) (hv : Rd .string w S v xs) :
    Calls Tryz.prog 75 #[v, .string nm] w fun e w' => e = .returned (.bool (hasN xs nm)) ∧ w = w' := by
  have HC := Lib.hid (index106_any v xs S nm w hv)
  have HA := Lib.hid (anyIdx_first (fun i => decide (nm = xs.getD i ⟨#[]⟩)) xs.length)
  rw [anyIdx_hasN] at HA
  obtain ⟨q, hq⟩ : ∃ q, q = firstIdx (fun i => decide (nm = xs.getD i ⟨#[]⟩)) xs.length := ⟨_, rfl⟩
  rw [← hq] at HC HA
  clear hv hq
  go_enter Tryz.func75, Tryz.ntmps75
  go_wp2_with (go_at_call 104; refine HC.out.mono ?_; rintro e w1 ⟨rfl, rfl⟩)
  go_ret
  exact ⟨ret_bool HA.out, rfl⟩
end Go.Proofs.YtogccnngdfancaaGreat
namespace Go.Proofs.YtogccnngdfancaaGreat
open Go.RowKit

/-- The cells of items, one row of four each; fs are the values of their lists. -/
def cellsOf : List ItemD → List Value → List Value
  | x :: xs, f :: fs => .string x.name :: .int .i64 x.kind :: .int .i64 x.at_ :: f :: cellsOf xs fs
  | _, _ => []
theorem cellsOf_at : ∀ (xs : List ItemD) (fs : List Value) (i : Nat) (x : ItemD) (f : Value), xs[i]? = some x → fs[i]? = some f →
    (cellsOf xs fs)[i * 4]? = some (.string x.name) ∧ (cellsOf xs fs)[i * 4 + 1]? = some (.int .i64 x.kind) ∧ (cellsOf xs fs)[i * 4 + 2]? = some (.int .i64 x.at_) ∧ (cellsOf xs fs)[i * 4 + 3]? = some f
  | [], _, _, _, _, h, _ => by simp at h
  | _ :: _, [], _, _, _, _, h => by simp at h
  | y :: xs, g :: fs, 0, x, f, h1, h2 => by
    simp only [List.getElem?_cons_zero, Option.some.injEq] at h1 h2
    subst h1 h2
    exact ⟨rfl, rfl, rfl, rfl⟩
  | y :: xs, g :: fs, i + 1, x, f, h1, h2 => by
    simp only [List.getElem?_cons_succ] at h1 h2
    obtain ⟨a, b, c, d⟩ := cellsOf_at xs fs i x f h1 h2
    rw [show (i + 1) * 4 = i * 4 + 1 + 1 + 1 + 1 from by omega]
    refine ⟨?_, ?_, ?_, ?_⟩ <;> simp only [cellsOf, List.getElem?_cons_succ, Nat.add_assoc] <;> first | exact a | exact b | exact c | exact d
theorem cellsOf_app : ∀ (xs : List ItemD) (fs : List Value) (ys : List ItemD) (gs : List Value), fs.length = xs.length → cellsOf (xs ++ ys) (fs ++ gs) = cellsOf xs fs ++ cellsOf ys gs
  | [], [], _, _, _ => rfl
  | [], _ :: _, _, _, h => by simp at h
  | _ :: _, [], _, _, h => by simp at h
  | x :: xs, f :: fs, ys, gs, h => by simp only [cellsOf, List.cons_append]; rw [cellsOf_app xs fs ys gs (by simpa using h)]

/-- The book at bb: its slice of items, its map, its lists. -/
structure BkAt (w : World) (B bb : Nat) (vi : Value) (r : Option Nat) (fs : List Value) (F : Nat → Prop) (xs : List ItemD) : Prop where
  hB : B ≤ bb
  blk : w.heap[bb]? = some (.cells #[vi, .map r] 104 (0, 0))
  own : w.ownsRow B 71 4 vi xs.length (cellsOf xs fs)
  len : fs.length = xs.length
  ne : vi.ownBlock ≠ some bb
  map : MapV w r xs
  hr : ∀ b, r = some b → B ≤ b
  hF : F = fun k => k = bb ∨ vi.ownBlock = some k ∨ r = some k
  frm : ∀ (i : Nat) (x : ItemD), xs[i]? = some x → ∃ f : Value, fs[i]? = some f ∧ Rd2 w (fun k => B ≤ k ∧ ¬ F k) f x.frm
/-- p points to a book that holds the items xs, in blocks from B on; it may write the blocks of F. -/
def Bk (w : World) (B : Nat) (p : Value) (F : Nat → Prop) (xs : List ItemD) : Prop :=
  ∃ bb vi r fs, p = .pointer (some ⟨bb, 0, none⟩) ∧ BkAt w B bb vi r fs F xs

theorem BkAt.keep {w w' : World} {B bb : Nat} {vi : Value} {r : Option Nat} {fs : List Value} {F : Nat → Prop} {xs : List ItemD} (h : BkAt w B bb vi r fs F xs) (hk : Keep (fun k => B ≤ k ∧ k < w.heap.size) w w') : BkAt w' B bb vi r fs F xs where
  hB := h.hB
  blk := (hk.block bb ⟨h.hB, (Array.getElem?_eq_some_iff.1 h.blk).1⟩).trans h.blk
  own := by
    refine ⟨h.own.1, h.own.2.imp id ?_⟩
    rintro ⟨g, cap, cur, e1, e2, e3, e4⟩
    exact ⟨g, cap, cur, e1, e2, (hk.block g ⟨e2, (Array.getElem?_eq_some_iff.1 e3).1⟩).trans e3, e4⟩
  len := h.len
  ne := h.ne
  map := h.map.imp id (fun ⟨b, e, hm⟩ => ⟨b, e, hm.same (hk.block b ⟨h.hr b e, hm.lt⟩)⟩)
  hr := h.hr
  hF := h.hF
  frm := fun i x hx => by
    obtain ⟨f, hf, hr⟩ := h.frm i x hx
    exact ⟨f, hf, ((hr.lt.keep (hk.mono fun k hk => ⟨hk.1.1, hk.2⟩)).mono fun k hk => hk.1)⟩
theorem BkAt.below {w w' : World} {B bb : Nat} {vi : Value} {r : Option Nat} {fs : List Value} {F : Nat → Prop} {xs : List ItemD} (h : BkAt w B bb vi r fs F xs) (hk : Below w.heap.size w w') : BkAt w' B bb vi r fs F xs :=
  h.keep ((Keep.of_below hk).mono fun _ h => h.2)
theorem Bk.below {w w' : World} {B : Nat} {p : Value} {F : Nat → Prop} {xs : List ItemD} (h : Bk w B p F xs) (hk : Below w.heap.size w w') : Bk w' B p F xs :=
  let ⟨bb, vi, r, fs, e, h⟩ := h; ⟨bb, vi, r, fs, e, h.below hk⟩
theorem BkAt.cell0 {w : World} {B bb : Nat} {vi : Value} {r : Option Nat} {fs : List Value} {F : Nat → Prop} {xs : List ItemD} (h : BkAt w B bb vi r fs F xs) : w.cell? ⟨bb, 0, none⟩ = some vi := cell_of_row w bb 0 _ _ _ h.blk
theorem BkAt.cell1 {w : World} {B bb : Nat} {vi : Value} {r : Option Nat} {fs : List Value} {F : Nat → Prop} {xs : List ItemD} (h : BkAt w B bb vi r fs F xs) : w.cell? ⟨bb, 1, none⟩ = some (.map r) := cell_of_row w bb 1 _ _ _ h.blk
/-- Item i in memory. -/
theorem BkAt.item {w : World} {B bb : Nat} {vi : Value} {r : Option Nat} {fs : List Value} {F : Nat → Prop} {xs : List ItemD} (h : BkAt w B bb vi r fs F xs) {i : Nat} {x : ItemD} (hx : xs[i]? = some x) :
    ∃ g cap f, vi = .slice (some ⟨g, 0, none⟩) xs.length cap ∧ xs.length ≤ cap ∧ B ≤ g ∧ g < w.heap.size ∧ w.cell? ⟨g, i * 4, none⟩ = some (.string x.name) ∧ w.cell? ⟨g, i * 4 + 1, none⟩ = some (.int .i64 x.kind) ∧ w.cell? ⟨g, i * 4 + 2, none⟩ = some (.int .i64 x.at_) ∧
      w.cell? ⟨g, i * 4 + 3, none⟩ = some f ∧ Rd2 w (fun k => B ≤ k ∧ ¬ F k) f x.frm := by
  have hi := (List.getElem?_eq_some_iff.1 hx).1
  obtain ⟨f, hf, hr⟩ := h.frm i x hx
  obtain ⟨c0, c1, c2, c3⟩ := cellsOf_at xs fs i x f hx hf
  have ho := h.own
  rcases ho.2 with ⟨_, h0⟩ | ⟨g, cap, cur, e1, e2, e3, e4, e5, e6⟩
  · omega
  · subst e1
    refine ⟨g, cap, f, rfl, e4, e2, (Array.getElem?_eq_some_iff.1 e3).1, ?_, ?_, ?_, ?_, hr⟩
    · rw [ho.cellAt _ (by omega), c0]
    · rw [ho.cellAt _ (by omega), c1]
    · rw [ho.cellAt _ (by omega), c2]
    · rw [ho.cellAt _ (by omega), c3]

/-- The first number of a list that is not 0; 0 if all are. -/
def firstNZ : List Int → Int
  | [] => 0
  | e :: l => if e = 0 then firstNZ l else e
theorem firstNZ_zero {l : List Int} (h : ∀ e ∈ l, e = 0) : firstNZ l = 0 := by
  induction l with
  | nil => rfl
  | cons e l ih => simp only [firstNZ, h e (List.mem_cons_self ..), if_true]; exact ih fun x hx => h x (List.mem_cons_of_mem _ hx)
theorem firstNZ_hit : ∀ {l : List Int} {k : Nat} {e : Int}, l[k]? = some e → e ≠ 0 → (∀ j, j < k → ∀ x, l[j]? = some x → x = 0) → firstNZ l = e
  | [], _, _, h, _, _ => by simp at h
  | x :: l, 0, e, h, he, _ => by simp at h; subst h; simp [firstNZ, he]
  | x :: l, k + 1, e, h, he, hn => by
    have := hn 0 (by omega) x rfl
    subst this
    simp only [firstNZ, if_true]
    exact firstNZ_hit (k := k) (by simpa using h) he (fun j hj y hy => hn (j + 1) (by omega) y (by simpa using hy))
/-- The error of choice k of an input of x. -/
def chkAt (xs : List ItemD) (x : ItemD) (c : List ByteArray) (k : Nat) : Int :=
  match idx xs (c.getD k ⟨#[]⟩) with
  | none => 5
  | some i => if (xs.getD i x).kind = 3 then 1 else if x.at_ < (xs.getD i x).at_ then 7 else if hasN (c.take k) (c.getD k ⟨#[]⟩) then 8 else 0
def chkC (xs : List ItemD) (x : ItemD) (c : List ByteArray) : Int := firstNZ ((List.range c.length).map (chkAt xs x c))
def badC (c : List ByteArray) : Bool := decide (c.length < 1) || decide (8 < c.length)
/-- The error of an item for a book, but for its room. -/
def chk (xs : List ItemD) (x : ItemD) : Int :=
  if nameB x.name.data.toList = false ∨ x.kind < 0 ∨ 3 < x.kind ∨ x.at_ < 0 ∨ ¬ (x.kind = 0 ↔ x.frm.length = 0) then 1
  else if 8 < x.frm.length ∨ x.frm.any badC = true then 4
  else if (idx xs x.name).isSome then 8
  else firstNZ (x.frm.map (chkC xs x))
end Go.Proofs.YtogccnngdfancaaGreat
namespace Go.Proofs.YtogccnngdfancaaGreat
open Go.RowKit

theorem Own2.rd2 {w : World} {B : Nat} {vf : Value} {xss : List (List ByteArray)} (h : Own2 w B vf xss) : Rd2 w (B ≤ ·) vf xss := by
  obtain ⟨vs, ho, hi⟩ := h
  refine ⟨vs, ?_, by have := ho.1; simpa using this, fun i x hx => ?_⟩
  · exact Rd.of_own (n := xss.length) (by rw [List.map_id]; exact ho)
  · obtain ⟨u, hu, hou, _⟩ := hi i x hx
    exact ⟨u, hu, Rd.of_own hou⟩

structure BkMid (w : World) (B bb : Nat) (vi : Value) (mb : Nat) (fs : List Value) (F : Nat → Prop) (xs ys : List ItemD) : Prop where
  hB : B ≤ bb
  blk : w.heap[bb]? = some (.cells #[vi, .map (some mb)] 104 (0, 0))
  own : w.ownsRow B 71 4 vi xs.length (cellsOf xs fs)
  len : fs.length = xs.length
  ne : vi.ownBlock ≠ some bb
  map : MapIs w mb ys
  hm : B ≤ mb
  hF : F = fun k => k = bb ∨ vi.ownBlock = some k ∨ some mb = some k
  frm : ∀ (i : Nat) (x : ItemD), xs[i]? = some x → ∃ f : Value, fs[i]? = some f ∧ Rd2 w (fun k => B ≤ k ∧ ¬ F k) f x.frm

section
variable {w w' : World} {B bb mb : Nat} {vi : Value} {r : Option Nat} {fs : List Value} {F : Nat → Prop} {xs ys : List ItemD}
theorem own_block_cells {e : TypeId} {size n : Nat} {cs : List Value} (h : w.ownsRow B e size vi n cs) {b : Nat} (hb : vi.ownBlock = some b) : ∃ c, w.heap[b]? = some (.cells c e (0, 0)) := by
  rcases h.2 with ⟨rfl, _⟩ | ⟨g, cap, cur, rfl, _, hg, _⟩
  · simp [Value.ownBlock] at hb
  · simp [Value.ownBlock] at hb; subst hb; exact ⟨cur, hg⟩
theorem BkAt.mid (h : BkAt w B bb vi (some mb) fs F xs) : BkMid w B bb vi mb fs F xs xs where
  hB := h.hB
  blk := h.blk
  own := h.own
  len := h.len
  ne := h.ne
  map := by
    rcases h.map with ⟨e, _⟩ | ⟨b, e, hm⟩
    · cases e
    · cases e; exact hm
  hm := h.hr mb rfl
  hF := h.hF
  frm := h.frm
theorem BkMid.below (h : BkMid w B bb vi mb fs F xs ys) (hb : Below w.heap.size w w') : BkMid w' B bb vi mb fs F xs ys where
  hB := h.hB
  blk := (hb.block bb (Array.getElem?_eq_some_iff.1 h.blk).1).trans h.blk
  own := h.own.kept (row := none) ⟨hb.os, hb.tape, hb.output, hb.size, fun k hk _ => hb.block k hk⟩ (Classical.em _)
  len := h.len
  ne := h.ne
  map := h.map.same (hb.block mb h.map.lt)
  hm := h.hm
  hF := h.hF
  frm := fun i x hx => let ⟨f, hf, hr⟩ := h.frm i x hx; ⟨f, hf, hr.below hb⟩
theorem BkAt.made (h : BkAt w B bb vi none fs F xs) (hB : B ≤ w.heap.size) :
    BkMid ((w.alloc (.map #[] 0)).setCell ⟨bb, 1, none⟩ (.map (some w.heap.size))) B bb vi w.heap.size fs (fun k => k = bb ∨ vi.ownBlock = some k ∨ some w.heap.size = some k) xs xs ∧
    Keep (fun k => k < w.heap.size ∧ k ≠ bb) w ((w.alloc (.map #[] 0)).setCell ⟨bb, 1, none⟩ (.map (some w.heap.size))) := by
  have hbb := (Array.getElem?_eq_some_iff.1 h.blk).1
  have k1 : Keep (fun k => k < w.heap.size ∧ k ≠ bb) w ((w.alloc (.map #[] 0)).setCell ⟨bb, 1, none⟩ (.map (some w.heap.size))) := (((Keep.refl _ w).alloc (fun k hk => hk.1) _).setCell (fun hk => hk.2 rfl) _)
  have hxs : xs = [] := by
    rcases h.map with ⟨_, e⟩ | ⟨b, e, _⟩
    · exact e
    · cases e
  refine ⟨⟨h.hB, ?_, ?_, h.len, h.ne, ?_, hB, rfl, fun i x hx => ?_⟩, k1⟩
  · exact heap_setCell_same (w.alloc (.map #[] 0)) bb 1 #[vi, .map none] 104 (.map (some w.heap.size)) (by rw [Below.heap_alloc _ _ _ hbb]; exact h.blk)
  · exact ownsRow_setCell_other (h.own.alloc _) h.ne _
  · rw [hxs]
    refine (MapIs.made w).same ?_
    exact Below.heap_setCell _ _ _ _ (by show w.heap.size ≠ bb; omega)
  · rw [hxs] at hx; simp at hx
theorem BkMid.ne_mb (h : BkMid w B bb vi mb fs F xs ys) : mb ≠ bb ∧ vi.ownBlock ≠ some mb := by
  obtain ⟨es, c, hm⟩ := h.map.isMap
  refine ⟨fun e => ?_, fun e => ?_⟩
  · rw [e, h.blk] at hm; cases hm
  · obtain ⟨c', hc⟩ := own_block_cells h.own e
    rw [hc] at hm; cases hm
theorem BkMid.put (h : BkMid w B bb vi mb fs F xs xs) {x : ItemD} (hx : idx xs x.name = none) (hnm : x.name.size ≤ maxLen) (hl : xs.length ≤ 2000) :
    ∃ w', (Instr.mapUpdate 102 (.map (some mb)) (.string x.name) (.int .i64 xs.length)).run Tryz.prog w = .ok () w' ∧ BkMid w' B bb vi mb fs F xs (xs ++ [x]) ∧ w.grownBy w' (some mb) := by
  obtain ⟨n1, n2⟩ := h.ne_mb
  obtain ⟨w', hr, hm, hg⟩ := h.map.update hx hnm hl
  refine ⟨w', hr, ⟨h.hB, ?_, h.own.kept hg (.inr n2), h.len, h.ne, hm, h.hm, h.hF, fun i y hy => ?_⟩, hg⟩
  · exact (hg.block bb (Array.getElem?_eq_some_iff.1 h.blk).1 (fun e => n1 (Option.some.inj e).symm)).trans h.blk
  · obtain ⟨f, hf, hr⟩ := h.frm i y hy
    refine ⟨f, hf, (hr.lt.keep ⟨hg.os, hg.tape, hg.output, hg.size, fun k hk => hg.block k hk.2 (fun e => ?_)⟩).mono fun k hk => hk.1⟩
    have := hk.1.2
    rw [h.hF] at this
    exact this (.inr (.inr e.symm))
theorem BkMid.cell0 (h : BkMid w B bb vi mb fs F xs ys) : w.cell? ⟨bb, 0, none⟩ = some vi := cell_of_row w bb 0 _ _ _ h.blk
theorem BkMid.cell1 (h : BkMid w B bb vi mb fs F xs ys) : w.cell? ⟨bb, 1, none⟩ = some (.map (some mb)) := cell_of_row w bb 1 _ _ _ h.blk
theorem BkMid.finish (h : BkMid w B bb vi mb fs F xs ys) {x : ItemD} (hys : ys = xs ++ [x]) {w3 w4 : World} {o : Obj} {v' vf' : Value} (hb3 : Below w.heap.size w w3)
    (hown : w4.ownsRow B 71 4 v' (xs.length + 1) (cellsOf xs fs ++ [.string x.name, .int .i64 x.kind, .int .i64 x.at_, vf'])) (hg : (w3.alloc o).grownBy w4 vi.ownBlock)
    (hfr : ∀ b, v'.ownBlock = some b → vi.ownBlock = some b ∨ (w3.alloc o).heap.size ≤ b) (ho2 : Own2 w3 w.heap.size vf' x.frm) (hB : B ≤ w.heap.size) :
    BkAt (w4.setCell ⟨bb, 0, none⟩ v') B bb v' (some mb) (fs ++ [vf']) (fun k => k = bb ∨ v'.ownBlock = some k ∨ some mb = some k) (xs ++ [x]) ∧
    Keep (fun k => k < w.heap.size ∧ ¬ F k) w (w4.setCell ⟨bb, 0, none⟩ v') := by
  obtain ⟨n1, n2⟩ := h.ne_mb
  have hbb := (Array.getElem?_eq_some_iff.1 h.blk).1
  have hmb := h.map.lt
  have hvi : ∀ b, vi.ownBlock = some b → b < w.heap.size := fun b hb => (h.own.lt b hb).2
  have s3 : w.heap.size ≤ w3.heap.size := hb3.size
  have sA : (w3.alloc o).heap.size = w3.heap.size + 1 := by simp
  have k4 : Keep (fun k => k < w3.heap.size ∧ vi.ownBlock ≠ some k) w3 w4 :=
    ⟨hg.os, hg.tape, hg.output, by have := hg.size; omega, fun k hk => (hg.block k (by omega) (fun e => hk.2 e.symm)).trans (Below.heap_alloc _ _ _ hk.1)⟩
  have kw : Keep (fun k => k < w.heap.size ∧ vi.ownBlock ≠ some k) w w4 := ((Keep.of_below hb3).mono fun k hk => hk.1).trans (k4.mono fun k hk => ⟨by omega, hk.2⟩)
  have ks : Keep (fun k => k < w.heap.size ∧ vi.ownBlock ≠ some k ∧ k ≠ bb) w (w4.setCell ⟨bb, 0, none⟩ v') := (kw.mono fun k hk => ⟨hk.1, hk.2.1⟩).setCell (fun hk => hk.2.2 rfl) _
  have hne' : v'.ownBlock ≠ some bb := fun e => by
    rcases hfr bb e with h1 | h1
    · exact h.ne h1
    · omega
  refine ⟨⟨h.hB, ?_, ?_, by simp [h.len], hne', .inr ⟨mb, rfl, ?_⟩, fun b hb => by cases hb; exact h.hm, rfl, fun i y hy => ?_⟩, ks.mono fun k hk => ?_⟩
  · exact heap_setCell_same w4 bb 0 _ 104 _ ((kw.block bb ⟨hbb, fun e => h.ne e⟩).trans h.blk)
  · rw [cellsOf_app _ _ _ _ h.len, List.length_append]
    exact ownsRow_setCell_other hown hne' _
  · rw [← hys]; exact h.map.same (ks.block mb ⟨hmb, fun e => n2 e, n1⟩)
  · rcases Nat.lt_or_ge i xs.length with hi | hi
    · rw [List.getElem?_append_left hi] at hy
      obtain ⟨f, hf, hr⟩ := h.frm i y hy
      refine ⟨f, by rw [List.getElem?_append_left (by rw [h.len]; exact hi)]; exact hf, (hr.lt.keep (ks.mono fun k hk => ?_)).mono fun k hk => ?_⟩
      · have hF := h.hF
        have h1 := hk.1.2
        rw [hF] at h1
        exact ⟨hk.2, fun e => h1 (.inr (.inl e)), fun e => h1 (.inl e)⟩
      · refine ⟨hk.1.1, fun h2 => hk.1.2 ?_⟩
        rw [h.hF]
        rcases h2 with h2 | h2 | h2
        · exact .inl h2
        · rcases hfr k h2 with h3 | h3
          · exact .inr (.inl h3)
          · have := hk.2; omega
        · exact .inr (.inr h2)
    · have hi' : i = xs.length := by have := (List.getElem?_eq_some_iff.1 hy).1; simp at this; omega
      subst hi'
      rw [List.getElem?_append_right (Nat.le_refl _)] at hy
      simp at hy
      subst hy
      refine ⟨vf', by rw [List.getElem?_append_right (by rw [h.len]; exact Nat.le_refl _)]; simp [h.len], ?_⟩
      refine (ho2.rd2.lt.keep ((k4.mono (S' := fun k => w.heap.size ≤ k ∧ k < w3.heap.size) fun k hk => ⟨hk.2, fun e => by have := hvi k e; omega⟩).setCell (fun hk => by have := hk.1; show False; simp at this; omega) v')).mono fun k hk => ?_
      refine ⟨by omega, fun h2 => ?_⟩
      rcases h2 with h2 | h2 | h2
      · omega
      · rcases hfr k h2 with h3 | h3
        · have := hvi k h3; omega
        · omega
      · cases h2; omega
  · have h1 := hk.2
    rw [h.hF] at h1
    exact ⟨hk.1, fun e => h1 (.inr (.inl e)), fun e => h1 (.inl e)⟩
end
end Go.Proofs.YtogccnngdfancaaGreat
namespace Go.Proofs.YtogccnngdfancaaGreat
open Go.RowKit

def findErr (xs : List ItemD) (nm : ByteArray) : Int := if (idx xs nm).isSome then 0 else 5

set_option maxRecDepth 100000 in
set_option maxHeartbeats 400000 in
theorem find_any (p : Value) (B : Nat) (F : Nat → Prop) (xs : List ItemD) (nm : ByteArray) (w : World) (hb : Bk w B p F xs) (hnm : nm.size ≤ maxLen) :
    Calls Tryz.prog 105 #[p, .string nm] w fun e w' => e = .returned (.tuple #[.int .i64 (idxI xs nm), .int .i64 (findErr xs nm)]) ∧ w = w' := by
  obtain ⟨bb, vi, r, fs, rfl, hbk⟩ := hb
  have e1 := hbk.cell1
  have hlk := MapV.look_ok hbk.map hnm
  have HF : Hid (findErr xs nm = if (idx xs nm).isSome then 0 else 5) := rfl
  have HI : Hid (idx xs nm = none → idxI xs nm = 0) := fun h => by simp [idxI, h]
  obtain ⟨b, hbv⟩ : ∃ b, b = (idx xs nm).isSome := ⟨_, rfl⟩
  obtain ⟨c, hc⟩ : ∃ c, c = idxI xs nm := ⟨_, rfl⟩
  rw [← hbv, ← hc] at hlk
  rw [← hbv] at HF
  have HB := Lib.hid hbv
  have HC := Lib.hid hc
  rw [← hc]
  clear hbk hc hbv
  cases b with
  | true =>
    go_enter Tryz.func105, Tryz.ntmps105
    go_wp2_with fail
    go_ret2
    exact ⟨by rw [HF.out]; rfl, rfl⟩
  | false =>
    go_enter Tryz.func105, Tryz.ntmps105
    go_wp2_with fail
    go_ret2
    have h0 : idx xs nm = none := by have := HB.out; cases h : idx xs nm with
      | none => rfl
      | some i => simp [h] at this
    exact ⟨by rw [HF.out, HC.out, HI.out h0]; rfl, rfl⟩

structure FaultD where
  item : ByteArray
  since : Int
  until_ : Int

def faultErr (xs : List ItemD) (f : FaultD) : Int :=
  match idx xs f.item with
  | none => 5
  | some i => match xs[i]? with
    | none => 5
    | some y => if y.kind = 3 then 1 else if f.until_ < f.since then 7 else 0
def faultI (xs : List ItemD) (f : FaultD) : Int := if faultErr xs f = 0 then idxI xs f.item else 0
set_option maxRecDepth 100000 in
set_option maxHeartbeats 1000000 in
theorem fault_any (p : Value) (B : Nat) (F : Nat → Prop) (xs : List ItemD) (f : FaultD) (w : World) (hb : Bk w B p F xs) (hnm : f.item.size ≤ maxLen) :
    Calls Tryz.prog 78 #[p, .agg #[.string f.item, .int .i64 f.since, .int .i64 f.until_]] w fun e w' => e = .returned (.tuple #[.int .i64 (faultI xs f), .int .i64 (faultErr xs f)]) ∧ Below w.heap.size w w' := by
  obtain ⟨nm, si, un⟩ := f
  simp only at hnm ⊢
  have hfd := fun w' (h : Below w.heap.size w w') => find_any p B F xs nm w' (hb.below h) hnm
  have HFD := Lib.hid hfd
  have HB := Lib.hid hb
  clear hfd
  obtain ⟨bb, vi, r, fs, rfl, hbk⟩ := hb
  have hw0 : Below w.heap.size w (w.alloc (.cells #[Value.string nm, .int .i64 si, .int .i64 un] 76)) := (Below.refl _ w).alloc (Nat.le_refl _) _
  cases hi : idx xs nm with
  | none =>
    have HE : Hid (faultErr xs ⟨nm, si, un⟩ = 5) := by unfold faultErr Hid; simp only [hi]
    have HI : Hid (faultI xs ⟨nm, si, un⟩ = 0) := by unfold faultI Hid; rw [HE.out, if_neg (by decide)]
    have hf : findErr xs nm = 5 := by simp [findErr, hi]
    rw [hf] at HFD
    clear hi hbk hf
    go_enter Tryz.func78, Tryz.ntmps78
    go_wp2_with fail
    refine (HFD.out _ hw0).mono ?_
    rintro e w' ⟨rfl, rfl⟩
    go_wp2_with fail
    go_ret2
    exact ⟨by rw [HE.out, HI.out]; rfl, hw0⟩
  | some i =>
    obtain ⟨y, hy, _⟩ := idx_get hi
    have hil := idx_lt hi
    have HE : Hid (faultErr xs ⟨nm, si, un⟩ = if y.kind = 3 then 1 else if un < si then 7 else 0) := by unfold faultErr Hid; simp only [hi, hy]
    have HI : Hid (faultI xs ⟨nm, si, un⟩ = if faultErr xs ⟨nm, si, un⟩ = 0 then (i : Int) else 0) := by unfold faultI Hid; simp [idxI, hi]
    have hf : findErr xs nm = 0 := by simp [findErr, hi]
    have hii : idxI xs nm = i := by simp [idxI, hi]
    rw [hf, hii] at HFD
    have hbk1 := hbk.below hw0
    obtain ⟨g, cp, fv, rfl, hgc, hg1, hg2, i0, i1, i2, i3, _⟩ := hbk1.item hy
    have e0 := hbk1.cell0
    obtain ⟨yn, yk, ya, yf⟩ := y
    simp only at HE i1 i2
    obtain ⟨len, hlen⟩ : ∃ len, len = xs.length := ⟨_, rfl⟩
    rw [← hlen] at hil hgc e0
    clear hi hy hlen hbk hbk1 hf hii i0 i2 i3
    by_cases hk : yk = 3
    · have hkb : (yk == 3) = true := by simpa using hk
      have HE1 := Lib.hid (HE.out.trans (if_pos hk))
      clear hk
      go_enter Tryz.func78, Tryz.ntmps78
      go_wp2_with fail
      refine (HFD.out _ hw0).mono ?_
      rintro e w' ⟨rfl, rfl⟩
      go_wp2_with fail
      go_ret2
      exact ⟨by rw [HI.out, HE1.out]; rfl, hw0⟩
    · have hkb : (yk == 3) = false := by simpa using hk
      have HE1 := Lib.hid (HE.out.trans (if_neg hk))
      clear hk
      by_cases hsu : un < si
      · have HE2 := Lib.hid (HE1.out.trans (if_pos hsu))
        go_enter Tryz.func78, Tryz.ntmps78
        go_wp2_with fail
        refine (HFD.out _ hw0).mono ?_
        rintro e w' ⟨rfl, rfl⟩
        go_wp2_with fail
        go_ret2
        exact ⟨by rw [HI.out, HE2.out]; rfl, hw0⟩
      · have HE2 := Lib.hid (HE1.out.trans (if_neg hsu))
        go_enter Tryz.func78, Tryz.ntmps78
        go_wp2_with fail
        refine (HFD.out _ hw0).mono ?_
        rintro e w' ⟨rfl, rfl⟩
        go_wp2_with fail
        go_ret2
        exact ⟨by rw [HI.out, HE2.out]; rfl, hw0⟩

def during (f : FaultD) (at_ : Int) : Bool := decide (f.since ≤ at_) && decide (at_ ≤ f.until_)
set_option maxRecDepth 100000 in
set_option maxHeartbeats 1000000 in
theorem during_any (f : FaultD) (nm : ByteArray) (kd a : Int) (vf : Value) (w : World) :
    Calls Tryz.prog 80 #[.agg #[.string f.item, .int .i64 f.since, .int .i64 f.until_], .agg #[.string nm, .int .i64 kd, .int .i64 a, vf]] w fun e w' => e = .returned (.bool (during f a)) ∧ Below w.heap.size w w' := by
  obtain ⟨it, si, un⟩ := f
  have HD : Hid (during ⟨it, si, un⟩ a = (decide (si ≤ a) && decide (a ≤ un))) := rfl
  have hb := ((Below.refl w.heap.size w).alloc (Nat.le_refl _) (.cells #[Value.string it, .int .i64 si, .int .i64 un] 76)).alloc (by simp) (.cells #[Value.string nm, .int .i64 kd, .int .i64 a, vf] 71)
  simp only
  by_cases h1 : si ≤ a
  · by_cases h2 : a ≤ un
    · go_enter Tryz.func80, Tryz.ntmps80
      go_wp2_with fail
      go_ret
      exact ⟨ret_bool (by rw [HD.out]; simp [h1, h2]), hb⟩
    · go_enter Tryz.func80, Tryz.ntmps80
      go_wp2_with fail
      go_ret
      exact ⟨ret_bool (by rw [HD.out]; simp [h1, h2]), hb⟩
  · go_enter Tryz.func80, Tryz.ntmps80
    go_wp2_with fail
    go_ret
    exact ⟨ret_bool (by rw [HD.out, decide_eq_false (by omega : ¬ si ≤ a)]; rfl), hb⟩
end Go.Proofs.YtogccnngdfancaaGreat
