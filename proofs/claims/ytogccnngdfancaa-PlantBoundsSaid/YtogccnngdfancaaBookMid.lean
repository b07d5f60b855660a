/- A book while an item is entered: its map is ahead of its items. -/
import Derived.Test.YtogccnngdfancaaBook
import Derived.Test.YtogccnngdfancaaAppend
namespace Go.Proofs.Ytogccnngdfancaa
open Go.RowKit

theorem Own2.rd2 {w : World} {B : Nat} {vf : Value} {xss : List (List ByteArray)} (h : Own2 w B vf xss) : Rd2 w (B ≤ ·) vf xss := by
  obtain ⟨vs, ho, hi⟩ := h
  refine ⟨vs, ?_, by have := ho.1; simpa using this, fun i x hx => ?_⟩
  · exact Rd.of_own (n := xss.length) (by rw [List.map_id]; exact ho)
  · obtain ⟨u, hu, hou, _⟩ := hi i x hx
    exact ⟨u, hu, Rd.of_own hou⟩

structure BkMid (w : World) (B bb : Nat) (vi : Value) (mb : Nat) (fs : List Value) (F : Nat → Prop) (xs ys : List ItemD) : Prop where
  hB : B ≤ bb
  blk : w.heap[bb]? = some (.cells #[vi, .map (some mb)] 79 (0, 0))
  own : w.ownsRow B 57 4 vi xs.length (cellsOf xs fs)
  len : fs.length = xs.length
  ne : vi.ownBlock ≠ some bb
  map : MapIs w mb ys
  hm : B ≤ mb
  hF : F = fun k => k = bb ∨ vi.ownBlock = some k ∨ some mb = some k
  frm : ∀ (i : Nat) (x : ItemD), xs[i]? = some x → ∃ f : Value, fs[i]? = some f ∧ Rd2 w (fun k => B ≤ k ∧ ¬ F k) f x.frm

section
variable {w w' : World} {B bb mb : Nat} {vi : Value} {r : Option Nat} {fs : List Value} {F : Nat → Prop} {xs ys : List ItemD}
theorem own_block_cells {e : TypeId} {size n : Nat} {cs : List Value} (h : w.ownsRow B e size vi n cs) {b : Nat} (hb : vi.ownBlock = some b) : ∃ c, w.heap[b]? = some (.cells c e (0, 0)) := by
  rcases h.2 with ⟨rfl, _⟩ | ⟨g, cap, cur, rfl, _, hg, _⟩
  · simp [Value.ownBlock] at hb
  · simp [Value.ownBlock] at hb; subst hb; exact ⟨cur, hg⟩
theorem BkAt.mid (h : BkAt w B bb vi (some mb) fs F xs) : BkMid w B bb vi mb fs F xs xs where
  hB := h.hB
  blk := h.blk
  own := h.own
  len := h.len
  ne := h.ne
  map := by
    rcases h.map with ⟨e, _⟩ | ⟨b, e, hm⟩
    · cases e
    · cases e; exact hm
  hm := h.hr mb rfl
  hF := h.hF
  frm := h.frm
theorem BkMid.below (h : BkMid w B bb vi mb fs F xs ys) (hb : Below w.heap.size w w') : BkMid w' B bb vi mb fs F xs ys where
  hB := h.hB
  blk := (hb.block bb (Array.getElem?_eq_some_iff.1 h.blk).1).trans h.blk
  own := h.own.kept (row := none) ⟨hb.os, hb.tape, hb.output, hb.size, fun k hk _ => hb.block k hk⟩ (Classical.em _)
  len := h.len
  ne := h.ne
  map := h.map.same (hb.block mb h.map.lt)
  hm := h.hm
  hF := h.hF
  frm := fun i x hx => let ⟨f, hf, hr⟩ := h.frm i x hx; ⟨f, hf, hr.below hb⟩
theorem BkAt.made (h : BkAt w B bb vi none fs F xs) (hB : B ≤ w.heap.size) :
    BkMid ((w.alloc (.map #[] 0)).setCell ⟨bb, 1, none⟩ (.map (some w.heap.size))) B bb vi w.heap.size fs (fun k => k = bb ∨ vi.ownBlock = some k ∨ some w.heap.size = some k) xs xs ∧
    Keep (fun k => k < w.heap.size ∧ k ≠ bb) w ((w.alloc (.map #[] 0)).setCell ⟨bb, 1, none⟩ (.map (some w.heap.size))) := by
  have hbb := (Array.getElem?_eq_some_iff.1 h.blk).1
  have k1 : Keep (fun k => k < w.heap.size ∧ k ≠ bb) w ((w.alloc (.map #[] 0)).setCell ⟨bb, 1, none⟩ (.map (some w.heap.size))) := (((Keep.refl _ w).alloc (fun k hk => hk.1) _).setCell (fun hk => hk.2 rfl) _)
  have hxs : xs = [] := by
    rcases h.map with ⟨_, e⟩ | ⟨b, e, _⟩
    · exact e
    · cases e
  refine ⟨⟨h.hB, ?_, ?_, h.len, h.ne, ?_, hB, rfl, fun i x hx => ?_⟩, k1⟩
  · exact heap_setCell_same (w.alloc (.map #[] 0)) bb 1 #[vi, .map none] 79 (.map (some w.heap.size)) (by rw [Below.heap_alloc _ _ _ hbb]; exact h.blk)
  · exact ownsRow_setCell_other (h.own.alloc _) h.ne _
  · rw [hxs]
    refine (MapIs.made w).same ?_
    exact Below.heap_setCell _ _ _ _ (by show w.heap.size ≠ bb; omega)
  · rw [hxs] at hx; simp at hx
theorem BkMid.ne_mb (h : BkMid w B bb vi mb fs F xs ys) : mb ≠ bb ∧ vi.ownBlock ≠ some mb := by
  obtain ⟨es, c, hm⟩ := h.map.isMap
  refine ⟨fun e => ?_, fun e => ?_⟩
  · rw [e, h.blk] at hm; cases hm
  · obtain ⟨c', hc⟩ := own_block_cells h.own e
    rw [hc] at hm; cases hm
theorem BkMid.put (h : BkMid w B bb vi mb fs F xs xs) {x : ItemD} (hx : idx xs x.name = none) (hnm : x.name.size ≤ maxLen) (hl : xs.length ≤ 2000) :
    ∃ w', (Instr.mapUpdate 77 (.map (some mb)) (.string x.name) (.int .i64 xs.length)).run Try.prog w = .ok () w' ∧ BkMid w' B bb vi mb fs F xs (xs ++ [x]) ∧ w.grownBy w' (some mb) := by
  obtain ⟨n1, n2⟩ := h.ne_mb
  obtain ⟨w', hr, hm, hg⟩ := h.map.update hx hnm hl
  refine ⟨w', hr, ⟨h.hB, ?_, h.own.kept hg (.inr n2), h.len, h.ne, hm, h.hm, h.hF, fun i y hy => ?_⟩, hg⟩
  · exact (hg.block bb (Array.getElem?_eq_some_iff.1 h.blk).1 (fun e => n1 (Option.some.inj e).symm)).trans h.blk
  · obtain ⟨f, hf, hr⟩ := h.frm i y hy
    refine ⟨f, hf, (hr.lt.keep ⟨hg.os, hg.tape, hg.output, hg.size, fun k hk => hg.block k hk.2 (fun e => ?_)⟩).mono fun k hk => hk.1⟩
    have := hk.1.2
    rw [h.hF] at this
    exact this (.inr (.inr e.symm))
theorem BkMid.cell0 (h : BkMid w B bb vi mb fs F xs ys) : w.cell? ⟨bb, 0, none⟩ = some vi := cell_of_row w bb 0 _ _ _ h.blk
theorem BkMid.cell1 (h : BkMid w B bb vi mb fs F xs ys) : w.cell? ⟨bb, 1, none⟩ = some (.map (some mb)) := cell_of_row w bb 1 _ _ _ h.blk
theorem BkMid.finish (h : BkMid w B bb vi mb fs F xs ys) {x : ItemD} (hys : ys = xs ++ [x]) {w3 w4 : World} {o : Obj} {v' vf' : Value} (hb3 : Below w.heap.size w w3)
    (hown : w4.ownsRow B 57 4 v' (xs.length + 1) (cellsOf xs fs ++ [.string x.name, .int .i64 x.kind, .int .i64 x.at_, vf'])) (hg : (w3.alloc o).grownBy w4 vi.ownBlock)
    (hfr : ∀ b, v'.ownBlock = some b → vi.ownBlock = some b ∨ (w3.alloc o).heap.size ≤ b) (ho2 : Own2 w3 w.heap.size vf' x.frm) (hB : B ≤ w.heap.size) :
    BkAt (w4.setCell ⟨bb, 0, none⟩ v') B bb v' (some mb) (fs ++ [vf']) (fun k => k = bb ∨ v'.ownBlock = some k ∨ some mb = some k) (xs ++ [x]) ∧
    Keep (fun k => k < w.heap.size ∧ ¬ F k) w (w4.setCell ⟨bb, 0, none⟩ v') := by
  obtain ⟨n1, n2⟩ := h.ne_mb
  have hbb := (Array.getElem?_eq_some_iff.1 h.blk).1
  have hmb := h.map.lt
  have hvi : ∀ b, vi.ownBlock = some b → b < w.heap.size := fun b hb => (h.own.lt b hb).2
  have s3 : w.heap.size ≤ w3.heap.size := hb3.size
  have sA : (w3.alloc o).heap.size = w3.heap.size + 1 := by simp
  have k4 : Keep (fun k => k < w3.heap.size ∧ vi.ownBlock ≠ some k) w3 w4 :=
    ⟨hg.os, hg.tape, hg.output, by have := hg.size; omega, fun k hk => (hg.block k (by omega) (fun e => hk.2 e.symm)).trans (Below.heap_alloc _ _ _ hk.1)⟩
  have kw : Keep (fun k => k < w.heap.size ∧ vi.ownBlock ≠ some k) w w4 := ((Keep.of_below hb3).mono fun k hk => hk.1).trans (k4.mono fun k hk => ⟨by omega, hk.2⟩)
  have ks : Keep (fun k => k < w.heap.size ∧ vi.ownBlock ≠ some k ∧ k ≠ bb) w (w4.setCell ⟨bb, 0, none⟩ v') := (kw.mono fun k hk => ⟨hk.1, hk.2.1⟩).setCell (fun hk => hk.2.2 rfl) _
  have hne' : v'.ownBlock ≠ some bb := fun e => by
    rcases hfr bb e with h1 | h1
    · exact h.ne h1
    · omega
  refine ⟨⟨h.hB, ?_, ?_, by simp [h.len], hne', .inr ⟨mb, rfl, ?_⟩, fun b hb => by cases hb; exact h.hm, rfl, fun i y hy => ?_⟩, ks.mono fun k hk => ?_⟩
  · exact heap_setCell_same w4 bb 0 _ 79 _ ((kw.block bb ⟨hbb, fun e => h.ne e⟩).trans h.blk)
  · rw [cellsOf_app _ _ _ _ h.len, List.length_append]
    exact ownsRow_setCell_other hown hne' _
  · rw [← hys]; exact h.map.same (ks.block mb ⟨hmb, fun e => n2 e, n1⟩)
  · rcases Nat.lt_or_ge i xs.length with hi | hi
    · rw [List.getElem?_append_left hi] at hy
      obtain ⟨f, hf, hr⟩ := h.frm i y hy
      refine ⟨f, by rw [List.getElem?_append_left (by rw [h.len]; exact hi)]; exact hf, (hr.lt.keep (ks.mono fun k hk => ?_)).mono fun k hk => ?_⟩
      · have hF := h.hF
        have h1 := hk.1.2
        rw [hF] at h1
        exact ⟨hk.2, fun e => h1 (.inr (.inl e)), fun e => h1 (.inl e)⟩
      · refine ⟨hk.1.1, fun h2 => hk.1.2 ?_⟩
        rw [h.hF]
        rcases h2 with h2 | h2 | h2
        · exact .inl h2
        · rcases hfr k h2 with h3 | h3
          · exact .inr (.inl h3)
          · have := hk.2; omega
        · exact .inr (.inr h2)
    · have hi' : i = xs.length := by have := (List.getElem?_eq_some_iff.1 hy).1; simp at this; omega
      subst hi'
      rw [List.getElem?_append_right (Nat.le_refl _)] at hy
      simp at hy
      subst hy
      refine ⟨vf', by rw [List.getElem?_append_right (by rw [h.len]; exact Nat.le_refl _)]; simp [h.len], ?_⟩
      refine (ho2.rd2.lt.keep ((k4.mono (S' := fun k => w.heap.size ≤ k ∧ k < w3.heap.size) fun k hk => ⟨hk.2, fun e => by have := hvi k e; omega⟩).setCell (fun hk => by have := hk.1; show False; simp at this; omega) v')).mono fun k hk => ?_
      refine ⟨by omega, fun h2 => ?_⟩
      rcases h2 with h2 | h2 | h2
      · omega
      · rcases hfr k h2 with h3 | h3
        · have := hvi k h3; omega
        · omega
      · cases h2; omega
  · have h1 := hk.2
    rw [h.hF] at h1
    exact ⟨hk.1, fun e => h1 (.inr (.inl e)), fun e => h1 (.inl e)⟩
end
end Go.Proofs.Ytogccnngdfancaa
