/- The walks of Book.spread's closures. The walk of Book.spread. -/
import Derived.Test.YtogccnngdfancaaGreatPart44
import Derived.Test.YtogccnngdfancaaGreatPart04
import Derived.Shelf.Abstract
import Derived.Laws.EntriesVeiled
import Derived.Deep.RegionWith
import Derived.Deep.RegionLaw
namespace Go.Proofs.YtogccnngdfancaaGreat
open Go.RowKit Go.Shelf

/-- What the closures of spread have captured: the book, the marks, the index, the first test, the item. -/
structure SpEnv (W : World) (B bb : Nat) (vi : Value) (r : Option Nat) (fs : List Value) (F : Nat → Prop) (xs : List ItemD) (b1 b2 b3 b4 b5 g : Nat) (m : List Bool) (i : Nat) (fid : FuncId) (fst cpt : Array Value) (x : ItemD) (vf : Value) : Prop where
  c1 : W.cell? ⟨b1, 0, none⟩ = some (.pointer (some ⟨bb, 0, none⟩))
  c2 : W.cell? ⟨b2, 0, none⟩ = some (.slice (some ⟨g, 0, none⟩) m.length m.length)
  c3 : W.cell? ⟨b3, 0, none⟩ = some (.int .i64 i)
  c4 : W.cell? ⟨b4, 0, none⟩ = some (.func (.func fid) fst cpt)
  c5 : W.heap[b5]? = some (.cells #[.string x.name, .int .i64 x.kind, .int .i64 x.at_, vf] 71 (0, 0))
  cm : ∀ j v, m[j]? = some v → W.cell? ⟨g, j, none⟩ = some (.bool v)
  bk : BkAt W B bb vi r fs F xs
theorem SpEnv.below {W W' : World} {B bb : Nat} {vi : Value} {r : Option Nat} {fs : List Value} {F : Nat → Prop} {xs : List ItemD} {b1 b2 b3 b4 b5 g : Nat} {m : List Bool} {i : Nat} {fid : FuncId} {fst cpt : Array Value} {x : ItemD} {vf : Value}
    (h : SpEnv W B bb vi r fs F xs b1 b2 b3 b4 b5 g m i fid fst cpt x vf) (hb : Below W.heap.size W W') : SpEnv W' B bb vi r fs F xs b1 b2 b3 b4 b5 g m i fid fst cpt x vf := by
  have cl : ∀ {p : Addr} {v : Value}, W.cell? p = some v → W'.cell? p = some v := fun {p v} hp => (hb.cell (World.block_lt_of_cell? W p hp)).trans hp
  exact ⟨cl h.c1, cl h.c2, cl h.c3, cl h.c4, (hb.block _ (Array.getElem?_eq_some_iff.1 h.c5).1).trans h.c5, fun j v hj => cl (h.cm j v hj), h.bk.below hb⟩

/-- The test of spread for one choice. -/
def spHit (xs : List ItemD) (m : List Bool) (i : Nat) (qx : Bool) (nm : ByteArray) : Bool := match idx xs nm with | some c => m.getD c false || (decide (c = i) && qx) | none => false

set_option maxRecDepth 100000 in
set_option maxHeartbeats 1000000 in
theorem spread99_any {B bb : Nat} {vi : Value} {r : Option Nat} {fs : List Value} {F : Nat → Prop} {xs : List ItemD} {b1 b2 b3 b4 b5 g : Nat} {m : List Bool} {i : Nat} {fid : FuncId} {fst cpt : Array Value} {x : ItemD} {vf : Value} (W : World)
    (hE : SpEnv W B bb vi r fs F xs b1 b2 b3 b4 b5 g m i fid fst cpt x vf) (eg : ∀ args w, (callFunc fid args).run Tryz.prog w = .ok (.enter fid args) w) (qx : Bool)
    (hq : ∀ w', Below W.heap.size W w' → Calls Tryz.prog fid (fst ++ #[.agg #[.string x.name, .int .i64 x.kind, .int .i64 x.at_, vf]] ++ cpt) w' fun e w'' => e = .returned (.bool qx) ∧ Below w'.heap.size w' w'')
    (nm : ByteArray) (hnm : nm.size ≤ maxLen) (c : Nat) (hc : idx xs nm = some c) (hm : m.length = xs.length) :
    Calls Tryz.prog 108 #[.string nm, .pointer (some ⟨b1, 0, none⟩), .pointer (some ⟨b2, 0, none⟩), .pointer (some ⟨b3, 0, none⟩), .pointer (some ⟨b4, 0, none⟩), .pointer (some ⟨b5, 0, none⟩)] W
      fun e w' => e = .returned (.bool (spHit xs m i qx nm)) ∧ Below W.heap.size W w' := by
  have hcl := idx_lt hc
  have hlk := MapV.look hE.bk.map hnm
  rw [show idxI xs nm = c from by simp [idxI, hc]] at hlk
  have e1 := hE.bk.cell1
  have c1 := hE.c1; have c2 := hE.c2; have c3 := hE.c3; have c4 := hE.c4
  have c50 := cell_of_row W b5 0 _ _ _ hE.c5
  have c51 := cell_of_row W b5 1 _ _ _ hE.c5
  have c52 := cell_of_row W b5 2 _ _ _ hE.c5
  have c53 := cell_of_row W b5 3 _ _ _ hE.c5
  have hcm : m[c]? = some (m[c]'(by omega)) := List.getElem?_eq_getElem (by omega)
  have hmc := hE.cm c _ hcm
  have HS : Hid (spHit xs m i qx nm = (m[c]'(by omega) || (decide (c = i) && qx))) := by unfold spHit Hid; simp only [hc, List.getD, hcm, Option.getD_some]
  obtain ⟨mv, hmv⟩ : ∃ mv, mv = m[c]'(by omega) := ⟨_, rfl⟩
  rw [← hmv] at hmc HS
  obtain ⟨n, hn⟩ : ∃ n, n = m.length := ⟨_, rfl⟩
  rw [← hn] at c2
  have hcn : c < n := by omega
  have HQ := Lib.hid hq
  clear hE hcm hmv hn hm hcl hc hq
  obtain ⟨xn, xk, xa, xf⟩ := x
  simp only at *
  cases mv with
  | true =>
    go_enter Tryz.func108, Tryz.ntmps108
    go_wp2_with fail
    go_ret
    exact ⟨ret_bool (by rw [HS.out]; rfl), Below.refl _ _⟩
  | false =>
    by_cases hci : c = i
    · have hb : ((c : Int) == (i : Int)) = true := by rw [beq_iff_eq]; omega
      have HS1 : Hid (spHit xs m i qx nm = qx) := by have := HS.out; unfold Hid; rw [this, decide_eq_true hci]; simp
      subst hci
      go_enter Tryz.func108, Tryz.ntmps108
      go_wp2_with fail
      refine (HQ.out _ (Below.refl _ _)).mono ?_
      rintro e w' ⟨rfl, hb1⟩
      cases qx with
      | true =>
        go_wp2_with fail
        go_ret
        exact ⟨ret_bool (by rw [HS1.out]), hb1⟩
      | false =>
        go_wp2_with fail
        go_ret
        exact ⟨ret_bool (by rw [HS1.out]), hb1⟩
    · have hb : ((c : Int) == (i : Int)) = false := by
        have : (c : Int) ≠ i := by omega
        simpa using this
      have HS1 : Hid (spHit xs m i qx nm = false) := by have := HS.out; unfold Hid; rw [this, decide_eq_false hci]; rfl
      clear hci
      go_enter Tryz.func108, Tryz.ntmps108
      go_wp2_with fail
      go_ret
      exact ⟨ret_bool (by rw [HS1.out]), Below.refl _ _⟩

theorem enters99 : ∀ args w, (callFunc 108 args).run Tryz.prog w = .ok (.enter 108 args) w := enters_of Tryz.func108 (by kernel_rfl) rfl
theorem enters97 : ∀ args w, (callFunc 106 args).run Tryz.prog w = .ok (.enter 106 args) w := enters_of Tryz.func106 (by kernel_rfl) rfl
theorem Rd.vals {α : Type} {f : α → Value} {w : World} {S : Nat → Prop} {v : Value} {xs : List α} (h : Rd f w S v xs) : Rd id w S v (xs.map f) := by
  obtain ⟨A, cap, rfl, h1, h2, h3⟩ := h
  refine ⟨A, cap, by simp, by simpa using h1, h2, fun hn => ?_⟩
  obtain ⟨b, off, rfl, hb, hc⟩ := h3 (by simpa using hn)
  exact ⟨b, off, rfl, hb, fun i hi => by rw [hc i (by simpa using hi)]; simp⟩
theorem anyIdx_any {α : Type} (d : α) (p : α → Bool) (l : List α) : anyIdx (fun i => p (l.getD i d)) l.length = l.any p := by
  unfold anyIdx
  rw [Bool.eq_iff_iff, List.any_eq_true, List.any_eq_true]
  constructor
  · rintro ⟨i, hi, h⟩
    have hi := List.mem_range.1 hi
    refine ⟨l[i], List.getElem_mem hi, ?_⟩
    simpa [List.getD, List.getElem?_eq_getElem hi] using h
  · rintro ⟨x, hx, h⟩
    obtain ⟨i, hi, rfl⟩ := List.mem_iff_getElem.1 hx
    exact ⟨i, List.mem_range.2 hi, by simpa [List.getD, List.getElem?_eq_getElem hi] using h⟩

set_option maxRecDepth 100000 in
set_option maxHeartbeats 1000000 in
theorem spread97_any {B bb : Nat} {vi : Value} {r : Option Nat} {fs : List Value} {F : Nat → Prop} {xs : List ItemD} {b1 b2 b3 b4 b5 g : Nat} {m : List Bool} {i : Nat} {fid : FuncId} {fst cpt : Array Value} {x : ItemD} {vf : Value} (W : World)
    (hE : SpEnv W B bb vi r fs F xs b1 b2 b3 b4 b5 g m i fid fst cpt x vf) (eg : ∀ args w, (callFunc fid args).run Tryz.prog w = .ok (.enter fid args) w) (qx : Bool)
    (hq : ∀ w', Below W.heap.size W w' → Calls Tryz.prog fid (fst ++ #[.agg #[.string x.name, .int .i64 x.kind, .int .i64 x.at_, vf]] ++ cpt) w' fun e w'' => e = .returned (.bool qx) ∧ Below w'.heap.size w' w'')
    (u : Value) (cs : List ByteArray) (S : Nat → Prop) (hu : Rd .string W S u cs) (hcs : ∀ nm ∈ cs, nm.size ≤ maxLen ∧ (idx xs nm).isSome = true) (hm : m.length = xs.length) :
    Calls Tryz.prog 106 #[u, .pointer (some ⟨b1, 0, none⟩), .pointer (some ⟨b2, 0, none⟩), .pointer (some ⟨b3, 0, none⟩), .pointer (some ⟨b4, 0, none⟩), .pointer (some ⟨b5, 0, none⟩)] W
      fun e w' => e = .returned (.bool (cs.any (spHit xs m i qx))) ∧ Below W.heap.size W w' := by
  have hcf := fun w1 (hb1 : Below W.heap.size W w1) => containsFunc98_any u (cs.map Value.string) S 108 #[.pointer (some ⟨b1, 0, none⟩), .pointer (some ⟨b2, 0, none⟩), .pointer (some ⟨b3, 0, none⟩), .pointer (some ⟨b4, 0, none⟩), .pointer (some ⟨b5, 0, none⟩)] enters99
    (fun j => spHit xs m i qx (cs.getD j ⟨#[]⟩)) w1 (hu.vals.below hb1) (fun j v hj w' hb' => by
      rw [List.getElem?_map, Option.map_eq_some_iff] at hj
      obtain ⟨nm, hnm, rfl⟩ := hj
      obtain ⟨hsz, hsome⟩ := hcs nm (mem_of_get? hnm)
      obtain ⟨c, hc⟩ := Option.isSome_iff_exists.1 hsome
      have hb2 := hb1.trans (hb'.mono hb1.size)
      have := spread99_any w' (hE.below hb2) eg qx (fun w3 h3 => hq w3 (hb2.trans (h3.mono hb2.size))) nm hsz c hc hm
      rw [show cs.getD j ⟨#[]⟩ = nm from by simp [List.getD, hnm]]
      exact this)
  rw [List.length_map, anyIdx_any] at hcf
  have HCF := Lib.hid hcf
  obtain ⟨rb, hrb⟩ : ∃ rb, rb = cs.any (spHit xs m i qx) := ⟨_, rfl⟩
  rw [← hrb] at HCF ⊢
  obtain ⟨A, cap, rfl, _⟩ := hu
  clear hcf hrb hE hq eg
  go_enter Tryz.func106, Tryz.ntmps106
  go_wp2_with fail
  refine (HCF.out _ (Below.refl _ _)).mono ?_
  rintro e w' ⟨rfl, hb1⟩
  go_wp2_with fail
  go_ret
  exact ⟨rfl, hb1⟩
end Go.Proofs.YtogccnngdfancaaGreat
namespace Go.Proofs.YtogccnngdfancaaGreat
open Go.RowKit Go.Shelf

theorem info4 : (Tryz.prog.info? 4).map (fun i => (i.zero, i.size, i.bytes)) = some (some (.bool false), 1, 1) := by kernel_rfl

/-- The mark of place k, out of the marks before it. -/
def spMark (xs : List ItemD) (i : Nat) (q : ItemD → Bool) (m : List Bool) (k : Nat) : Bool := match xs[k]? with | some x => x.frm.any (fun c => c.any (spHit xs m i (q x))) | none => false
/-- The marks after d rounds. -/
def spGo (xs : List ItemD) (i : Nat) (q : ItemD → Bool) : Nat → List Bool
  | 0 => List.replicate xs.length false
  | d + 1 => (spGo xs i q d).set (i + 1 + d) (spMark xs i q (spGo xs i q d) (i + 1 + d))
theorem spGo_len (xs : List ItemD) (i : Nat) (q : ItemD → Bool) : ∀ d, (spGo xs i q d).length = xs.length
  | 0 => by simp [spGo]
  | d + 1 => by simp [spGo, spGo_len xs i q d]
def spAll (xs : List ItemD) (i : Nat) (q : ItemD → Bool) : List Bool := spGo xs i q (xs.length - (i + 1))

/-- All names in the lists of a book are names of the book. -/
def Found (xs : List ItemD) : Prop := ∀ x ∈ xs, ∀ c ∈ x.frm, ∀ nm ∈ c, nm.size ≤ maxLen ∧ (idx xs nm).isSome = true

/-- What holds at the head of a round of spread. -/
structure SpRel (w : World) (bb i n g mv : Nat) (fid : FuncId) (fst cpt : Array Value) (m : List Bool) (wr : World) : Prop where
  bel : Below w.heap.size w wr
  sz : mv < wr.heap.size
  hmv : w.heap.size + 4 ≤ mv
  h0 : wr.heap[w.heap.size]? = some (.cells #[.pointer (some ⟨bb, 0, none⟩)] 66)
  h1 : wr.heap[w.heap.size + 1]? = some (.cells #[.int .i64 i] 3)
  h2 : wr.heap[w.heap.size + 2]? = some (.cells #[.func (.func fid) fst cpt] 139)
  h4 : wr.heap[mv]? = some (.cells #[.slice (some ⟨g, 0, none⟩) n n] 106)
  own : wr.ownsRow w.heap.size 4 1 (.slice (some ⟨g, 0, none⟩) n n) n (m.map Value.bool)
theorem SpRel.step {w wr w2 : World} {bb i n g mv : Nat} {fid : FuncId} {fst cpt : Array Value} {m : List Bool} (h : SpRel w bb i n g mv fid fst cpt m wr) (hg : g = w.heap.size + 3) (hb : Below wr.heap.size wr w2) (k : Nat) (v : Bool) :
    SpRel w bb i n g mv fid fst cpt (m.set k v) (w2.setCell ⟨g, k, none⟩ (.bool v)) := by
  have hs := h.sz
  have hmv := h.hmv
  have k1 : Keep (fun b => b < wr.heap.size ∧ b ≠ g) wr (w2.setCell ⟨g, k, none⟩ (.bool v)) := ((Keep.of_below hb).mono (fun b hb => hb.1)).setCell (fun h => h.2 rfl) _
  have gr : wr.grownBy w2 none := ⟨hb.os, hb.tape, hb.output, hb.size, fun b hb' _ => hb.block b hb'⟩
  refine ⟨h.bel.trans (Keep.below (k1.mono (S' := (· < w.heap.size)) fun b hb => ⟨by omega, by omega⟩)), by have := k1.size; omega, hmv, (k1.block _ ⟨by omega, by omega⟩).trans h.h0, (k1.block _ ⟨by omega, by omega⟩).trans h.h1, (k1.block _ ⟨by omega, by omega⟩).trans h.h2, (k1.block _ ⟨by omega, by omega⟩).trans h.h4, ?_⟩
  rw [List.map_set]
  exact ((h.own.kept gr (.inr (by simp [Value.ownBlock]))).stored k (.bool v)).1
theorem SpRel.cm {w wr : World} {bb i n g mv : Nat} {fid : FuncId} {fst cpt : Array Value} {m : List Bool} (h : SpRel w bb i n g mv fid fst cpt m wr) : ∀ j v, m[j]? = some v → wr.cell? ⟨g, j, none⟩ = some (.bool v) := fun j v hj => by
  have hl := h.own.1
  have hjl := (List.getElem?_eq_some_iff.1 hj).1
  rw [h.own.cellAt j (by simp at hl; omega), List.getElem?_map, hj]; rfl

theorem spread92 {B bb : Nat} {vi : Value} {r : Option Nat} {fs : List Value} {F : Nat → Prop} {xs : List ItemD} {b1 b2 b3 b4 b5 g : Nat} {m : List Bool} {i : Nat} {fid : FuncId} {fst cpt : Array Value} {x : ItemD} {vf : Value} (W : World)
    (hE : SpEnv W B bb vi r fs F xs b1 b2 b3 b4 b5 g m i fid fst cpt x vf) (eg : ∀ args w, (callFunc fid args).run Tryz.prog w = .ok (.enter fid args) w) (qx : Bool)
    (hq : ∀ w', Below W.heap.size W w' → Calls Tryz.prog fid (fst ++ #[.agg #[.string x.name, .int .i64 x.kind, .int .i64 x.at_, vf]] ++ cpt) w' fun e w'' => e = .returned (.bool qx) ∧ Below w'.heap.size w' w'')
    (S : Nat → Prop) (hv : Rd2 W S vf x.frm) (hcs : ∀ c ∈ x.frm, ∀ nm ∈ c, nm.size ≤ maxLen ∧ (idx xs nm).isSome = true) (hm : m.length = xs.length) :
    Calls Tryz.prog 73 #[vf, .func (.func 106) #[] #[.pointer (some ⟨b1, 0, none⟩), .pointer (some ⟨b2, 0, none⟩), .pointer (some ⟨b3, 0, none⟩), .pointer (some ⟨b4, 0, none⟩), .pointer (some ⟨b5, 0, none⟩)]] W
      fun e w' => e = .returned (.bool (x.frm.any (fun c => c.any (spHit xs m i qx)))) ∧ Below W.heap.size W w' := by
  obtain ⟨vs, hvs, hlen, hin⟩ := hv
  have := containsFunc92_any vf vs S 106 #[.pointer (some ⟨b1, 0, none⟩), .pointer (some ⟨b2, 0, none⟩), .pointer (some ⟨b3, 0, none⟩), .pointer (some ⟨b4, 0, none⟩), .pointer (some ⟨b5, 0, none⟩)] enters97
    (fun j => (x.frm.getD j []).any (spHit xs m i qx)) W hvs (fun j u hu w' hb' => by
      have hj : j < x.frm.length := by rw [← hlen]; exact (List.getElem?_eq_some_iff.1 hu).1
      have hg : x.frm[j]? = some x.frm[j] := List.getElem?_eq_getElem hj
      obtain ⟨u', hu', hr⟩ := hin j _ hg
      obtain rfl := Option.some.inj (hu.symm.trans hu')
      have := spread97_any w' (hE.below hb') eg qx (fun w3 h3 => hq w3 (hb'.trans (h3.mono hb'.size))) u x.frm[j] S (hr.below hb') (hcs _ (List.getElem_mem hj)) hm
      rw [show x.frm.getD j [] = x.frm[j] from by simp [List.getD, hg]]
      exact this)
  rw [hlen, anyIdx_any [] (fun c => c.any (spHit xs m i qx))] at this
  exact this
theorem sp_made {w w1 : World} {c1 c2 c3 : Array Value} {t1 t2 t3 : TypeId} (hg : (((w.alloc (.cells c1 t1)).alloc (.cells c2 t2)).alloc (.cells c3 t3)).grownBy w1 none) :
    w1.heap[w.heap.size]? = some (.cells c1 t1) ∧ w1.heap[w.heap.size + 1]? = some (.cells c2 t2) ∧ w1.heap[w.heap.size + 2]? = some (.cells c3 t3) ∧ Below w.heap.size w w1 ∧ w.heap.size + 1 + 1 < w1.heap.size := by
  have hsz := hg.size
  simp only [World.size_alloc] at hsz
  have b : ∀ k, k < w.heap.size + 3 → w1.heap[k]? = (((w.alloc (.cells c1 t1)).alloc (.cells c2 t2)).alloc (.cells c3 t3)).heap[k]? := fun k hk => hg.block k (by simp; omega) (by simp)
  refine ⟨?_, ?_, ?_, (((Below.refl _ w).alloc (Nat.le_refl _) _).alloc (by simp) _ |>.alloc (by simp; omega) _).grown hg (by simp; omega) (fun _ h => by cases h), by omega⟩
  · rw [b _ (by omega), Below.heap_alloc _ _ _ (by simp; omega), Below.heap_alloc _ _ _ (by simp)]; exact heap_alloc_new w _
  · rw [b _ (by omega), Below.heap_alloc _ _ _ (by simp)]; have := heap_alloc_new (w.alloc (.cells c1 t1)) (.cells c2 t2); simpa using this
  · rw [b _ (by omega)]; have := heap_alloc_new ((w.alloc (.cells c1 t1)).alloc (.cells c2 t2)) (.cells c3 t3); simpa using this

set_option maxRecDepth 100000 in
set_option maxHeartbeats 2000000 in
theorem spread_any (p : Value) (B : Nat) (F : Nat → Prop) (xs : List ItemD) (i : Nat) (hin : i < xs.length) (hxl : xs.length ≤ 1024) (fid : FuncId) (fst cpt : Array Value) (eg : ∀ args w, (callFunc fid args).run Tryz.prog w = .ok (.enter fid args) w) (q : ItemD → Bool) (w : World)
    (hb : Bk w B p F xs) (hfd : Found xs)
    (hq : ∀ x ∈ xs, ∀ vf w', Below w.heap.size w w' → Calls Tryz.prog fid (fst ++ #[.agg #[.string x.name, .int .i64 x.kind, .int .i64 x.at_, vf]] ++ cpt) w' fun e w'' => e = .returned (.bool (q x)) ∧ Below w'.heap.size w' w'') :
    Calls Tryz.prog 79 #[p, .int .i64 i, .func (.func fid) fst cpt] w fun e w' => (∃ v, e = .returned v ∧ w'.ownsRow w.heap.size 4 1 v xs.length ((spAll xs i q).map Value.bool)) ∧ Below w.heap.size w w' := by
  obtain ⟨i0, hi, hz0, hz1, hz2⟩ := info_parts info4
  obtain ⟨bb, vi, r, fs, rfl, hbk⟩ := hb
  obtain ⟨A, ci, rfl⟩ := ownsRow_slice hbk.own
  have e0 := hbk.cell0
  have hbb := (Array.getElem?_eq_some_iff.1 hbk.blk).1
  obtain ⟨n, hn⟩ : ∃ n, n = xs.length := ⟨_, rfl⟩
  rw [← hn] at e0 hin hxl hbk ⊢
  have HN := Lib.hid hn
  have HQ := Lib.hid hq
  have HFD := Lib.hid hfd
  have HBK := Lib.hid hbk
  have hi64 : (i : Int) ≤ 1024 := by omega
  have hbb1 : bb < w.heap.size + 1 := by omega
  have hbb2 : bb < w.heap.size + 1 + 1 := by omega
  clear hn hq hfd hbk
  go_enter Tryz.func79, Tryz.ntmps79
  go_wp2_with (at_make; refine wpList_make_full _ rfl _ _ 106 rfl w.heap.size 4 i0 (.bool false) 1 Tryz.underlying106 hi hz0 hz1 .i64 .i64 (n : Int) (n : Int) n rfl rfl rfl rfl (by rw [hz2]; omega) (by unfold maxLen; omega) (by simp; omega) ?_; intro w1 hown hgrow; obtain ⟨m0, m1, m2, hbl1, hs1⟩ := sp_made hgrow; have hs2 : w.heap.size + 1 < w1.heap.size := (by omega); have hI1 := cell_of_row w1 _ 0 _ _ _ m1)
  have hst : SpRel w bb i n (w.heap.size + 1 + 1 + 1) w1.heap.size fid fst cpt (spGo xs i q 0) (w1.alloc (Obj.cells #[Value.slice (some ⟨w.heap.size + 1 + 1 + 1, 0, none⟩) n n] 106)) := by
    have ho := hown
    simp only [World.size_alloc] at ho
    refine ⟨hbl1.alloc (by omega) _, by simp, by have := (ho.lt (w.heap.size + 1 + 1 + 1) rfl).2; omega, ?_, ?_, ?_, heap_alloc_new w1 _, ?_⟩
    · rw [Below.heap_alloc _ _ _ (by omega)]; exact m0
    · rw [Below.heap_alloc _ _ _ (by omega)]; exact m1
    · rw [Below.heap_alloc _ _ _ (by omega)]; exact m2
    · rw [show (spGo xs i q 0).map Value.bool = List.replicate n (.bool false) from by simp [spGo, HN.out]]
      have := ho.alloc (Obj.cells #[Value.slice (some ⟨w.heap.size + 1 + 1 + 1, 0, none⟩) n n] 106)
      rw [show (madeCells (Value.bool false).cells (n * 1)).toList = List.replicate n (.bool false) from by rw [Nat.mul_one]; exact toList_madeCells_one _ _] at this
      exact this
  have HST := Lib.hid hst
  obtain ⟨mv, hmv⟩ : ∃ mv, mv = w1.heap.size := ⟨_, rfl⟩
  rw [← hmv] at HST ⊢
  clear hst hmv m0 m1 m2 hbl1 hs1 hs2 hI1 hown hgrow e0 hbb hbb1 hbb2
  go_loopw [8] (fun iv wr => ∃ d : Nat, i + 1 + d ≤ n ∧ iv = .int .i64 ((i + 1 + d : Nat) : Int) ∧ SpRel w bb i n (w.heap.size + 1 + 1 + 1) mv fid fst cpt (spGo xs i q d) wr) (fun iv _ => n - (intOf iv).toNat)
  case atStart => exact ⟨0, by omega, by go_num, HST.out⟩
  case round =>
    clear HST
    obtain ⟨d, hd, rfl, hrel⟩ := hrel
    have HR := Lib.hid hrel
    obtain ⟨k, hk⟩ : ∃ k, k = i + 1 + d := ⟨_, rfl⟩
    rw [← hk] at hd ⊢
    have HK := Lib.hid hk
    have hbk := HBK.out.below hrel.bel
    have e0 := hbk.cell0
    have cp := cell_of_row wr _ 0 _ _ _ hrel.h0
    have cm := cell_of_row wr _ 0 _ _ _ hrel.h4
    have hmvl := hrel.sz
    have hNm := hrel.hmv
    have hbbl := (Array.getElem?_eq_some_iff.1 hbk.blk).1
    clear hk
    by_cases hlt : k < n
    · obtain ⟨x, hx⟩ : ∃ x, xs[k]? = some x := ⟨xs[k]'(by have := HN.out; omega), List.getElem?_eq_getElem (by have := HN.out; omega)⟩
      obtain ⟨g', cap', f, he, hcap', hg1, hg2, i0', i1', i2', i3', hrf⟩ := hbk.item hx
      simp only [Value.slice.injEq] at he
      obtain ⟨rfl, -, rfl⟩ := he
      have hmem := mem_of_get? hx
      have hlen : (spGo xs i q d).length = xs.length := spGo_len _ _ _ _
      have hnl : n = xs.length := HN.out
      obtain ⟨u0, hu0⟩ : ∃ u0, (spGo xs i q d)[k]? = some u0 := ⟨_, List.getElem?_eq_getElem (by omega)⟩
      have hcm := hrel.cm k u0 hu0
      have hfm : wr.frozen? ⟨w.heap.size + 1 + 1 + 1, k, none⟩ = false := hrel.own.frozenAt k
      have hgl : w.heap.size + 1 + 1 + 1 < wr.heap.size := by omega
      have hrf0 := hrf
      obtain ⟨vsf, hvsf, -⟩ := hrf
      obtain ⟨Af, cf, rfl, -⟩ := hvsf
      obtain ⟨W1, hW1⟩ : ∃ W1, W1 = wr.alloc (.cells #[.string x.name, .int .i64 x.kind, .int .i64 x.at_, .slice Af vsf.length cf] 71) := ⟨_, rfl⟩
      have hbW : Below wr.heap.size wr W1 := by rw [hW1]; exact (Below.refl _ _).alloc (Nat.le_refl _) _
      have hm5 : W1.heap[wr.heap.size]? = some (.cells #[.string x.name, .int .i64 x.kind, .int .i64 x.at_, .slice Af vsf.length cf] 71) := by rw [hW1]; exact heap_alloc_new wr _
      have hE : SpEnv W1 B bb (.slice (some ⟨g', 0, none⟩) n ci) r fs F xs w.heap.size mv (w.heap.size + 1) (w.heap.size + 1 + 1) wr.heap.size (w.heap.size + 1 + 1 + 1) (spGo xs i q d) i fid fst cpt x (.slice Af vsf.length cf) := by
        have cl : ∀ {p : Addr} {v : Value}, wr.cell? p = some v → W1.cell? p = some v := fun {p v} hp => (hbW.cell (World.block_lt_of_cell? wr p hp)).trans hp
        refine ⟨cl cp, ?_, cl (cell_of_row wr _ 0 _ _ _ hrel.h1), cl (cell_of_row wr _ 0 _ _ _ hrel.h2), hm5, fun j v hj => cl (hrel.cm j v hj), hbk.below hbW⟩
        rw [hlen, ← hnl]; exact cl cm
      have hcall := fun w' (h : Below W1.heap.size W1 w') => spread92 w' (hE.below h) eg (q x) (fun w3 h3 => HQ.out x hmem _ w3 (hrel.bel.trans ((hbW.mono hrel.bel.size).trans ((h.mono (by have := hbW.size; have := hrel.bel.size; omega)).trans (h3.mono (by have := h.size; have := hbW.size; have := hrel.bel.size; omega))))))
        _ ((hrf0.below hbW).below h) (fun c hc nm hnm => HFD.out x hmem c hc nm hnm) hlen
      have hmk : spMark xs i q (spGo xs i q d) k = x.frm.any (fun c => c.any (spHit xs (spGo xs i q d) i (q x))) := by unfold spMark; simp only [hx]
      rw [← hmk] at hcall
      obtain ⟨mk, hmk'⟩ : ∃ mk, mk = spMark xs i q (spGo xs i q d) k := ⟨_, rfl⟩
      rw [← hmk'] at hcall
      have HMK := Lib.hid hmk'
      have HCALL := Lib.hid hcall
      have HBW := Lib.hid hbW
      have HW1 := Lib.hid hW1
      have cm1 : W1.cell? ⟨mv, 0, none⟩ = some (.slice (some ⟨w.heap.size + 1 + 1 + 1, 0, none⟩) n n) := (hbW.cell (p := ⟨mv, 0, none⟩) hmvl).trans cm
      have c53 : W1.cell? ⟨wr.heap.size, 3, none⟩ = some (.slice Af vsf.length cf) := cell_of_row W1 _ 3 _ _ _ hm5
      have hcm1 : W1.cell? ⟨w.heap.size + 1 + 1 + 1, k, none⟩ = some (.bool u0) := (hbW.cell (p := ⟨w.heap.size + 1 + 1 + 1, k, none⟩) hgl).trans hcm
      have hfm1 : W1.frozen? ⟨w.heap.size + 1 + 1 + 1, k, none⟩ = false := (hbW.frozen (p := ⟨w.heap.size + 1 + 1 + 1, k, none⟩) hgl).trans hfm
      have hmvW : mv < W1.heap.size := by have := hbW.size; omega
      have hglW : w.heap.size + 1 + 1 + 1 < W1.heap.size := by have := hbW.size; omega
      obtain ⟨xn, xk, xa, xf⟩ := x
      simp only at *
      clear hnl hmk hmk' hcall hE hm5 hbk hrel hlen hu0 hx hmem hrf0 hcm hfm hW1 hbW
      go_wp2_with fail
      rw [← HW1.out]
      go_region_with (go_at_call 73; refine (HCALL.out _ ((Below.refl _ _).drew)).mono ?_; rintro e w2 ⟨rfl, hb2⟩; have cm2 : w2.cell? ⟨mv, 0, none⟩ = some (.slice (some ⟨w.heap.size + 1 + 1 + 1, 0, none⟩) n n) := (hb2.cell (p := ⟨mv, 0, none⟩) hmvW).trans cm1; have hcm2 : w2.cell? ⟨w.heap.size + 1 + 1 + 1, k, none⟩ = some (.bool u0) := (hb2.cell (p := ⟨w.heap.size + 1 + 1 + 1, k, none⟩) hglW).trans hcm1; have hfm2 : w2.frozen? ⟨w.heap.size + 1 + 1 + 1, k, none⟩ = false := (hb2.frozen (p := ⟨w.heap.size + 1 + 1 + 1, k, none⟩) hglW).trans hfm1)
      all_goals
        have hstep := HR.out.step rfl ((HBW.out.trans (((Below.refl _ _).drew).trans (hb2.mono (by have := HBW.out.size; simpa using this))))) k mk
        have HSTEP := Lib.hid hstep
        clear hstep
        go_wp2_with fail
        go_roundw
        case rel => exact ⟨d + 1, by have := HK.out; omega, by rw [HK.out]; go_num, by
          have h1 := HSTEP.out
          rw [show spGo xs i q (d + 1) = (spGo xs i q d).set k mk from by rw [HMK.out, HK.out]; rfl]
          exact h1⟩
        case measure => simp [intOf]; omega
    · have hkn : k = n := by omega
      have hres : spGo xs i q d = spAll xs i q := by
        unfold spAll
        rw [show xs.length - (i + 1) = d from by have := HN.out; have := HK.out; omega]
      have HRES := Lib.hid hres
      clear hres hbk
      go_wp2_with fail
      go_ret
      exact ⟨⟨_, rfl, by rw [← HRES.out]; exact HR.out.own⟩, HR.out.bel⟩
end Go.Proofs.YtogccnngdfancaaGreat
