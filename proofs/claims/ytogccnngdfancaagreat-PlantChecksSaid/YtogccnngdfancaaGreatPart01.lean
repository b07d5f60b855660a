/- Words for memory: which blocks a world keeps, and slices that read as lists. More words for memory: slices as sources of an append, slices of slices, items. An append to a row of the call's own: the new row is the old one, or lies in a new block. The walks of slices.Clone and of plant.copied. -/
import Derived.Test.YtogccnngdfancaaGreatRows
import Derived.WalkKit
import Derived.WalkSpells
import Derived.WalkLawsBesides
import Derived.Lib.Hide
import Derived.Deep.RegionLaw
import Derived.Deep.RegionWith
namespace Go.Proofs.YtogccnngdfancaaGreat
open Go.RowKit

/-- The world w' keeps the blocks of S as w has them; the streams are as they were; no block has gone. -/
structure Keep (S : Nat → Prop) (w w' : World) : Prop where
  os : w'.os = w.os
  tape : w'.tape = w.tape
  output : w'.output = w.output
  size : w.heap.size ≤ w'.heap.size
  block : ∀ k, S k → w'.heap[k]? = w.heap[k]?

theorem Keep.refl (S : Nat → Prop) (w : World) : Keep S w w := ⟨rfl, rfl, rfl, Nat.le_refl _, fun _ _ => rfl⟩
theorem Keep.trans {S : Nat → Prop} {a b c : World} (h : Keep S a b) (k : Keep S b c) : Keep S a c :=
  ⟨k.os.trans h.os, k.tape.trans h.tape, k.output.trans h.output, Nat.le_trans h.size k.size, fun i hi => (k.block i hi).trans (h.block i hi)⟩
theorem Keep.mono {S S' : Nat → Prop} {w w' : World} (h : Keep S w w') (hs : ∀ k, S' k → S k) : Keep S' w w' :=
  ⟨h.os, h.tape, h.output, h.size, fun k hk => h.block k (hs k hk)⟩
theorem Keep.of_below {B : Nat} {w w' : World} (h : Below B w w') : Keep (· < B) w w' := ⟨h.os, h.tape, h.output, h.size, h.block⟩
theorem Keep.below {B : Nat} {w w' : World} (h : Keep (· < B) w w') : Below B w w' := ⟨h.os, h.tape, h.output, h.size, h.block⟩
theorem Keep.cell {S : Nat → Prop} {w w' : World} (h : Keep S w w') {p : Addr} (hp : S p.block) : w'.cell? p = w.cell? p := World.cell?_of_block (w := w) (h.block p.block hp)
theorem Keep.drew (S : Nat → Prop) (w : World) : Keep S w w.drew := ⟨rfl, rfl, rfl, Nat.le_refl _, fun _ _ => rfl⟩
theorem Keep.alloc {S : Nat → Prop} {a w : World} (h : Keep S a w) (hS : ∀ k, S k → k < w.heap.size) (o : Obj) : Keep S a (w.alloc o) :=
  ⟨h.os, h.tape, h.output, by have := h.size; simp; omega, fun k hk => by rw [Below.heap_alloc w o k (hS k hk)]; exact h.block k hk⟩
theorem Keep.setCell {S : Nat → Prop} {a w : World} (h : Keep S a w) {p : Addr} (hp : ¬ S p.block) (u : Value) : Keep S a (w.setCell p u) :=
  ⟨h.os, h.tape, h.output, by have := h.size; simp; omega, fun k hk => by rw [Below.heap_setCell w p u k (fun e => hp (e ▸ hk))]; exact h.block k hk⟩

/-- The slice value v holds the list xs, element by element under f, in blocks of S. -/
def Rd {α : Type} (f : α → Value) (w : World) (S : Nat → Prop) (v : Value) (xs : List α) : Prop :=
  ∃ A cap, v = .slice A xs.length cap ∧ xs.length ≤ cap ∧ cap ≤ maxLen ∧
    (xs ≠ [] → ∃ b off, A = some ⟨b, off, none⟩ ∧ S b ∧ ∀ i (h : i < xs.length), w.cell? ⟨b, off + i, none⟩ = some (f xs[i]))

theorem Rd.keep {α : Type} {f : α → Value} {w w' : World} {S : Nat → Prop} {v : Value} {xs : List α} (h : Rd f w S v xs) (hk : Keep S w w') : Rd f w' S v xs := by
  obtain ⟨A, cap, rfl, h1, h2, h3⟩ := h
  refine ⟨A, cap, rfl, h1, h2, fun hn => ?_⟩
  obtain ⟨b, off, rfl, hb, hc⟩ := h3 hn
  exact ⟨b, off, rfl, hb, fun i hi => (hk.cell (p := ⟨b, off + i, none⟩) hb).trans (hc i hi)⟩
theorem Rd.mono {α : Type} {f : α → Value} {w : World} {S S' : Nat → Prop} {v : Value} {xs : List α} (h : Rd f w S v xs) (hs : ∀ k, S k → S' k) : Rd f w S' v xs := by
  obtain ⟨A, cap, rfl, h1, h2, h3⟩ := h
  refine ⟨A, cap, rfl, h1, h2, fun hn => ?_⟩
  obtain ⟨b, off, rfl, hb, hc⟩ := h3 hn
  exact ⟨b, off, rfl, hs b hb, hc⟩
/-- Opened for a walk: the length under a name, the cells under their condition. -/
theorem Rd.open_ {α : Type} {f : α → Value} {w : World} {S : Nat → Prop} {v : Value} {xs : List α} (h : Rd f w S v xs) :
    ∃ A n cap, v = .slice A n cap ∧ xs.length = n ∧ n ≤ cap ∧ n ≤ 9223372036854775807 ∧
      (∀ k, k < n → ∃ b off x, A = some ⟨b, off, none⟩ ∧ S b ∧ xs[k]? = some x ∧ w.cell? ⟨b, off + k, none⟩ = some (f x)) := by
  obtain ⟨A, cap, rfl, h1, h2, h3⟩ := h
  refine ⟨A, xs.length, cap, rfl, rfl, h1, by unfold maxLen at h2; omega, fun k hk => ?_⟩
  obtain ⟨b, off, rfl, hb, hc⟩ := h3 (fun e => by subst e; simp at hk)
  exact ⟨b, off, xs[k], rfl, hb, List.getElem?_eq_getElem hk, hc k hk⟩
theorem ret_int {k : IntKind} {a b : Int} (h : a = b) : Ending.returned (.int k a) = .returned (.int k b) := by rw [h]
theorem ret_bool {a b : Bool} (h : a = b) : Ending.returned (.bool a) = .returned (.bool b) := by rw [h]
theorem val_int {k : IntKind} {a b : Int} (h : a = b) : Value.int k a = .int k b := by rw [h]
theorem take_snoc? {α : Type} {xs : List α} {k : Nat} {x : α} (h : xs[k]? = some x) : xs.take (k + 1) = xs.take k ++ [x] := by
  obtain ⟨hk, rfl⟩ := List.getElem?_eq_some_iff.1 h
  exact List.take_succ_eq_append_getElem hk
theorem mem_of_get? {α : Type} {xs : List α} {k : Nat} {x : α} (h : xs[k]? = some x) : x ∈ xs := List.mem_of_getElem? h
theorem info3 : (Tryz.prog.info? 3).map (fun i => (i.zero, i.size, i.bytes)) = some (some (.int .i64 0), 1, 8) := by kernel_rfl

/-- A string turned to bytes: new memory that reads as the bytes. -/
theorem bytes_of (s : ByteArray) (w : World) (hs : s.size ≤ maxLen) : ∃ cap C m, (convert 9 128 (.string s)).run Tryz.prog w = .ok (.slice (some ⟨w.heap.size, 0, none⟩) s.size cap) (w.drew.alloc (.cells C 5 m)) ∧
    s.size ≤ cap ∧ cap ≤ maxLen ∧ C.size = cap ∧ m = (cap, cap + 1) ∧ ∀ i (h : i < s.data.toList.length), C[i]? = some (.int .u8 (s.data.toList[i].toNat : Int)) := by
  have hcap := grownCap_ge w s.size 0 5
  have hsz : (bytesRow s (grownCap w s.size 0 5)).size = grownCap w s.size 0 5 := by
    simp only [bytesRow, Array.size_append, Array.size_map, Array.size_replicate]
    have : s.data.size = s.size := rfl
    omega
  refine ⟨_, _, _, run_bytes_of_string w 9 128 5 s Tryz.underlying9 Tryz.underlying128 Tryz.underlying5, hcap, grownCap_le_maxLen w _ _ _ hs, hsz, by rw [hsz], fun i h => ?_⟩
  rw [bytesRow_at s _ i (by simpa using h)]
  simp

theorem cell?_alloc_mark' (w : World) (C : Array Value) (t : TypeId) (m : Nat × Nat) (j : Nat) : (w.alloc (.cells C t m)).cell? ⟨w.heap.size, j, none⟩ = C[j]? := by
  have h : (w.alloc (.cells C t m)).heap[w.heap.size]? = some (.cells C t m) := by show (w.heap.push _)[w.heap.size]? = _; simp
  unfold World.cell?
  simp only [h]
  rfl

theorem grown_below {w w1 : World} {base : Nat} {e : TypeId} {size : Nat} {v : Value} {n : Nat} {xs : List Value} {o : Obj} (hown : w.ownsRow base e size v n xs) (hg : (w.alloc o).grownBy w1 v.ownBlock)
    (hb : base ≤ w.heap.size) : Below base w w1 ∧ w.heap.size + 1 ≤ w1.heap.size :=
  ⟨((Below.refl base w).alloc hb o).grown hg (by simp; omega) (fun k hk => (hown.lt k hk).1), by have := hg.size; simpa using this⟩
theorem Rd.of_own {α : Type} {f : α → Value} {w : World} {base : Nat} {e : TypeId} {v : Value} {n : Nat} {xs : List α} (h : w.ownsRow base e 1 v n (xs.map f)) : Rd f w (base ≤ ·) v xs := by
  have hn : xs.length = n := by have := h.1; simpa using this
  rcases h.2 with ⟨rfl, rfl⟩ | ⟨g, cap, cur, rfl, hb, hg, h1, h2, h3, h4⟩
  · exact ⟨none, 0, by rw [hn], by omega, by simp [maxLen], fun h0 => absurd (List.length_eq_zero_iff.1 hn) h0⟩
  · refine ⟨_, cap, by rw [hn], by omega, h2, fun _ => ⟨g, 0, rfl, hb, fun i hi => ?_⟩⟩
    have hc := h.cellAt i (by omega)
    rw [Nat.zero_add, hc]
    simp [List.getElem?_eq_getElem hi]

end Go.Proofs.YtogccnngdfancaaGreat
namespace Go.Proofs.YtogccnngdfancaaGreat
open Go.RowKit
theorem info9 : (Tryz.prog.info? 9).map (fun i => (i.zero, i.size, i.bytes)) = some (some (.string ⟨#[]⟩), 1, 16) := by kernel_rfl
theorem info52 : (Tryz.prog.info? 72).map (fun i => (i.zero, i.size, i.bytes)) = some (some (.slice none 0 0), 1, 24) := by kernel_rfl

theorem Rd.nil_of {α : Type} {f : α → Value} {w : World} {S : Nat → Prop} {xs : List α} {n cap : Nat} (h : Rd f w S (.slice none n cap) xs) : xs = [] := by
  obtain ⟨A, c, he, _, _, h3⟩ := h
  by_cases h0 : xs = []
  · exact h0
  · obtain ⟨b, off, rfl, _⟩ := h3 h0
    simp at he
theorem Rd.none_ {α : Type} (f : α → Value) (w : World) (S : Nat → Prop) : Rd f w S (.slice none 0 0) [] := ⟨none, 0, rfl, Nat.le_refl _, by simp [maxLen], fun h => absurd rfl h⟩
theorem addr_add (b off j : Nat) : (⟨b, off, none⟩ : Addr).add j = ⟨b, off + j, none⟩ := by
  unfold Addr.add
  by_cases h : j = 0
  · subst h; simp
  · simp [h]
/-- The cells of a slice, in the form that an append asks of its source. -/
theorem Rd.cells {α : Type} {f : α → Value} {w : World} {S : Nat → Prop} {ad : Addr} {n cap : Nat} {xs : List α} (h : Rd f w S (.slice (some ad) n cap) xs) :
    ∀ j u, (xs.map f)[j]? = some u → w.cell? (ad.add j) = some u := by
  intro j u hu
  obtain ⟨A, c, he, _, _, h3⟩ := h
  have hne : xs ≠ [] := fun e => by subst e; simp at hu
  obtain ⟨b, off, rfl, _, hc⟩ := h3 hne
  simp only [Value.slice.injEq, Option.some.injEq] at he
  obtain ⟨rfl, _, _⟩ := he
  rw [List.getElem?_map, Option.map_eq_some_iff] at hu
  obtain ⟨x, hx, rfl⟩ := hu
  obtain ⟨hj, rfl⟩ := List.getElem?_eq_some_iff.1 hx
  rw [← hc j hj, addr_add]
theorem Rd.lt {α : Type} {f : α → Value} {w : World} {S : Nat → Prop} {v : Value} {xs : List α} (h : Rd f w S v xs) : Rd f w (fun b => S b ∧ b < w.heap.size) v xs := by
  obtain ⟨A, cap, rfl, h1, h2, h3⟩ := h
  refine ⟨A, cap, rfl, h1, h2, fun hn => ?_⟩
  obtain ⟨b, off, rfl, hb, hc⟩ := h3 hn
  exact ⟨b, off, rfl, ⟨hb, World.block_lt_of_cell? w ⟨b, off + 0, none⟩ (hc 0 (List.length_pos_iff.2 hn))⟩, hc⟩

/-- The slice value v holds slices, of which each holds a list of strings. -/
def Rd2 (w : World) (S : Nat → Prop) (v : Value) (xss : List (List ByteArray)) : Prop :=
  ∃ vs : List Value, Rd id w S v vs ∧ vs.length = xss.length ∧ ∀ (i : Nat) (x : List ByteArray), xss[i]? = some x → ∃ u : Value, vs[i]? = some u ∧ Rd .string w S u x
theorem Rd2.keep {w w' : World} {S : Nat → Prop} {v : Value} {xss : List (List ByteArray)} (h : Rd2 w S v xss) (hk : Keep S w w') : Rd2 w' S v xss := by
  obtain ⟨vs, h1, h2, h3⟩ := h
  exact ⟨vs, h1.keep hk, h2, fun i x hx => let ⟨u, h4, h5⟩ := h3 i x hx; ⟨u, h4, h5.keep hk⟩⟩
theorem Rd2.mono {w : World} {S S' : Nat → Prop} {v : Value} {xss : List (List ByteArray)} (h : Rd2 w S v xss) (hs : ∀ k, S k → S' k) : Rd2 w S' v xss := by
  obtain ⟨vs, h1, h2, h3⟩ := h
  exact ⟨vs, h1.mono hs, h2, fun i x hx => let ⟨u, h4, h5⟩ := h3 i x hx; ⟨u, h4, h5.mono hs⟩⟩
theorem Rd2.lt {w : World} {S : Nat → Prop} {v : Value} {xss : List (List ByteArray)} (h : Rd2 w S v xss) : Rd2 w (fun b => S b ∧ b < w.heap.size) v xss := by
  obtain ⟨vs, h1, h2, h3⟩ := h
  exact ⟨vs, h1.lt, h2, fun i x hx => let ⟨u, h4, h5⟩ := h3 i x hx; ⟨u, h4, h5.lt⟩⟩
/-- What a world below keeps, a reading keeps. -/
theorem Rd.below {α : Type} {f : α → Value} {w w' : World} {S : Nat → Prop} {v : Value} {xs : List α} (h : Rd f w S v xs) (hb : Below w.heap.size w w') : Rd f w' S v xs :=
  ((h.lt.mono (S' := fun b => b < w.heap.size ∧ S b) (fun _ hk => ⟨hk.2, hk.1⟩)).keep ((Keep.of_below hb).mono fun _ hk => hk.1)).mono fun _ hk => hk.2
theorem Rd2.below {w w' : World} {S : Nat → Prop} {v : Value} {xss : List (List ByteArray)} (h : Rd2 w S v xss) (hb : Below w.heap.size w w') : Rd2 w' S v xss :=
  ((h.lt.mono (S' := fun b => b < w.heap.size ∧ S b) (fun _ hk => ⟨hk.2, hk.1⟩)).keep ((Keep.of_below hb).mono fun _ hk => hk.1)).mono fun _ hk => hk.2
end Go.Proofs.YtogccnngdfancaaGreat
namespace Go.Proofs.YtogccnngdfancaaGreat
open Go.RowKit

theorem append_fresh {P : Program} (w : World) (base : Nat) (t ty e : TypeId) (i : TypeInfo) (z : Value) (size bytes : Nat) (ht : P.underlying t = some (.slice e)) (hi : P.info? e = some i) (hz : i.zero = some z)
    (hsize : i.size = size) (hby : i.bytes = bytes) (hzs : z.cells.size = size) (hsz : 0 < size)
    (v : Value) (n : Nat) (xs : List Value) (hown : w.ownsRow base e size v n xs)
    (a : Addr) (m c : Nat) (news : List Value) (hl : news.length = m * size) (hnews : ∀ j u, news[j]? = some u → w.cell? (a.add j) = some u) (h1 : ∀ u ∈ news, u.oneCell' = true)
    (h63 : n + m ≤ maxLen) (hbytes : (n + m) * bytes ≤ 140737488355328) (hbase : base ≤ w.heap.size) :
    ∃ v' w', (Builtin.append_ #[t, t] ty #[v, .slice (some a) m c]).run P w = .ok v' w' ∧ w'.ownsRow base e size v' (n + m) (xs ++ news) ∧ w.grownBy w' v.ownBlock ∧
      (∀ b, v'.ownBlock = some b → v.ownBlock = some b ∨ w.heap.size ≤ b) := by
  obtain ⟨v', w', hr, ho, hg, _⟩ := run_append_own (P := P) w base t ty e i z size bytes ht hi hz hsize hby hzs hsz v n xs hown a m c news hl hnews h1 h63 hbytes hbase
  refine ⟨v', w', hr, ho, hg, ?_⟩
  rcases hown.2 with ⟨rfl, rfl⟩ | ⟨g, cap, cur, rfl, hbg, hgc, hnc, hcm, hcs, htake⟩
  · have hx : xs = [] := List.eq_nil_of_length_eq_zero (by simpa using hown.1)
    subst hx
    obtain ⟨v2, w2, hr2, ho2, _⟩ := run_append_own (P := P) w w.heap.size t ty e i z size bytes ht hi hz hsize hby hzs hsz (.slice none 0 0) 0 [] (World.ownsRow_nil _ _ _ _) a m c news hl hnews h1 h63 hbytes (Nat.le_refl _)
    have e1 := hr.symm.trans hr2
    simp only [Result.ok.injEq] at e1
    obtain ⟨rfl, rfl⟩ := e1
    exact fun b hb => .inr (ho2.lt b hb).1
  · subst hsize
    by_cases hroom : n + m ≤ cap
    · have hfit : n * i.size + news.length ≤ cur.size := by rw [hl, hcs, ← Nat.add_mul]; exact Nat.mul_le_mul_right _ hroom
      have hr2 := run_append_room (P := P) w t ty e i ht hi g n cap cur hgc a m c news hl hnews h1 hroom hfit
      have e1 := hr.symm.trans hr2
      simp only [Result.ok.injEq] at e1
      obtain ⟨rfl, rfl⟩ := e1
      exact fun b hb => .inl hb
    · have holds : ∀ j u, xs[j]? = some u → w.cell? ((⟨g, 0, none⟩ : Addr).add j) = some u := hown.cells (g := g) rfl
      have hr2 := run_append_grow (P := P) w t ty e i z ht hi hz ⟨g, 0, none⟩ n cap xs hown.1 holds a m c news hl hnews (by omega) (by simp only [maxLen] at h63; omega) (growslice_fits (by omega) (by rw [hby]; exact hbytes))
      have e1 := hr.symm.trans hr2
      simp only [Result.ok.injEq] at e1
      obtain ⟨rfl, rfl⟩ := e1
      exact fun b hb => .inr (by simp [Value.ownBlock] at hb; omega)

/-- As one step of a region that draws. -/
theorem step_append_own {P : Program} {ops : Array Oper} {o : Oper} {a : Act} {w : World} {K : Act → World → Prop} {Q : Exit → Act → World → Prop} {E : Prop} (hg : o.guard = none) (s x : Operand) (t : TypeId)
    (ho : o.op = .call { callee := .builtin .append, args := #[s, x], argTypes := #[t, t] })
    (base : Nat) (e : TypeId) (i : TypeInfo) (z : Value) (size bytes : Nat) (ht : P.underlying t = some (.slice e)) (hi : P.info? e = some i) (hz : i.zero = some z)
    (hsize : i.size = size) (hby : i.bytes = bytes) (hzs : z.cells.size = size) (hsz : 0 < size)
    (v : Value) (n : Nat) (xs : List Value) (hs : a.eval s = v) (hown : w.ownsRow base e size v n xs)
    (ad : Addr) (m c : Nat) (news : List Value) (hx : a.eval x = .slice (some ad) m c) (hl : news.length = m * size) (hnews : ∀ j u, news[j]? = some u → w.cell? (ad.add j) = some u) (h1 : ∀ u ∈ news, u.oneCell' = true)
    (h63 : n + m ≤ maxLen) (hbytes : (n + m) * bytes ≤ 140737488355328) (hbase : base ≤ w.heap.size)
    (h : ∀ v' w', w'.ownsRow base e size v' (n + m) (xs ++ news) → w.grownBy w' v.ownBlock → (∀ b, v'.ownBlock = some b → v.ownBlock = some b ∨ w.heap.size ≤ b) → K (a.put o.dst v') w') :
    if Region.wanted o (yielded ops a.tmps) = true then Oper.wp P o a w K Q else E := by
  have hw : Region.wanted o (yielded ops a.tmps) = true := by simp [Region.wanted, hg]
  rw [if_pos hw]
  obtain ⟨v', w', hr, h2, h3, h4⟩ := append_fresh (P := P) w base t o.type e i z size bytes ht hi hz hsize hby hzs hsz v n xs hown ad m c news hl hnews h1 h63 hbytes hbase
  unfold Oper.wp execOp
  simp only [ho, resolve, invoke, builtin, Sem.run_bind, Sem.run_pure, Result.andThen_ok, List.map_toArray, List.map_cons, List.map_nil, hs, hx, hr]
  exact h v' w' h2 h3 h4
theorem cells_new (w : World) (c : Array Value) (t : TypeId) (m : Nat × Nat) : ∀ j u, c.toList[j]? = some u → (w.alloc (.cells c t m)).cell? ((⟨w.heap.size, 0, none⟩ : Addr).add j) = some u := by
  intro j u hu
  rw [addr_add, Nat.zero_add, cell?_alloc_mark']
  simpa using hu
end Go.Proofs.YtogccnngdfancaaGreat
namespace Go.Proofs.YtogccnngdfancaaGreat
open Go.RowKit

set_option maxRecDepth 100000 in
set_option maxHeartbeats 400000 in
theorem clone96_own (v : Value) (xs : List ByteArray) (S : Nat → Prop) (w : World) (hv : Rd .string w S v xs) (hl : xs.length ≤ 1000000) :
    Calls Tryz.prog 77 #[v] w fun e w' => (∃ v', e = .returned v' ∧ w'.ownsRow w.heap.size 9 1 v' xs.length (xs.map Value.string)) ∧ Below w.heap.size w w' := by
  obtain ⟨i0, hi, hz0, hz1, hz2⟩ := info_parts info9
  have hv0 := hv.lt
  obtain ⟨A, cap, rfl, hcap, hmax, _⟩ := hv
  have heq := fun (w : World) (A : Option Addr) (n c : Nat) => Lib.run_eql_slice_nil (P := Tryz.prog) w 72 9 A n c 0 0 Tryz.underlying72
  obtain ⟨n, hn⟩ : ∃ n, n = xs.length := ⟨_, rfl⟩
  rw [← hn] at hl hcap hv0 ⊢
  have HN := Lib.hid hn
  clear hn
  cases A with
  | none =>
    have HX := Lib.hid hv0.nil_of
    go_enter Tryz.func77, Tryz.ntmps77
    go_wp2_with fail
    go_ret
    exact ⟨⟨_, rfl, by rw [HN.out, HX.out]; exact World.ownsRow_nil _ _ _ _⟩, Below.refl _ _⟩
  | some ad =>
    have hc1 := (hv0.keep (((Keep.refl _ w).alloc (fun k hk => hk.2) (.cells #[] 9)))).cells
    have HC := Lib.hid hc1
    have HL : Hid ((xs.map Value.string).length = n * 1) := by rw [List.length_map, HN.out]; show _ = _; omega
    clear hc1 hv0
    go_enter Tryz.func77, Tryz.ntmps77
    go_wp2_with (at_builtin; refine wpList_append_own _ rfl _ _ 72 rfl w.heap.size 9 i0 (.string ⟨#[]⟩) 1 16 Tryz.underlying72 hi hz0 hz1 hz2 rfl (by decide) _ 0 [] rfl (World.ownsRow_made w #[] 0 (Nat.le_refl _) (by decide) rfl) ad n cap (xs.map Value.string) rfl HL.out HC.out (fun u hu => by obtain ⟨x, _, rfl⟩ := List.mem_map.1 hu; rfl) (by unfold maxLen; omega) (by omega) (by simp) ?_; intro v' w1 hown' hgrow _)
    go_ret
    have hown'' : w1.ownsRow w.heap.size 9 1 v' n (xs.map Value.string) := by simpa using hown'
    exact ⟨⟨_, rfl, hown''⟩, ((Below.refl _ w).alloc (Nat.le_refl _) _).grown hgrow (by simp) (fun k hk => by simp [Value.ownBlock, Act.eval] at hk; omega)⟩
set_option maxRecDepth 100000 in
set_option maxHeartbeats 400000 in
theorem clone95_own (v : Value) (xs : List Value) (S : Nat → Prop) (w : World) (hv : Rd id w S v xs) (hone : ∀ u ∈ xs, u.oneCell' = true) (hl : xs.length ≤ 1000000) :
    Calls Tryz.prog 76 #[v] w fun e w' => (∃ v', e = .returned v' ∧ w'.ownsRow w.heap.size 72 1 v' xs.length xs) ∧ Below w.heap.size w w' := by
  obtain ⟨i0, hi, hz0, hz1, hz2⟩ := info_parts info52
  have hv0 := hv.lt
  obtain ⟨A, cap, rfl, hcap, hmax, _⟩ := hv
  have heq := fun (w : World) (A : Option Addr) (n c : Nat) => Lib.run_eql_slice_nil (P := Tryz.prog) w 69 72 A n c 0 0 Tryz.underlying69
  obtain ⟨n, hn⟩ : ∃ n, n = xs.length := ⟨_, rfl⟩
  rw [← hn] at hl hcap hv0 ⊢
  have HN := Lib.hid hn
  clear hn
  cases A with
  | none =>
    have HX := Lib.hid hv0.nil_of
    go_enter Tryz.func76, Tryz.ntmps76
    go_wp2_with fail
    go_ret
    exact ⟨⟨_, rfl, by rw [HN.out, HX.out]; exact World.ownsRow_nil _ _ _ _⟩, Below.refl _ _⟩
  | some ad =>
    have hc1 := (hv0.keep (((Keep.refl _ w).alloc (fun k hk => hk.2) (.cells #[] 72)))).cells
    have HC := Lib.hid hc1
    have HL : Hid ((xs.map id).length = n * 1) := by rw [List.length_map, HN.out]; show _ = _; omega
    clear hc1 hv0
    go_enter Tryz.func76, Tryz.ntmps76
    go_wp2_with (at_builtin; refine wpList_append_own _ rfl _ _ 69 rfl w.heap.size 72 i0 (.slice none 0 0) 1 24 Tryz.underlying69 hi hz0 hz1 hz2 rfl (by decide) _ 0 [] rfl (World.ownsRow_made w #[] 0 (Nat.le_refl _) (by decide) rfl) ad n cap (xs.map id) rfl HL.out HC.out (by rw [List.map_id]; exact hone) (by unfold maxLen; omega) (by omega) (by simp) ?_; intro v' w1 hown' hgrow _)
    go_ret
    have hown'' : w1.ownsRow w.heap.size 72 1 v' n xs := by simpa using hown'
    exact ⟨⟨_, rfl, hown''⟩, ((Below.refl _ w).alloc (Nat.le_refl _) _).grown hgrow (by simp) (fun k hk => by simp [Value.ownBlock, Act.eval] at hk; omega)⟩

theorem ownsRow_slice {w : World} {base : Nat} {e : TypeId} {size : Nat} {v : Value} {n : Nat} {xs : List Value} (h : w.ownsRow base e size v n xs) : ∃ A c, v = .slice A n c := by
  rcases h.2 with ⟨rfl, rfl⟩ | ⟨g, cap, cur, rfl, _⟩
  · exact ⟨_, _, rfl⟩
  · exact ⟨_, _, rfl⟩
theorem ownsRow_at {w : World} {base : Nat} {e : TypeId} {A : Option Addr} {n c : Nat} {xs : List Value} (h : w.ownsRow base e 1 (.slice A n c) n xs) (k : Nat) (hk : k < n) :
    ∃ g u, A = some ⟨g, 0, none⟩ ∧ base ≤ g ∧ g < w.heap.size ∧ xs[k]? = some u ∧ w.cell? ⟨g, k, none⟩ = some u ∧ w.frozen? ⟨g, k, none⟩ = false := by
  have hl := h.1
  rcases h.2 with ⟨he, h0⟩ | ⟨g, cap, cur, he, hb, hg, _⟩
  · omega
  · simp only [Value.slice.injEq] at he
    obtain ⟨rfl, _, rfl⟩ := he
    have hx : xs[k]? = some (xs[k]'(by omega)) := List.getElem?_eq_getElem (by omega)
    refine ⟨g, _, rfl, hb, (Array.getElem?_eq_some_iff.1 hg).1, hx, ?_, h.frozenAt k⟩
    rw [h.cellAt k (by omega), hx]
/-- Slices of the call's own, of which each owns a list of strings. -/
def Own2 (w : World) (B : Nat) (vf : Value) (xss : List (List ByteArray)) : Prop :=
  ∃ vs, w.ownsRow B 72 1 vf xss.length vs ∧ ∀ (i : Nat) (x : List ByteArray), xss[i]? = some x → ∃ u : Value, vs[i]? = some u ∧ w.ownsRow B 9 1 u x.length (x.map Value.string) ∧ (u.ownBlock = none ∨ u.ownBlock ≠ vf.ownBlock)

theorem ownsRow_kept_below {w w' : World} {base r : Nat} {e : TypeId} {size : Nat} {v : Value} {n : Nat} {xs : List Value} (h : w.ownsRow base e size v n xs) (hg : w.grownBy w' (some r)) (hr : r < base) : w'.ownsRow base e size v n xs := by
  refine h.kept hg ?_
  by_cases h0 : v.ownBlock = none
  · exact .inl h0
  · obtain ⟨b, hb⟩ := Option.ne_none_iff_exists'.1 h0
    refine .inr (fun e => ?_)
    have := (h.lt b hb).1
    rw [hb] at e
    have := Option.some.inj e
    omega
/-- What holds at the head of a round of plant.copied. -/
def CopRel (w : World) (S : Nat → Prop) (nm : ByteArray) (kd a : Int) (A : Option Addr) (n c : Nat) (xss : List (List ByteArray)) (k : Nat) (wr : World) : Prop :=
  ∃ cs : List Value, wr.ownsRow (w.heap.size + 2) 72 1 (.slice A n c) n cs ∧
      wr.heap[w.heap.size]? = some (.cells #[Value.string nm, Value.int IntKind.i64 kd, Value.int IntKind.i64 a, .slice A n c] 71) ∧
      wr.heap[w.heap.size + 1]? = some (.cells #[Value.string ⟨#[]⟩, Value.int IntKind.i64 0, Value.int IntKind.i64 0, Value.slice none 0 0] 71) ∧ Below w.heap.size w wr ∧ w.heap.size + 2 ≤ wr.heap.size ∧
      ∀ (i : Nat) (x : List ByteArray), xss[i]? = some x → ∃ u : Value, cs[i]? = some u ∧ (k ≤ i → Rd .string wr (fun b => S b ∧ b < w.heap.size) u x) ∧
        (i < k → wr.ownsRow (w.heap.size + 2) 9 1 u x.length (x.map Value.string) ∧ (u.ownBlock = none ∨ u.ownBlock ≠ (Value.slice A n c).ownBlock))
theorem ownsRow_mono {w : World} {base base' : Nat} {e : TypeId} {size : Nat} {v : Value} {n : Nat} {xs : List Value} (h : w.ownsRow base e size v n xs) (hb : base' ≤ base) : w.ownsRow base' e size v n xs := by
  refine ⟨h.1, h.2.imp id ?_⟩
  rintro ⟨g, cap, cur, e1, e2, e3⟩
  exact ⟨g, cap, cur, e1, by omega, e3⟩
theorem CopRel.step {w wr w2 : World} {S : Nat → Prop} {nm : ByteArray} {kd a : Int} {g n c : Nat} {xss : List (List ByteArray)} {k : Nat} {x : List ByteArray} {A2 : Option Addr} {c2 : Nat}
    (h : CopRel w S nm kd a (some ⟨g, 0, none⟩) n c xss k wr) (hk : k < n) (hg : w.heap.size + 2 ≤ g) (hg2 : g < wr.heap.size) (hx : xss[k]? = some x) (hb : Below wr.heap.size wr w2)
    (hown2 : w2.ownsRow wr.heap.size 9 1 (.slice A2 x.length c2) x.length (x.map Value.string)) :
    CopRel w S nm kd a (some ⟨g, 0, none⟩) n c xss (k + 1) (w2.setCell ⟨g, k, none⟩ (.slice A2 x.length c2)) := by
  obtain ⟨cs, h1, h2, h3, h4, h5, h6⟩ := h
  have hlen : cs.length = n := by have := h1.1; simpa using this
  have k1 : Keep (fun b => b < wr.heap.size ∧ b ≠ g) wr (w2.setCell ⟨g, k, none⟩ (.slice A2 x.length c2)) := ((Keep.of_below hb).mono (fun b hb => hb.1)).setCell (fun h => h.2 rfl) _
  have gr : wr.grownBy w2 none := ⟨hb.os, hb.tape, hb.output, hb.size, fun b hb' _ => hb.block b hb'⟩
  have o1 := (h1.kept gr (.inr (by simp [Value.ownBlock]))).stored k (.slice A2 x.length c2)
  have hA2 : (Value.slice A2 x.length c2).ownBlock = none ∨ (Value.slice A2 x.length c2).ownBlock ≠ some g := by
    cases A2 with
    | none => exact .inl rfl
    | some ad => exact .inr (fun e => by have := (hown2.lt _ rfl).1; simp [Value.ownBlock] at e; omega)
  refine ⟨cs.set k (.slice A2 x.length c2), o1.1, (k1.block _ ⟨by omega, by omega⟩).trans h2, (k1.block _ ⟨by omega, by omega⟩).trans h3,
    h4.trans ((Keep.below (k1.mono (S' := (· < w.heap.size)) (fun b hb => ⟨by omega, by omega⟩)))), by have := k1.size; omega, fun i y hy => ?_⟩
  by_cases hi : i = k
  · subst hi
    obtain rfl := Option.some.inj (hx.symm.trans hy)
    refine ⟨.slice A2 x.length c2, by rw [List.getElem?_set_self (by omega)], fun h => by omega, fun _ => ⟨ownsRow_mono (hown2.kept o1.2 ?_) (by omega), ?_⟩⟩
    · exact hA2
    · simpa [Value.ownBlock] using hA2
  · obtain ⟨u, hu, hr, ho⟩ := h6 i y hy
    refine ⟨u, by rw [List.getElem?_set_ne (by omega)]; exact hu, fun h => ?_, fun h => ?_⟩
    · exact (hr (by omega)).keep (k1.mono (fun b hb => ⟨by have := hb.2; omega, by have := hb.2; omega⟩))
    · obtain ⟨p1, p2⟩ := ho (by omega)
      refine ⟨(p1.kept gr (Classical.em _)).kept o1.2 (by simpa [Value.ownBlock] using p2), p2⟩

set_option maxRecDepth 100000 in
set_option maxHeartbeats 1000000 in
theorem copied_any (nm : ByteArray) (kd a : Int) (vf : Value) (xss : List (List ByteArray)) (S : Nat → Prop) (w : World) (hv : Rd2 w S vf xss) (hl : xss.length ≤ 1000) (hl2 : ∀ x ∈ xss, x.length ≤ 1000) :
    Calls Tryz.prog 46 #[.agg #[.string nm, .int .i64 kd, .int .i64 a, vf]] w fun e w' =>
      (∃ vf', e = .returned (.agg #[.string nm, .int .i64 kd, .int .i64 a, vf']) ∧ Own2 w' w.heap.size vf' xss) ∧ Below w.heap.size w w' := by
  obtain ⟨vs, hvs, hlen, hin⟩ := hv
  have hone : ∀ u ∈ vs, u.oneCell' = true := fun u hu => by
    obtain ⟨i, hi, rfl⟩ := List.mem_iff_getElem.1 hu
    obtain ⟨u, h1, h2⟩ := hin i xss[i] (List.getElem?_eq_getElem (by omega))
    rw [List.getElem?_eq_getElem hi] at h1
    obtain rfl := Option.some.inj h1
    obtain ⟨A, c, he, _⟩ := h2
    rw [he]; rfl
  have HONE := Lib.hid hone
  have HIN := Lib.hid hin
  have HLEN := Lib.hid hlen
  have HL2 := Lib.hid hl2
  clear hone hin hlen hl2
  have hvl := hvs.lt
  go_enter Tryz.func46, Tryz.ntmps46
  go_wp2_with fail
  obtain ⟨W0, hW0⟩ : ∃ W0, W0 = ((w.alloc (Obj.cells #[Value.string nm, Value.int IntKind.i64 kd, Value.int IntKind.i64 a, vf] 71)).alloc (Obj.cells #[Value.string ⟨#[]⟩, Value.int IntKind.i64 0, Value.int IntKind.i64 0, Value.slice none 0 0] 71)) := ⟨_, rfl⟩
  rw [← hW0]
  have hsz0 : W0.heap.size = w.heap.size + 2 := by rw [hW0]; simp
  have hbl0 : Below w.heap.size w W0 := by rw [hW0]; exact ((Below.refl _ _).alloc (Nat.le_refl _) _).alloc (by simp) _
  have hk1 : W0.heap[w.heap.size]? = some (.cells #[Value.string nm, Value.int IntKind.i64 kd, Value.int IntKind.i64 a, vf] 71) := by
    rw [hW0, Below.heap_alloc _ _ _ (by simp)]; exact heap_alloc_new w _
  have hk2 : W0.heap[w.heap.size + 1]? = some (.cells #[Value.string ⟨#[]⟩, Value.int IntKind.i64 0, Value.int IntKind.i64 0, Value.slice none 0 0] 71) := by
    rw [hW0]; have := heap_alloc_new (w.alloc (Obj.cells #[Value.string nm, Value.int IntKind.i64 kd, Value.int IntKind.i64 a, vf] 71)) (Obj.cells #[Value.string ⟨#[]⟩, Value.int IntKind.i64 0, Value.int IntKind.i64 0, Value.slice none 0 0] 71); simpa using this
  refine (clone95_own vf vs S W0 (hvs.below hbl0) HONE.out (by have := HLEN.out; omega)).mono ?_
  rintro e w1 ⟨⟨vf', rfl, hown⟩, hb1⟩
  rw [HLEN.out, hsz0] at hown
  obtain ⟨A', c', rfl⟩ := ownsRow_slice hown
  obtain ⟨n, hn⟩ : ∃ n, n = xss.length := ⟨_, rfl⟩
  rw [← hn] at hown hl ⊢
  have HN := Lib.hid hn
  clear hn
  have hm1 : w1.heap[w.heap.size]? = some (.cells #[Value.string nm, Value.int IntKind.i64 kd, Value.int IntKind.i64 a, vf] 71) := (hb1.block _ (by omega)).trans hk1
  have hm2 : w1.heap[w.heap.size + 1]? = some (.cells #[Value.string ⟨#[]⟩, Value.int IntKind.i64 0, Value.int IntKind.i64 0, Value.slice none 0 0] 71) := (hb1.block _ (by omega)).trans hk2
  have hbl1 : Below w.heap.size w w1 := hbl0.trans (hb1.mono (by omega))
  clear hW0 hbl0 hk1 hk2 hb1
  have hc3 : w1.cell? ⟨w.heap.size, 3, none⟩ = some vf := (cell_of_row w1 _ 3 _ _ _ hm1)
  have hf3 : w1.frozen? ⟨w.heap.size, 3, none⟩ = false := frozen_of_row w1 _ 3 _ _ hm1
  go_wp2_with fail
  clear hc3 hf3
  go_loopw [12] (fun i wr => ∃ k : Nat, k ≤ n ∧ i = .int .i64 k ∧ CopRel w S nm kd a A' n c' xss k wr) (fun i _ => n - (intOf i).toNat)
  case atStart =>
    have k1 : Keep (fun b => b < w1.heap.size ∧ b ≠ w.heap.size) w1 (w1.setCell ⟨w.heap.size, 3, none⟩ (.slice A' n c')) := (Keep.refl _ _).setCell (fun h => h.2 rfl) _
    have hlt1 : w.heap.size + 2 ≤ w1.heap.size := by have := (Array.getElem?_eq_some_iff.1 hm2).1; omega
    refine ⟨0, Nat.zero_le _, rfl, vs, ownsRow_setCell_below hown (by simp) _, ?_, (k1.block _ ⟨by omega, by omega⟩).trans hm2, hbl1.setCell (by simp) _, by simpa using hlt1, fun i x hx => ?_⟩
    · exact heap_setCell_same w1 w.heap.size 3 _ 71 _ hm1
    · obtain ⟨u, hu, hr⟩ := HIN.out i x hx
      refine ⟨u, hu, fun _ => ?_, fun h => by omega⟩
      exact ((hr.lt.keep ((Keep.of_below hbl1).mono fun b hb => hb.2)).keep (k1.mono fun b hb => ⟨by have := hb.2; omega, by have := hb.2; omega⟩))
  case round =>
    obtain ⟨k, hk, rfl, hrel⟩ := hrel
    have HR := Lib.hid hrel
    obtain ⟨cs, hown, hm1, hm2, hbl, hsz, hc⟩ := hrel
    have HC := Lib.hid hc
    clear hc
    by_cases hlt : k < n
    · obtain ⟨g, u, rfl, hg1, hg2, hu, hcu, hfu⟩ := ownsRow_at hown k hlt
      obtain ⟨x, hx⟩ : ∃ x, xss[k]? = some x := ⟨xss[k]'(by have := HN.out; omega), List.getElem?_eq_getElem (by have := HN.out; omega)⟩
      obtain ⟨u', hu', hold, _⟩ := HC.out k x hx
      obtain rfl : u = u' := Option.some.inj (hu.symm.trans hu')
      have hold := hold (Nat.le_refl _)
      have hxl : x.length ≤ 1000000 := by have := HL2.out x (mem_of_get? hx); omega
      have HX := Lib.hid hx
      have HU := Lib.hid hu
      have HXL := Lib.hid hxl
      have HCON := fun w' (h : Keep (fun b => b < wr.heap.size) wr w') => clone96_own u x (fun b => S b ∧ b < w.heap.size) w' (hold.below h.below) hxl
      have HCO := Lib.hid HCON
      clear hu' hx hu hxl HCON hold
      have hc3 : wr.cell? ⟨w.heap.size, 3, none⟩ = some (.slice (some ⟨g, 0, none⟩) n c') := (cell_of_row wr _ 3 _ _ _ hm1)
      go_wp2_with fail
      go_region_with (go_at_call 77; refine (HCO.out _ (Keep.drew _ _)).mono ?_; rintro e w2 ⟨⟨v2, rfl, hown2⟩, hb2⟩; obtain ⟨A2, c2, rfl⟩ := ownsRow_slice hown2; have hc4 : w2.cell? ⟨w.heap.size, 3, none⟩ = some (.slice (some ⟨g, 0, none⟩) n c') := (hb2.cell (p := ⟨w.heap.size, 3, none⟩) (by simp; omega)).trans hc3; have hcu2 : w2.cell? ⟨g, k, none⟩ = some u := (hb2.cell (p := ⟨g, k, none⟩) (by simp; omega)).trans hcu; have hfu2 : w2.frozen? ⟨g, k, none⟩ = false := (hb2.frozen (p := ⟨g, k, none⟩) (by simp; omega)).trans hfu)
      all_goals
        have hst := HR.out.step hlt hg1 hg2 HX.out (w2 := w2) (((Below.refl _ wr).drew).trans hb2) hown2
        clear hown2 hb2 hc4 hcu2 hfu2 hc3 hm1 hm2 hown hcu hfu
        go_wp2_with fail
        go_roundw
        case rel => exact ⟨k + 1, by omega, by go_num, hst⟩
        case measure => simp [intOf]; omega
    · have hkn : k = n := by omega
      subst hkn
      have hcell : ∀ j, wr.cell? ⟨w.heap.size, j, none⟩ = #[Value.string nm, Value.int IntKind.i64 kd, Value.int IntKind.i64 a, .slice A' k c'][j]? := fun j => cell_of_row wr _ j _ _ _ hm1
      have hcell2 : ∀ j, wr.cell? ⟨w.heap.size + 1, j, none⟩ = #[Value.string ⟨#[]⟩, Value.int IntKind.i64 0, Value.int IntKind.i64 0, Value.slice none 0 0][j]? := fun j => cell_of_row wr _ j _ _ _ hm2
      have hfr2 : ∀ j, wr.frozen? ⟨w.heap.size + 1, j, none⟩ = false := fun j => frozen_of_row wr _ j _ _ hm2
      go_wp2_with fail
      obtain ⟨w4, hw4⟩ : ∃ w4, w4 = ((((wr.setCell ⟨w.heap.size + 1, 0, none⟩ (Value.string nm)).setCell ⟨w.heap.size + 1, 1, none⟩ (Value.int IntKind.i64 kd)).setCell ⟨w.heap.size + 1, 2, none⟩ (Value.int IntKind.i64 a)).setCell ⟨w.heap.size + 1, 3, none⟩ (Value.slice A' k c')) := ⟨_, rfl⟩
      rw [← hw4]
      have hm4 : w4.heap[w.heap.size + 1]? = some (.cells #[Value.string nm, Value.int IntKind.i64 kd, Value.int IntKind.i64 a, .slice A' k c'] 71) := by
        rw [hw4]
        exact heap_setCell_same _ _ 3 _ 71 _ (heap_setCell_same _ _ 2 _ 71 _ (heap_setCell_same _ _ 1 _ 71 _ (heap_setCell_same wr _ 0 _ 71 _ hm2)))
      have q0 : w4.cell? ⟨w.heap.size + 1, 0, none⟩ = some (.string nm) := cell_of_row w4 _ 0 _ _ _ hm4
      have q1 : w4.cell? ⟨w.heap.size + 1, 1, none⟩ = some (.int .i64 kd) := cell_of_row w4 _ 1 _ _ _ hm4
      have q2 : w4.cell? ⟨w.heap.size + 1, 2, none⟩ = some (.int .i64 a) := cell_of_row w4 _ 2 _ _ _ hm4
      have q3 : w4.cell? ⟨w.heap.size + 1, 3, none⟩ = some (.slice A' k c') := cell_of_row w4 _ 3 _ _ _ hm4
      have k4 : Keep (fun b => b < wr.heap.size ∧ b ≠ w.heap.size + 1) wr w4 := by
        rw [hw4]
        exact (((((Keep.refl _ wr).setCell (fun h => h.2 rfl) _).setCell (fun h => h.2 rfl) _).setCell (fun h => h.2 rfl) _).setCell (fun h => h.2 rfl) _)
      refine bodyPost_ret (v := .agg #[Value.string nm, Value.int IntKind.i64 kd, Value.int IntKind.i64 a, .slice A' k c']) (by simp [results, Tryz.results46, go_sem, q0, q1, q2, q3]) rfl ⟨⟨_, rfl, ?_⟩, ?_⟩
      · have gr : wr.grownBy w4 (some (w.heap.size + 1)) := ⟨k4.os, k4.tape, k4.output, k4.size, fun b hb hne => k4.block b ⟨hb, fun e => hne (by rw [e])⟩⟩
        have own_keep : ∀ {e : TypeId} {v : Value} {n : Nat} {xs : List Value}, wr.ownsRow (w.heap.size + 2) e 1 v n xs → w4.ownsRow (w.heap.size + 2) e 1 v n xs := fun {e v n xs} h => ownsRow_kept_below h gr (by omega)
        refine ⟨cs, by rw [← HN.out]; exact ownsRow_mono (own_keep hown) (by omega), fun i x hx => ?_⟩
        obtain ⟨u, hu, _, ho⟩ := HC.out i x hx
        obtain ⟨p1, p2⟩ := ho (by have := (List.getElem?_eq_some_iff.1 hx).1; have := HN.out; omega)
        exact ⟨u, hu, ownsRow_mono (own_keep p1) (by omega), p2⟩
      · exact hbl.trans (Keep.below (k4.mono (S' := (· < w.heap.size)) (fun b hb => ⟨by omega, by omega⟩)))
end Go.Proofs.YtogccnngdfancaaGreat
