/- Words for memory: which blocks a world keeps, and slices that read as lists. -/
import Derived.Test.YtfondpakbiagjaaGreatDoorProg
import Derived.KernelRfl
import Derived.WalkKit
import Derived.WalkSpells
import Derived.WalkLawsBesides
import Derived.Lib.Hide
namespace Go.Proofs.YtfondpakbiagjaaGreatDoor
open Go.RowKit

/-- The world w' keeps the blocks of S as w has them; the streams are as they were; no block has gone. -/
structure Keep (S : Nat → Prop) (w w' : World) : Prop where
  os : w'.os = w.os
  tape : w'.tape = w.tape
  output : w'.output = w.output
  size : w.heap.size ≤ w'.heap.size
  block : ∀ k, S k → w'.heap[k]? = w.heap[k]?

theorem Keep.refl (S : Nat → Prop) (w : World) : Keep S w w := ⟨rfl, rfl, rfl, Nat.le_refl _, fun _ _ => rfl⟩
theorem Keep.trans {S : Nat → Prop} {a b c : World} (h : Keep S a b) (k : Keep S b c) : Keep S a c :=
  ⟨k.os.trans h.os, k.tape.trans h.tape, k.output.trans h.output, Nat.le_trans h.size k.size, fun i hi => (k.block i hi).trans (h.block i hi)⟩
theorem Keep.mono {S S' : Nat → Prop} {w w' : World} (h : Keep S w w') (hs : ∀ k, S' k → S k) : Keep S' w w' :=
  ⟨h.os, h.tape, h.output, h.size, fun k hk => h.block k (hs k hk)⟩
theorem Keep.of_below {B : Nat} {w w' : World} (h : Below B w w') : Keep (· < B) w w' := ⟨h.os, h.tape, h.output, h.size, h.block⟩
theorem Keep.below {B : Nat} {w w' : World} (h : Keep (· < B) w w') : Below B w w' := ⟨h.os, h.tape, h.output, h.size, h.block⟩
theorem Keep.cell {S : Nat → Prop} {w w' : World} (h : Keep S w w') {p : Addr} (hp : S p.block) : w'.cell? p = w.cell? p := World.cell?_of_block (w := w) (h.block p.block hp)
theorem Keep.drew (S : Nat → Prop) (w : World) : Keep S w w.drew := ⟨rfl, rfl, rfl, Nat.le_refl _, fun _ _ => rfl⟩
theorem Keep.alloc {S : Nat → Prop} {a w : World} (h : Keep S a w) (hS : ∀ k, S k → k < w.heap.size) (o : Obj) : Keep S a (w.alloc o) :=
  ⟨h.os, h.tape, h.output, by have := h.size; simp; omega, fun k hk => by rw [Below.heap_alloc w o k (hS k hk)]; exact h.block k hk⟩
theorem Keep.setCell {S : Nat → Prop} {a w : World} (h : Keep S a w) {p : Addr} (hp : ¬ S p.block) (u : Value) : Keep S a (w.setCell p u) :=
  ⟨h.os, h.tape, h.output, by have := h.size; simp; omega, fun k hk => by rw [Below.heap_setCell w p u k (fun e => hp (e ▸ hk))]; exact h.block k hk⟩

/-- The slice value v holds the list xs, element by element under f, in blocks of S. -/
def Rd {α : Type} (f : α → Value) (w : World) (S : Nat → Prop) (v : Value) (xs : List α) : Prop :=
  ∃ A cap, v = .slice A xs.length cap ∧ xs.length ≤ cap ∧ cap ≤ maxLen ∧
    (xs ≠ [] → ∃ b off, A = some ⟨b, off, none⟩ ∧ S b ∧ ∀ i (h : i < xs.length), w.cell? ⟨b, off + i, none⟩ = some (f xs[i]))

theorem Rd.keep {α : Type} {f : α → Value} {w w' : World} {S : Nat → Prop} {v : Value} {xs : List α} (h : Rd f w S v xs) (hk : Keep S w w') : Rd f w' S v xs := by
  obtain ⟨A, cap, rfl, h1, h2, h3⟩ := h
  refine ⟨A, cap, rfl, h1, h2, fun hn => ?_⟩
  obtain ⟨b, off, rfl, hb, hc⟩ := h3 hn
  exact ⟨b, off, rfl, hb, fun i hi => (hk.cell (p := ⟨b, off + i, none⟩) hb).trans (hc i hi)⟩
theorem Rd.mono {α : Type} {f : α → Value} {w : World} {S S' : Nat → Prop} {v : Value} {xs : List α} (h : Rd f w S v xs) (hs : ∀ k, S k → S' k) : Rd f w S' v xs := by
  obtain ⟨A, cap, rfl, h1, h2, h3⟩ := h
  refine ⟨A, cap, rfl, h1, h2, fun hn => ?_⟩
  obtain ⟨b, off, rfl, hb, hc⟩ := h3 hn
  exact ⟨b, off, rfl, hs b hb, hc⟩
/-- Opened for a walk: the length under a name, the cells under their condition. -/
theorem Rd.open_ {α : Type} {f : α → Value} {w : World} {S : Nat → Prop} {v : Value} {xs : List α} (h : Rd f w S v xs) :
    ∃ A n cap, v = .slice A n cap ∧ xs.length = n ∧ n ≤ cap ∧ n ≤ 9223372036854775807 ∧
      (∀ k, k < n → ∃ b off x, A = some ⟨b, off, none⟩ ∧ S b ∧ xs[k]? = some x ∧ w.cell? ⟨b, off + k, none⟩ = some (f x)) := by
  obtain ⟨A, cap, rfl, h1, h2, h3⟩ := h
  refine ⟨A, xs.length, cap, rfl, rfl, h1, by unfold maxLen at h2; omega, fun k hk => ?_⟩
  obtain ⟨b, off, rfl, hb, hc⟩ := h3 (fun e => by subst e; simp at hk)
  exact ⟨b, off, xs[k], rfl, hb, List.getElem?_eq_getElem hk, hc k hk⟩
theorem ret_int {k : IntKind} {a b : Int} (h : a = b) : Ending.returned (.int k a) = .returned (.int k b) := by rw [h]
theorem ret_bool {a b : Bool} (h : a = b) : Ending.returned (.bool a) = .returned (.bool b) := by rw [h]
theorem val_int {k : IntKind} {a b : Int} (h : a = b) : Value.int k a = .int k b := by rw [h]
theorem take_snoc? {α : Type} {xs : List α} {k : Nat} {x : α} (h : xs[k]? = some x) : xs.take (k + 1) = xs.take k ++ [x] := by
  obtain ⟨hk, rfl⟩ := List.getElem?_eq_some_iff.1 h
  exact List.take_succ_eq_append_getElem hk
theorem mem_of_get? {α : Type} {xs : List α} {k : Nat} {x : α} (h : xs[k]? = some x) : x ∈ xs := List.mem_of_getElem? h
theorem info3 : (Tryz.prog.info? 3).map (fun i => (i.zero, i.size, i.bytes)) = some (some (.int .i64 0), 1, 8) := by kernel_rfl

/-- A string turned to bytes: new memory that reads as the bytes. -/
theorem bytes_of (s : ByteArray) (w : World) (hs : s.size ≤ maxLen) : ∃ cap C m, (convert 9 72 (.string s)).run Tryz.prog w = .ok (.slice (some ⟨w.heap.size, 0, none⟩) s.size cap) (w.drew.alloc (.cells C 5 m)) ∧
    s.size ≤ cap ∧ cap ≤ maxLen ∧ C.size = cap ∧ m = (cap, cap + 1) ∧ ∀ i (h : i < s.data.toList.length), C[i]? = some (.int .u8 (s.data.toList[i].toNat : Int)) := by
  have hcap := grownCap_ge w s.size 0 5
  have hsz : (bytesRow s (grownCap w s.size 0 5)).size = grownCap w s.size 0 5 := by
    simp only [bytesRow, Array.size_append, Array.size_map, Array.size_replicate]
    have : s.data.size = s.size := rfl
    omega
  refine ⟨_, _, _, run_bytes_of_string w 9 72 5 s Tryz.underlying9 Tryz.underlying72 Tryz.underlying5, hcap, grownCap_le_maxLen w _ _ _ hs, hsz, by rw [hsz], fun i h => ?_⟩
  rw [bytesRow_at s _ i (by simpa using h)]
  simp

theorem cell?_alloc_mark' (w : World) (C : Array Value) (t : TypeId) (m : Nat × Nat) (j : Nat) : (w.alloc (.cells C t m)).cell? ⟨w.heap.size, j, none⟩ = C[j]? := by
  have h : (w.alloc (.cells C t m)).heap[w.heap.size]? = some (.cells C t m) := by show (w.heap.push _)[w.heap.size]? = _; simp
  unfold World.cell?
  simp only [h]
  rfl

theorem grown_below {w w1 : World} {base : Nat} {e : TypeId} {size : Nat} {v : Value} {n : Nat} {xs : List Value} {o : Obj} (hown : w.ownsRow base e size v n xs) (hg : (w.alloc o).grownBy w1 v.ownBlock)
    (hb : base ≤ w.heap.size) : Below base w w1 ∧ w.heap.size + 1 ≤ w1.heap.size :=
  ⟨((Below.refl base w).alloc hb o).grown hg (by simp; omega) (fun k hk => (hown.lt k hk).1), by have := hg.size; simpa using this⟩
theorem Rd.of_own {α : Type} {f : α → Value} {w : World} {base : Nat} {e : TypeId} {v : Value} {n : Nat} {xs : List α} (h : w.ownsRow base e 1 v n (xs.map f)) : Rd f w (base ≤ ·) v xs := by
  have hn : xs.length = n := by have := h.1; simpa using this
  rcases h.2 with ⟨rfl, rfl⟩ | ⟨g, cap, cur, rfl, hb, hg, h1, h2, h3, h4⟩
  · exact ⟨none, 0, by rw [hn], by omega, by simp [maxLen], fun h0 => absurd (List.length_eq_zero_iff.1 hn) h0⟩
  · refine ⟨_, cap, by rw [hn], by omega, h2, fun _ => ⟨g, 0, rfl, hb, fun i hi => ?_⟩⟩
    have hc := h.cellAt i (by omega)
    rw [Nat.zero_add, hc]
    simp [List.getElem?_eq_getElem hi]

end Go.Proofs.YtfondpakbiagjaaGreatDoor
