/- Bytes of a string in new memory, written and read back. -/
import Derived.Test.YtlanephpmoajiaaBase2
namespace Go.Proofs.Ytlanephpmoajiaa
open Go.RowKit

/-- Block b begins with the bytes l, and they may be written. -/
def BytesAt (w : World) (b : Nat) (l : List UInt8) : Prop :=
  ∃ C lo hi, w.heap[b]? = some (.cells C 5 (lo, hi)) ∧ l.length ≤ C.size ∧ C.size ≤ lo ∧ ∀ i (h : i < l.length), C[i]? = some (.int .u8 (l[i].toNat : Int))
theorem BytesAt.cell {w : World} {b : Nat} {l : List UInt8} (h : BytesAt w b l) {i : Nat} (hi : i < l.length) : w.cell? ⟨b, i, none⟩ = some (.int .u8 (l[i].toNat : Int)) := by
  obtain ⟨C, lo, hi', hb, _, _, hc⟩ := h
  rw [cell_of_row w b i _ _ _ hb]; exact hc i hi
theorem BytesAt.free {w : World} {b : Nat} {l : List UInt8} (h : BytesAt w b l) {i : Nat} (hi : i < l.length) : w.frozen? ⟨b, i, none⟩ = false := by
  obtain ⟨C, lo, hi', hb, h1, h2, _⟩ := h
  unfold World.frozen?
  simp only [hb]
  simp; omega
theorem BytesAt.lt {w : World} {b : Nat} {l : List UInt8} (h : BytesAt w b l) : b < w.heap.size := let ⟨_, _, _, hb, _⟩ := h; (Array.getElem?_eq_some_iff.1 hb).1
theorem BytesAt.same {w w' : World} {b : Nat} {l : List UInt8} (h : BytesAt w b l) (hs : w'.heap[b]? = w.heap[b]?) : BytesAt w' b l :=
  let ⟨C, lo, hi, hb, r⟩ := h; ⟨C, lo, hi, hs.trans hb, r⟩
theorem BytesAt.below {w w' : World} {b : Nat} {l : List UInt8} (h : BytesAt w b l) (hb : Below w.heap.size w w') : BytesAt w' b l := h.same (hb.block b h.lt)
theorem BytesAt.set {w : World} {b : Nat} {l : List UInt8} (h : BytesAt w b l) (i : Nat) (c : UInt8) : BytesAt (w.setCell ⟨b, i, none⟩ (.int .u8 (c.toNat : Int))) b (l.set i c) := by
  obtain ⟨C, lo, hi', hb, h1, h2, hc⟩ := h
  have hm : (w.setCell ⟨b, i, none⟩ (.int .u8 (c.toNat : Int))).heap[b]? = some (.cells (C.setIfInBounds i (.int .u8 (c.toNat : Int))) 5 (lo, hi')) := by
    unfold World.setCell
    simp only [Array.getElem?_modify, if_true, hb]
    rfl
  refine ⟨_, lo, hi', hm, by simpa using h1, by simpa using h2, fun j hj => ?_⟩
  have hj' : j < l.length := by simpa using hj
  by_cases hij : i = j
  · subst hij
    rw [Array.getElem?_setIfInBounds_self_of_lt (by omega)]
    simp
  · rw [Array.getElem?_setIfInBounds_ne hij, hc j hj']
    simp [List.getElem_set_ne hij]
/-- A string turned to bytes. -/
theorem bytes_new (s : ByteArray) (w : World) (hs : s.size ≤ maxLen) : ∃ cap w1, (convert 9 33 (.string s)).run Try.prog w = .ok (.slice (some ⟨w.heap.size, 0, none⟩) s.size cap) w1 ∧ s.size ≤ cap ∧
    BytesAt w1 w.heap.size s.data.toList ∧ Below w.heap.size w w1 := by
  obtain ⟨cap, C, m, hr, h1, h2, h3, rfl, h5⟩ := bytes_of s w hs
  refine ⟨cap, _, hr, h1, ⟨C, cap, cap + 1, ?_, by simp; omega, by omega, h5⟩, (Below.refl _ w).drew.alloc (Nat.le_refl _) _⟩
  exact heap_alloc_new w.drew _
/-- Bytes turned to a string. -/
theorem bytes_back {w : World} {b n cap : Nat} {l : List UInt8} (h : BytesAt w b l) (hn : n = l.length) : (convert 33 9 (.slice (some ⟨b, 0, none⟩) n cap)).run Try.prog w = .ok (.string ⟨l.toArray⟩) w := by
  subst hn
  exact run_convert_bytes_back w 33 9 5 ⟨b, 0, none⟩ cap l Try.underlying33 Try.underlying5 Try.underlying9 (fun j hj => by rw [addr_add, Nat.zero_add]; exact h.cell hj)
end Go.Proofs.Ytlanephpmoajiaa
