/- An append to a row of the call's own: the new row is the old one, or lies in a new block. Words for numbers in memory that are being written, and the plain laws of their digits. Walks of sums and differences of numbers. -/
import Derived.Test.YtodckaioeomccaaGreatPart02
import Derived.Deep.RegionLaw
import Derived.Test.YtodckaioeomccaaGreatPart08
import Derived.Deep.MidRow
namespace Go.Proofs.YtodckaioeomccaaGreat
open Go.RowKit
theorem append_fresh {P : Program} (w : World) (base : Nat) (t ty e : TypeId) (i : TypeInfo) (z : Value) (size bytes : Nat) (ht : P.underlying t = some (.slice e)) (hi : P.info? e = some i) (hz : i.zero = some z)
  (hsize : i.size = size) (hby : i.bytes = bytes) (hzs : z.cells.size = size) (hsz : 0 < size)
  (v : Value) (n : Nat) (xs : List Value) (hown : w.ownsRow base e size v n xs)
  (a : Addr) (m c : Nat) (news : List Value) (hl : news.length = m * size) (hnews : ∀ j u, news[j]? = some u → w.cell? (a.add j) = some u) (h1 : ∀ u ∈ news, u.oneCell' = true)
  (h63 : n + m ≤ maxLen) (hbytes : (n + m) * bytes ≤ 140737488355328) (hbase : base ≤ w.heap.size) :
  ∃ v' w', (Builtin.append_ #[t, t] ty #[v, .slice (some a) m c]).run P w = .ok v' w' ∧ w'.ownsRow base e size v' (n + m) (xs ++ news) ∧ w.grownBy w' v.ownBlock ∧
   (∀ b, v'.ownBlock = some b → v.ownBlock = some b ∨ w.heap.size ≤ b) := by
 obtain ⟨v', w', hr, ho, hg, _⟩ := run_append_own (P := P) w base t ty e i z size bytes ht hi hz hsize hby hzs hsz v n xs hown a m c news hl hnews h1 h63 hbytes hbase
 refine ⟨v', w', hr, ho, hg, ?_⟩
 rcases hown.2 with ⟨rfl, rfl⟩ | ⟨g, cap, cur, rfl, hbg, hgc, hnc, hcm, hcs, htake⟩
 ·have hx : xs = [] := List.eq_nil_of_length_eq_zero (by simpa using hown.1)
  subst hx
  obtain ⟨v2, w2, hr2, ho2, _⟩ := run_append_own (P := P) w w.heap.size t ty e i z size bytes ht hi hz hsize hby hzs hsz (.slice none 0 0) 0 [] (World.ownsRow_nil _ _ _ _) a m c news hl hnews h1 h63 hbytes (Nat.le_refl _)
  have e1 := hr.symm.trans hr2
  simp only [Result.ok.injEq] at e1
  obtain ⟨rfl, rfl⟩ := e1
  exact fun b hb => .inr (ho2.lt b hb).1
 ·subst hsize
  by_cases hroom : n + m ≤ cap
  ·have hfit : n * i.size + news.length ≤ cur.size := by rw [hl, hcs, ← Nat.add_mul]; exact Nat.mul_le_mul_right _ hroom
   have hr2 := run_append_room (P := P) w t ty e i ht hi g n cap cur hgc a m c news hl hnews h1 hroom hfit
   have e1 := hr.symm.trans hr2
   simp only [Result.ok.injEq] at e1
   obtain ⟨rfl, rfl⟩ := e1
   exact fun b hb => .inl hb
  ·have holds : ∀ j u, xs[j]? = some u → w.cell? ((⟨g, 0, none⟩ : Addr).add j) = some u := hown.cells (g := g) rfl
   have hr2 := run_append_grow (P := P) w t ty e i z ht hi hz ⟨g, 0, none⟩ n cap xs hown.1 holds a m c news hl hnews (by omega) (by simp only [maxLen] at h63; omega) (growslice_fits (by omega) (by rw [hby]; exact hbytes))
   have e1 := hr.symm.trans hr2
   simp only [Result.ok.injEq] at e1
   obtain ⟨rfl, rfl⟩ := e1
   exact fun b hb => .inr (by simp [Value.ownBlock] at hb; omega)
theorem step_append_own {P : Program} {ops : Array Oper} {o : Oper} {a : Act} {w : World} {K : Act → World → Prop} {Q : Exit → Act → World → Prop} {E : Prop} (hg : o.guard = none) (s x : Operand) (t : TypeId)
  (ho : o.op = .call { callee := .builtin .append, args := #[s, x], argTypes := #[t, t] })
  (base : Nat) (e : TypeId) (i : TypeInfo) (z : Value) (size bytes : Nat) (ht : P.underlying t = some (.slice e)) (hi : P.info? e = some i) (hz : i.zero = some z)
  (hsize : i.size = size) (hby : i.bytes = bytes) (hzs : z.cells.size = size) (hsz : 0 < size)
  (v : Value) (n : Nat) (xs : List Value) (hs : a.eval s = v) (hown : w.ownsRow base e size v n xs)
  (ad : Addr) (m c : Nat) (news : List Value) (hx : a.eval x = .slice (some ad) m c) (hl : news.length = m * size) (hnews : ∀ j u, news[j]? = some u → w.cell? (ad.add j) = some u) (h1 : ∀ u ∈ news, u.oneCell' = true)
  (h63 : n + m ≤ maxLen) (hbytes : (n + m) * bytes ≤ 140737488355328) (hbase : base ≤ w.heap.size)
  (h : ∀ v' w', w'.ownsRow base e size v' (n + m) (xs ++ news) → w.grownBy w' v.ownBlock → (∀ b, v'.ownBlock = some b → v.ownBlock = some b ∨ w.heap.size ≤ b) → K (a.put o.dst v') w') :
  if Region.wanted o (yielded ops a.tmps) = true then Oper.wp P o a w K Q else E := by
 have hw : Region.wanted o (yielded ops a.tmps) = true := by simp [Region.wanted, hg]
 rw [if_pos hw]
 obtain ⟨v', w', hr, h2, h3, h4⟩ := append_fresh (P := P) w base t o.type e i z size bytes ht hi hz hsize hby hzs hsz v n xs hown ad m c news hl hnews h1 h63 hbytes hbase
 unfold Oper.wp execOp
 simp only [ho, resolve, invoke, builtin, Sem.run_bind, Sem.run_pure, Result.andThen_ok, List.map_toArray, List.map_cons, List.map_nil, hs, hx, hr]
 exact h v' w' h2 h3 h4
theorem cells_new (w : World) (c : Array Value) (t : TypeId) (m : Nat × Nat) : ∀ j u, c.toList[j]? = some u → (w.alloc (.cells c t m)).cell? ((⟨w.heap.size, 0, none⟩ : Addr).add j) = some u := by
 intro j u hu
 rw [addr_add, Nat.zero_add, cell?_alloc_mark']
 simpa using hu
end Go.Proofs.YtodckaioeomccaaGreat
namespace Go.Proofs.YtodckaioeomccaaGreat
open Go.RowKit
set_option linter.unusedVariables false
set_option linter.unusedSimpArgs false
theorem val_take_getD (b : Nat) (xs : List Nat) (i : Nat) : val b (xs.take (i + 1)) = val b (xs.take i) + xs.getD i 0 * b ^ i := by
 by_cases h : i < xs.length
 ·have e : xs[i]? = some (xs[i]'h) := List.getElem?_eq_getElem h
  rw [val_take b e, getD_of e]
 ·rw [List.take_of_length_le (by omega), List.take_of_length_le (by omega), List.getD_eq_getElem?_getD, List.getElem?_eq_none (by omega)]
  simp
theorem val_drop_getD (b : Nat) (xs : List Nat) (i : Nat) : val b (xs.drop i) = xs.getD i 0 + b * val b (xs.drop (i + 1)) := by
 by_cases h : i < xs.length
 ·have e : xs[i]? = some (xs[i]'h) := List.getElem?_eq_getElem h
  rw [val_drop b e, getD_of e]
 ·rw [List.drop_of_length_le (by omega), List.drop_of_length_le (by omega), List.getD_eq_getElem?_getD, List.getElem?_eq_none (by omega)]
  simp [val]
theorem val_split' (b : Nat) (xs : List Nat) (i : Nat) : val b xs = val b (xs.take i) + b ^ i * val b (xs.drop i) := by
 by_cases h : i ≤ xs.length
 ·exact val_split b xs i h
 ·rw [List.take_of_length_le (by omega), List.drop_of_length_le (by omega)]; simp [val]
theorem val_set (b : Nat) {xs : List Nat} {i : Nat} (y : Nat) (h : i < xs.length) : val b (xs.set i y) + xs.getD i 0 * b ^ i = val b xs + y * b ^ i := by
 rw [val_split' b (xs.set i y) i, val_split' b xs i, List.take_set_of_le (Nat.le_refl _), val_drop_getD b (xs.set i y) i, val_drop_getD b xs i, List.drop_set_of_lt (by omega)]
 have e : (xs.set i y).getD i 0 = y := by rw [List.getD_eq_getElem?_getD, List.getElem?_set_self h]; rfl
 rw [e, Nat.mul_add, Nat.mul_add, Nat.mul_comm (b ^ i) y, Nat.mul_comm (b ^ i) (xs.getD i 0)]
 omega
theorem val_replicate (b n : Nat) : val b (List.replicate n 0) = 0 := by
 induction n with
 | zero => rfl
 | succ n ih => rw [List.replicate_succ, val, ih]; simp
theorem set_take_succ {α : Type} {xs : List α} {k : Nat} {y : α} (h : k < xs.length) : (xs.set k y).take (k + 1) = xs.take k ++ [y] := by
 rw [List.take_succ_eq_append_getElem (by simpa using h), List.take_set_of_le (Nat.le_refl _)]
 simp
theorem digs_of_len {b : Nat} (hb : 2 ≤ b) {xs : List Nat} (hx : ∀ x ∈ xs, x < b) (h : xs ≠ [] → b ^ (xs.length - 1) ≤ val b xs) : xs = digs b (val b xs) := by
 refine norm_digs hb ⟨hx, fun x hx' h0 => ?_⟩
 subst h0
 have hne : xs ≠ [] := by rintro rfl; cases hx'
 have h1 := h hne
 obtain ⟨ys, rfl⟩ : ∃ ys, xs = ys ++ [0] := by
  obtain ⟨ys, z, rfl⟩ : ∃ ys z, xs = ys ++ [z] := ⟨xs.dropLast, xs.getLast hne, (List.dropLast_concat_getLast hne).symm⟩
  rw [List.getLast?_concat] at hx'
  obtain rfl := Option.some.inj hx'
  exact ⟨ys, rfl⟩
 rw [val_append, val_one, Nat.mul_zero, Nat.add_zero, List.length_append] at h1
 have := val_lt (b := b) (by omega) (xs := ys) fun x hx'' => hx x (List.mem_append_left _ hx'')
 simp at h1
 omega
theorem pow_le_digs {b n : Nat} (hb : 2 ≤ b) (hn : n ≠ 0) : b ^ ((digs b n).length - 1) ≤ n := by
 refine Nat.not_lt.1 fun h => ?_
 have := (len_le_iff hb n _).2 h
 have h2 : (digs b n).length ≠ 0 := fun e => hn ((digs_nil hb).1 (List.length_eq_zero_iff.1 e))
 omega
def dl (n : Nat) : Nat := (digs B64 n).length
theorem dl_add (m n : Nat) : dl (m + n) ≤ max (dl m) (dl n) + 1 := len_add B64_2
theorem dl_mul (m n : Nat) : dl (m * n) ≤ dl m + dl n := len_mul B64_2
theorem dl_mono {m n : Nat} (h : m ≤ n) : dl m ≤ dl n := len_mono B64_2 h
theorem dl_zero : dl 0 = 0 := by unfold dl; rw [digs_zero]; rfl
theorem dl_one : dl 1 = 1 := by unfold dl; rw [digs_one]; rfl
theorem dl_pos {n : Nat} (h : n ≠ 0) : 0 < dl n := by
 rcases Nat.eq_zero_or_pos (dl n) with h0 | h0
 ·exact absurd ((digs_nil B64_2).1 (List.length_eq_zero_iff.1 h0)) h
 ·exact h0
theorem dl_le_iff (n k : Nat) : dl n ≤ k ↔ n < B64 ^ k := len_le_iff B64_2 n k
theorem dl_small {n : Nat} (h : n < B64) : dl n ≤ 1 := (dl_le_iff n 1).2 (by rwa [Nat.pow_one])
theorem digs_getD_lt (n k : Nat) : (digs B64 n).getD k 0 < B64 := by
 by_cases h : k < (digs B64 n).length
 ·have e := List.getElem?_eq_getElem h
  rw [getD_of e]; exact digs_lt B64_2 n _ (List.getElem_mem h)
 ·rw [List.getD_eq_getElem?_getD, List.getElem?_eq_none (by omega)]; unfold B64; simp
def padded (b n k : Nat) : List Nat := (List.range k).map fun i => n / b ^ i % b
theorem padded_length (b n k : Nat) : (padded b n k).length = k := by simp [padded]
theorem padded_succ (b n k : Nat) : padded b n (k + 1) = padded b n k ++ [n / b ^ k % b] := by simp [padded, List.range_succ]
theorem padded_lt {b : Nat} (hb : 2 ≤ b) (n k : Nat) : ∀ x ∈ padded b n k, x < b := by
 intro x hx
 simp only [padded, List.mem_map, List.mem_range] at hx
 obtain ⟨i, _, rfl⟩ := hx
 exact Nat.mod_lt _ (by omega)
theorem val_padded {b : Nat} (hb : 2 ≤ b) (n k : Nat) : val b (padded b n k) = n % b ^ k := by
 induction k with
 | zero => simp [padded, val, Nat.mod_one]
 | succ k ih =>
  rw [padded_succ, val_append, val_one, ih, padded_length, Nat.pow_succ, Nat.mod_mul]
theorem padded_get {b n k i : Nat} (h : i < k) : (padded b n k)[i]? = some (n / b ^ i % b) := by
 simp [padded, h]
theorem digs_get_div {b n i x : Nat} (hb : 2 ≤ b) (h : (digs b n)[i]? = some x) : n / b ^ i % b = x ∧ n / b ^ i = x + b * (n / b ^ (i + 1)) := by
 have h1 : n = val b (digs b n) := (val_digs hb n).symm
 obtain ⟨hi, hx⟩ := List.getElem?_eq_some_iff.1 h
 have hdiv : ∀ j, n / b ^ j = val b ((digs b n).drop j) := fun j => by
  have hs := val_split' b (digs b n) j
  have hl := val_lt (b := b) (by omega) (xs := (digs b n).take j) fun z hz => digs_lt hb n z (List.mem_of_mem_take hz)
  have hl2 : val b ((digs b n).take j) < b ^ j := Nat.lt_of_lt_of_le hl (Nat.pow_le_pow_right (by omega) (by rw [List.length_take]; omega))
  rw [val_digs hb] at hs
  conv => lhs; rw [hs]
  rw [Nat.add_mul_div_left _ _ (Nat.pow_pos (by omega)), Nat.div_eq_of_lt hl2, Nat.zero_add]
 have hxb : x < b := digs_lt hb n x (List.mem_of_getElem? h)
 rw [hdiv i, val_drop b h, ← hdiv (i + 1)]
 exact ⟨by rw [Nat.add_mul_mod_self_left, Nat.mod_eq_of_lt hxb], rfl⟩
theorem digs_div_none {b n i : Nat} (hb : 2 ≤ b) (h : (digs b n).length ≤ i) : n / b ^ i = 0 := Nat.div_eq_of_lt ((len_le_iff hb n i).1 h)
def BlkW (w : World) (g : Nat) (xs : List Nat) : Prop := w.heap[g]? = some (.cells (xs.map u64V).toArray 270 (0, 0))
theorem BlkW.lt {w : World} {g : Nat} {xs : List Nat} (h : BlkW w g xs) : g < w.heap.size := (Array.getElem?_eq_some_iff.1 h).1
theorem BlkW.cell {w : World} {g : Nat} {xs : List Nat} {i x : Nat} (h : BlkW w g xs) (hx : xs[i]? = some x) : w.cell? ⟨g, i, none⟩ = some (.int .u64 (x : Int)) := by
 rw [cell_of_row w g i _ 270 (0, 0) h, List.getElem?_toArray, List.getElem?_map, hx]; rfl
theorem BlkW.frozen {w : World} {g : Nat} {xs : List Nat} (h : BlkW w g xs) (i : Nat) : w.frozen? ⟨g, i, none⟩ = false := frozen_of_row w g i _ 270 h
theorem BlkW.set_ {w : World} {g : Nat} {xs : List Nat} (h : BlkW w g xs) (i y : Nat) : BlkW (w.setCell ⟨g, i, none⟩ (.int .u64 (y : Int))) g (xs.set i y) := by
 have := heap_setCell_same w g i _ 270 (.int .u64 (y : Int)) h
 unfold BlkW
 rw [this]
 congr 1
 rw [List.map_set, List.setIfInBounds_toArray]; rfl
theorem BlkW.far {w : World} {g : Nat} {xs : List Nat} (h : BlkW w g xs) {p : Addr} (hp : g ≠ p.block) (u : Value) : BlkW (w.setCell p u) g xs := (Below.heap_setCell w p u g hp).trans h
theorem BlkW.drew {w : World} {g : Nat} {xs : List Nat} (h : BlkW w g xs) : BlkW w.drew g xs := h
theorem BlkW.below {w w' : World} {g : Nat} {xs : List Nat} (h : BlkW w g xs) (hb : Below w.heap.size w w') : BlkW w' g xs := (hb.block g h.lt).trans h
theorem madeWords (n : Nat) : (madeCells (Value.int .u64 0).cells (n * 1)) = ((List.replicate n 0).map u64V).toArray := by
 rw [Nat.mul_one]
 apply Array.ext'
 have : ∀ x : Nat, x % 1 = 0 := fun x => Nat.mod_one x
 simp [madeCells, Value.cells, u64V, this]
 refine List.ext_getElem (by simp) fun i h1 h2 => by simp
theorem BlkW.new (w : World) (xs : List Nat) : BlkW (w.alloc (.cells (xs.map u64V).toArray 270)) w.heap.size xs := heap_alloc_new w _
theorem BlkW.own {w : World} {g base n : Nat} {xs : List Nat} (h : BlkW w g xs) (hb : base ≤ g) (hn : n ≤ xs.length) (hm : xs.length ≤ maxLen) : w.ownsRow base 270 1 (.slice (some ⟨g, 0, none⟩) n xs.length) n ((xs.take n).map u64V) :=
 ⟨by simp; omega, .inr ⟨g, xs.length, _, rfl, hb, h, by omega, hm, by simp, by simp⟩⟩
theorem BlkW.rd {w : World} {g off n cap : Nat} {xs : List Nat} (h : BlkW w g xs) (hn : off + n ≤ xs.length) (hc : n ≤ cap) (hm : cap ≤ maxLen) : RdW w (.slice (some ⟨g, off, none⟩) n cap) ((xs.drop off).take n) := by
 have hl : ((xs.drop off).take n).length = n := by simp; omega
 refine ⟨some ⟨g, off, none⟩, cap, by rw [hl], by omega, hm, fun _ => ⟨g, off, rfl, trivial, fun i hi => ?_⟩⟩
 rw [hl] at hi
 rw [h.cell (i := off + i) (x := xs[off + i]'(by omega)) (List.getElem?_eq_getElem (by omega))]
 simp [u64V]
theorem BlkW.rd0 {w : World} {g n cap : Nat} {xs : List Nat} (h : BlkW w g xs) (hn : n = xs.length) (hc : n ≤ cap) (hm : cap ≤ maxLen) : RdW w (.slice (some ⟨g, 0, none⟩) n cap) xs := by
 have := h.rd (off := 0) (n := n) (by omega) hc hm
 rwa [List.drop_zero, List.take_of_length_le (by omega)] at this
theorem BlkW.rd0S {w : World} {g n cap B : Nat} {xs : List Nat} (h : BlkW w g xs) (hB : B ≤ g) (hn : n = xs.length) (hc : n ≤ cap) (hm : cap ≤ maxLen) : Rd u64V w (B ≤ ·) (.slice (some ⟨g, 0, none⟩) n cap) xs := by
 refine ⟨some ⟨g, 0, none⟩, cap, by rw [hn], by omega, hm, fun _ => ⟨g, 0, rfl, hB, fun i hi => ?_⟩⟩
 rw [h.cell (i := 0 + i) (x := xs[i]) (by rw [Nat.zero_add]; exact List.getElem?_eq_getElem hi)]; rfl
theorem run_make_rowN {P : Program} (t e : TypeId) (i : TypeInfo) (z : Value) (ht : P.underlying t = some (.slice e)) (hi : P.info? e = some i) (hz : i.zero = some z)
  (kl kc : IntKind) (n c : Nat) (hnc : n ≤ c) (hbytes : i.bytes * c ≤ 281474976710656) (h63 : c ≤ 9223372036854775807) (w : World) :
  (Instr.makeSlice t (.int kl (n : Int)) (.int kc (c : Int))).run P w = .ok (.slice (some ⟨w.heap.size, 0, none⟩) n c) (w.alloc (.cells (madeCells z.cells (c * i.size)) e)) := by
 have hb : (i.bytes : Int) * (c : Int) ≤ 281474976710656 := by
  have h : ((i.bytes * c : Nat) : Int) ≤ 281474976710656 := by omega
  rwa [Int.natCast_mul] at h
 have hr := run_make (P := P) w t e i z ht hi hz kl kc n c (by omega) (by omega) hb (by omega)
 simp only [Int.toNat_natCast] at hr
 exact hr
theorem info118 : (Tryz.prog.info? 270).map (fun i => (i.zero, i.size, i.bytes)) = some (some (.int .u64 0), 1, 8) := by kernel_rfl
theorem make_words (n c : Nat) (hnc : n ≤ c) (hc : c ≤ 4000000) (w : World) :
  (Instr.makeSlice 25 (.int .i64 (n : Int)) (.int .i64 (c : Int))).run Tryz.prog w = .ok (.slice (some ⟨w.heap.size, 0, none⟩) n c) (w.alloc (.cells ((List.replicate c 0).map u64V).toArray 270)) := by
 obtain ⟨i0, hi, hz0, hz1, hz2⟩ := info_parts info118
 rw [run_make_rowN 25 270 i0 (.int .u64 0) Tryz.underlying25 hi hz0 .i64 .i64 n c hnc (by rw [hz2]; omega) (by omega) w, hz1, madeWords]
end Go.Proofs.YtodckaioeomccaaGreat
namespace Go.Proofs.YtodckaioeomccaaGreat
open Go.RowKit
set_option linter.unusedVariables false
set_option linter.unusedSimpArgs false
theorem plus_step {O am bn : List Nat} {k c x y B : Nat} (hk : k < O.length) (hx : am.getD k 0 = x) (hy : bn.getD k 0 = y) (hB : 0 < B)
  (h : val B (O.take k) + c * B ^ k = val B (am.take k) + val B (bn.take k)) :
  val B ((O.set k ((x + y + c) % B)).take (k + 1)) + ((x + y + c) / B) * B ^ (k + 1) = val B (am.take (k + 1)) + val B (bn.take (k + 1)) := by
 rw [set_take_succ hk, val_append, val_one, val_take_getD B am, val_take_getD B bn, hx, hy, List.length_take, Nat.min_eq_left (by omega), Nat.pow_succ]
 have e := Nat.div_add_mod (x + y + c) B
 have e2 : B ^ k * ((x + y + c) % B) + (x + y + c) / B * (B ^ k * B) = (x + y + c) * B ^ k := by
  conv => rhs; rw [← e, Nat.add_mul, Nat.mul_comm ((x + y + c) % B)]
  rw [Nat.add_comm]
  congr 1
  rw [Nat.mul_comm B, Nat.mul_assoc, Nat.mul_comm B]
 have e3 : (x + y + c) * B ^ k = x * B ^ k + y * B ^ k + c * B ^ k := by rw [Nat.add_mul, Nat.add_mul]
 omega
theorem plus_end {p q n c : Nat} {O : List Nat} (hO : O.length = n + 1) (hOx : ∀ x ∈ O, x < B64) (hn : n = dl p) (hq : dl q ≤ n) (hc : c ≤ 1)
  (h : val B64 (O.take n) + c * B64 ^ n = val B64 ((digs B64 p).take n) + val B64 ((digs B64 q).take n)) :
  O.take n ++ (if c = 0 then [] else [c]) = digs B64 (p + q) := by
 unfold dl at hn hq
 rw [List.take_of_length_le (l := digs B64 p) (by omega), List.take_of_length_le (l := digs B64 q) (by omega), val_digs B64_2, val_digs B64_2] at h
 have hv : val B64 (O.take n ++ (if c = 0 then [] else [c])) = p + q := by
  rw [val_append, List.length_take, Nat.min_eq_left (by omega), ← h]
  split
  ·rename_i h0; subst h0; simp [val]
  ·rw [val_one, Nat.mul_comm]
 have := digs_of_len B64_2 (xs := O.take n ++ (if c = 0 then [] else [c])) (fun x hx => by
  rcases List.mem_append.1 hx with h1 | h1
  ·exact hOx x (List.mem_of_mem_take h1)
  ·split at h1
   ·cases h1
   ·rw [List.mem_singleton.1 h1]; unfold B64; omega) (fun hne => by
  rw [hv]
  split
  ·rename_i h0
   rw [List.append_nil, List.length_take, Nat.min_eq_left (by omega)]
   rw [if_pos h0, List.append_nil] at hne
   have hp : p ≠ 0 := by
    rintro rfl
    rw [digs_zero] at hn
    simp at hn; subst hn; simp at hne
   have := pow_le_digs B64_2 hp
   rw [← hn] at this
   omega
  ·rename_i h0
   have hc1 : c = 1 := by omega
   subst hc1
   simp only [List.length_append, List.length_take, List.length_singleton, Nat.min_eq_left (show n ≤ O.length by omega), Nat.add_sub_cancel]
   omega)
 rw [this, hv]
set_option maxRecDepth 100000 in
set_option maxHeartbeats 4000000 in
theorem plus_any (va vb : Value) (m n : Nat) (w : World) (ha : RdN w va m) (hb : RdN w vb n) (hm : dl m ≤ 1000000) (hn : dl n ≤ 1000000) :
  Calls Tryz.prog 228 #[va, vb] w fun e w' => (∃ v', e = .returned v' ∧ RdN w' v' (m + n)) ∧ Below w.heap.size w w' := by
 obtain ⟨i0, hi0, hz0, hz1, hz2⟩ := info_parts info118
 have hmk := make_words
 obtain ⟨P, Q, p, q, hP, hQ, hdl, hpq, hp6, hcase⟩ : ∃ P Q p q, RdN w P p ∧ RdN w Q q ∧ dl q ≤ dl p ∧ p + q = m + n ∧ dl p ≤ 1000000 ∧ ((dl m < dl n ∧ P = vb ∧ Q = va ∧ p = n ∧ q = m) ∨ (¬ dl m < dl n ∧ P = va ∧ Q = vb ∧ p = m ∧ q = n)) := by
  by_cases h : dl m < dl n
  ·exact ⟨vb, va, n, m, hb, ha, by omega, by omega, hn, .inl ⟨h, rfl, rfl, rfl, rfl⟩⟩
  ·exact ⟨va, vb, m, n, ha, hb, by omega, rfl, hm, .inr ⟨h, rfl, rfl, rfl, rfl⟩⟩
 rw [← hpq]
 have hdm : (digs B64 m).length = dl m := rfl
 have hdn : (digs B64 n).length = dl n := rfl
 clear ha hb hpq hm hn
 rcases hcase with ⟨hlt, rfl, rfl, rfl, rfl⟩ | ⟨hlt, rfl, rfl, rfl, rfl⟩
 all_goals
  obtain ⟨A1, k1, c1, rfl, e1, hk1, _, hm1, hc1⟩ := RdW.open_ hP
  obtain ⟨A2, k2, c2, rfl, e2, hk2, _, hm2, hc2⟩ := RdW.open_ hQ
  have hk21 : k2 ≤ k1 := by unfold dl at hdl; omega
  have hk16 : k1 ≤ 1000000 := by unfold dl at hp6; omega
  have HE1 := h0d e1
  have HE2 := h0d e2
  have HC1 := h0d hc1
  have HC2 := h0d hc2
  simp only [dl, e1, e2] at hlt
  have HMK := hmk k1 (k1 + 1) (by omega) (by omega)
  obtain ⟨C0, hC0⟩ : ∃ C, C = ((List.replicate (k1 + 1) 0).map u64V).toArray := ⟨_, rfl⟩
  rw [← hC0, show ((k1 + 1 : Nat) : Int) = (k1 : Int) + 1 by omega] at HMK
  have HB0 : Hid (BlkW (w.alloc (.cells C0 270)) w.heap.size (List.replicate (k1 + 1) 0)) := by rw [hC0]; exact BlkW.new w _
  clear hmk e1 e2 hc1 hc2 hP hQ hdl hp6 hdm hdn hC0
  go_enter Tryz.func228, Tryz.ntmps228
  go_wp2_with fail
  go_loopw [6, 25] (fun cv iv wr => ∃ (k c : Nat) (O : List Nat), k ≤ k1 ∧ c ≤ 1 ∧ cv = .int .u64 (c : Int) ∧ iv = .int .i64 (k : Int) ∧ Hid (O.length = k1 + 1) ∧ Hid (∀ x ∈ O, x < B64) ∧ Hid (BlkW wr w.heap.size O) ∧ Hid (Below w.heap.size w wr) ∧ Hid (val B64 (O.take k) + c * B64 ^ k = val B64 ((digs B64 p).take k) + val B64 ((digs B64 q).take k))) (fun _ iv _ => k1 - (intOf iv).toNat)
  case atStart =>
   refine ⟨0, 0, List.replicate (k1 + 1) 0, Nat.zero_le _, Nat.zero_le _, rfl, rfl, by show _ = _; simp, fun x hx => ?_, HB0, (Below.refl _ w).alloc (Nat.le_refl _) _, by show _ = _; simp [val]⟩
   rw [List.eq_of_mem_replicate hx]; exact Nat.lt_of_lt_of_le (by decide) (Nat.le_of_lt_succ (Nat.lt_succ_of_le B64_2))
  case round =>
   obtain ⟨k, c, O, hk, hc, rfl, rfl, HOL, HOX, HBW, HBEL, HV⟩ := hrel
   by_cases hlk : k < k1
   ·obtain ⟨b1, f1, x, rfl, hb1, hx, hcx⟩ := HC1.out k hlk
    have hxB := digs_lt B64_2 p x (List.mem_of_getElem? hx)
    have hcx' := (HBEL.out.cell (p := ⟨b1, f1 + k, none⟩) hb1).trans hcx
    have hgx := getD_of hx
    obtain ⟨y, hy⟩ : ∃ y, y = (digs B64 q).getD k 0 := ⟨_, rfl⟩
    have hyB : y < B64 := by rw [hy]; exact digs_getD_lt q k
    have hst := plus_step (B := B64) (O := O) (c := c) (by have := HOL.out; omega) hgx hy.symm (by unfold B64; omega) HV.out
    obtain ⟨s, hs⟩ : ∃ s, s = (x + y + c) % B64 := ⟨_, rfl⟩
    obtain ⟨t, ht⟩ : ∃ t, t = (x + y + c) / B64 := ⟨_, rfl⟩
    rw [← hs, ← ht] at hst
    have hAD := add64_eq x y c hc
    rw [← B64_eq, ← hs, ← ht] at hAD
    have ht1 : t ≤ 1 := by rw [ht]; unfold B64 at *; omega
    have hsB : s < B64 := by rw [hs]; exact Nat.mod_lt _ (by unfold B64; omega)
    have hcg := HBW.out.cell (i := k) (x := O.getD k 0) (by rw [List.getD_eq_getElem?_getD, List.getElem?_eq_getElem (by have := HOL.out; omega)]; rfl)
    have hfg := HBW.out.frozen k
    have HBW' : Hid (BlkW (wr.setCell ⟨w.heap.size, k, none⟩ (.int .u64 (s : Int))) w.heap.size (O.set k s)) := HBW.out.set_ k s
    have HBEL' : Hid (Below w.heap.size w (wr.setCell ⟨w.heap.size, k, none⟩ (.int .u64 (s : Int)))) := HBEL.out.setCell (Nat.le_refl _) _
    have HOX' : Hid (∀ x ∈ O.set k s, x < B64) := fun z hz => by
     rcases List.mem_or_eq_of_mem_set hz with h | h
     ·exact HOX.out z h
     ·rw [h]; exact hsB
    have HOL' : Hid ((O.set k s).length = k1 + 1) := by show _ = _; rw [List.length_set]; exact HOL.out
    have HST := h0d hst
    have hk1i : (k : Int) < (k1 : Int) + 1 := by omega
    by_cases hk2' : k < k2
    ·obtain ⟨b2, f2, y', rfl, hb2, hy', hcy⟩ := HC2.out k hk2'
     obtain rfl : y' = y := by rw [hy, getD_of hy']
     have hcy' := (HBEL.out.cell (p := ⟨b2, f2 + k, none⟩) hb2).trans hcy
     clear hx hcx hgx hy hy' hcy hst hs ht hxB hyB hsB hc
     go_wp2_with fail
     go_roundw
     case rel => exact ⟨k + 1, t, O.set k s, by omega, ht1, rfl, by go_num, HOL', HOX', HBW', HBEL', HST⟩
     case measure => simp [intOf]; omega
    ·have hy0 : y = 0 := by
      rw [hy, List.getD_eq_getElem?_getD, List.getElem?_eq_none (by have := HE2.out; omega)]; rfl
     rw [hy0] at hAD
     have hAD' : ∀ W, (callFunc 231 #[.int .u64 (x : Int), .int .u64 0, .int .u64 (c : Int)]).run Tryz.prog W = .ok (.value (.tuple #[.int .u64 (s : Int), .int .u64 (t : Int)])) W := hAD
     clear hx hcx hgx hy hst hs ht hxB hyB hsB hc hAD hy0
     go_wp2_with fail
     go_roundw
     case rel => exact ⟨k + 1, t, O.set k s, by omega, ht1, rfl, by go_num, HOL', HOX', HBW', HBEL', HST⟩
     case measure => simp [intOf]; omega
   ·obtain rfl : k = k1 := by omega
    have HEND := h0d (plus_end HOL.out HOX.out (show k = dl p from HE1.out.symm) (by show (digs B64 q).length ≤ k; rw [HE2.out]; omega) hc HV.out)
    by_cases hc0 : c = 0
    ·have HZ : Hid (O.take k = digs B64 (p + q)) := by
      have := HEND.out
      rwa [if_pos hc0, List.append_nil] at this
     subst hc0
     clear HEND
     go_wp2_with fail
     go_ret
     refine ⟨⟨_, rfl, ?_⟩, HBEL.out⟩
     have := HBW.out.rd (off := 0) (n := k) (cap := k + 1) (by have := HOL.out; omega) (by omega) (by unfold maxLen; omega)
     rw [List.drop_zero, HZ.out] at this
     exact this
    ·have hc1 : c = 1 := by omega
     have HZ : Hid (O.take k ++ [c] = digs B64 (p + q)) := by
      have := HEND.out
      rwa [if_neg hc0] at this
     have hpos : (0 : Int) < (c : Int) := by omega
     have hown := (HBW.out.own (base := w.heap.size) (n := k) (Nat.le_refl _) (by have := HOL.out; omega) (by have := HOL.out; unfold maxLen; omega)).alloc (.cells #[.int .u64 (c : Int)] 270)
     rw [HOL.out] at hown
     have HOWN := h0d hown
     have hxs := HBEL.out.size
     have HBE1 : Hid (Below w.heap.size w (wr.alloc (.cells #[.int .u64 (c : Int)] 270))) := HBEL.out.alloc hxs _
     clear hown hc0 HEND hc hc1
     go_wp2_with (at_builtin; refine wpList_append_own _ rfl _ _ 25 rfl w.heap.size 270 i0 (.int .u64 0) 1 8 Tryz.underlying25 hi0 hz0 hz1 hz2 rfl (by decide) _ k _ rfl HOWN.out ⟨wr.heap.size, 0, none⟩ 1 1 [.int .u64 (c : Int)] rfl rfl (cells_new wr #[.int .u64 (c : Int)] 270 (0, 0)) (fun u hu => by rw [List.mem_singleton.1 hu]; rfl) (by unfold maxLen; omega) (by omega) (by simp; omega) ?_; intro v' w1 hown1 hgrow _)
     go_ret
     have hr := Rd.of_own (f := u64V) (xs := O.take k ++ [c]) (by rw [List.map_append]; exact hown1)
     rw [HZ.out] at hr
     exact ⟨⟨_, rfl, hr.mono (fun _ _ => trivial)⟩, HBE1.out.grown hgrow (by simp; omega) (fun g hg => by simp [Value.ownBlock, Act.eval] at hg; omega)⟩
theorem minus_step {O am bn : List Nat} {k c x y B d e : Nat} (hk : k < O.length) (hx : am.getD k 0 = x) (hy : bn.getD k 0 = y) (hd : d + y + c = x + e * B)
  (h : val B (O.take k) + val B (bn.take k) = val B (am.take k) + c * B ^ k) :
  val B ((O.set k d).take (k + 1)) + val B (bn.take (k + 1)) = val B (am.take (k + 1)) + e * B ^ (k + 1) := by
 rw [set_take_succ hk, val_append, val_one, val_take_getD B am, val_take_getD B bn, hx, hy, List.length_take, Nat.min_eq_left (by omega), Nat.pow_succ]
 have e1 : (d + y + c) * B ^ k = (x + e * B) * B ^ k := by rw [hd]
 rw [Nat.add_mul, Nat.add_mul, Nat.add_mul, Nat.mul_assoc e, Nat.mul_comm B] at e1
 rw [Nat.mul_comm (B ^ k) d]
 omega
theorem minus_end {p q n c : Nat} {O : List Nat} (hO : O.length = n) (hOx : ∀ x ∈ O, x < B64) (hn : n = dl p) (hq : q ≤ p) (hc : c ≤ 1)
  (h : val B64 (O.take n) + val B64 ((digs B64 q).take n) = val B64 ((digs B64 p).take n) + c * B64 ^ n) : val B64 O = p - q := by
 have hq' := dl_mono hq
 unfold dl at hn hq'
 rw [List.take_of_length_le (by omega), List.take_of_length_le (l := digs B64 p) (by omega), List.take_of_length_le (l := digs B64 q) (by omega), val_digs B64_2, val_digs B64_2] at h
 have hl := val_lt (b := B64) (by unfold B64; omega) hOx
 rw [hO] at hl
 have hc0 : c = 0 := by
  rcases Nat.eq_zero_or_pos c with h0 | h0
  ·exact h0
  ·have : c = 1 := by omega
   subst this; omega
 subst hc0
 omega
set_option maxRecDepth 100000 in
set_option maxHeartbeats 4000000 in
theorem minus_any (va vb : Value) (p q : Nat) (w : World) (hP : RdN w va p) (hQ : RdN w vb q) (hqp : q ≤ p) (hp6 : dl p ≤ 1000000) :
  Calls Tryz.prog 229 #[va, vb] w fun e w' => (∃ v', e = .returned v' ∧ RdN w' v' (p - q)) ∧ Below w.heap.size w w' := by
 have hmk := make_words
 have hdl := dl_mono hqp
 obtain ⟨A1, k1, c1, rfl, e1, hk1, _, hm1, hc1⟩ := RdW.open_ hP
 obtain ⟨A2, k2, c2, rfl, e2, hk2, _, hm2, hc2⟩ := RdW.open_ hQ
 have hk21 : k2 ≤ k1 := by unfold dl at hdl; omega
 have hk16 : k1 ≤ 1000000 := by unfold dl at hp6; omega
 have HE1 := h0d e1
 have HE2 := h0d e2
 have HC1 := h0d hc1
 have HC2 := h0d hc2
 have HQP := h0d hqp
 have HMK := hmk k1 k1 (Nat.le_refl _) (by omega)
 obtain ⟨C0, hC0⟩ : ∃ C, C = ((List.replicate k1 0).map u64V).toArray := ⟨_, rfl⟩
 rw [← hC0] at HMK
 have HB0 : Hid (BlkW (w.alloc (.cells C0 270)) w.heap.size (List.replicate k1 0)) := by rw [hC0]; exact BlkW.new w _
 clear hmk e1 e2 hc1 hc2 hP hQ hdl hp6 hC0 hqp
 go_enter Tryz.func229, Tryz.ntmps229
 go_wp2_with fail
 go_loopw [6, 15] (fun cv iv wr => ∃ (k c : Nat) (O : List Nat), k ≤ k1 ∧ c ≤ 1 ∧ cv = .int .u64 (c : Int) ∧ iv = .int .i64 (k : Int) ∧ Hid (O.length = k1) ∧ Hid (∀ x ∈ O, x < B64) ∧ Hid (BlkW wr w.heap.size O) ∧ Hid (Below w.heap.size w wr) ∧ Hid (val B64 (O.take k) + val B64 ((digs B64 q).take k) = val B64 ((digs B64 p).take k) + c * B64 ^ k)) (fun _ iv _ => k1 - (intOf iv).toNat)
 case atStart =>
  refine ⟨0, 0, List.replicate k1 0, Nat.zero_le _, Nat.zero_le _, rfl, rfl, by show _ = _; simp, fun x hx => ?_, HB0, (Below.refl _ w).alloc (Nat.le_refl _) _, by show _ = _; simp [val]⟩
  rw [List.eq_of_mem_replicate hx]; unfold B64; omega
 case round =>
  obtain ⟨k, c, O, hk, hc, rfl, rfl, HOL, HOX, HBW, HBEL, HV⟩ := hrel
  by_cases hlk : k < k1
  ·obtain ⟨b1, f1, x, rfl, hb1, hx, hcx⟩ := HC1.out k hlk
   have hxB := digs_lt B64_2 p x (List.mem_of_getElem? hx)
   have hcx' := (HBEL.out.cell (p := ⟨b1, f1 + k, none⟩) hb1).trans hcx
   have hgx := getD_of hx
   obtain ⟨y, hy⟩ : ∃ y, y = (digs B64 q).getD k 0 := ⟨_, rfl⟩
   have hyB : y < B64 := by rw [hy]; exact digs_getD_lt q k
   obtain ⟨s, hs⟩ : ∃ s, s = (x + B64 - y - c) % B64 := ⟨_, rfl⟩
   obtain ⟨t, ht⟩ : ∃ t, t = (if x < y + c then 1 else 0) := ⟨_, rfl⟩
   have hst := minus_step (B := B64) (O := O) (c := c) (d := s) (e := t) (by have := HOL.out; omega) hgx hy.symm (by
    rw [hs, ht]; unfold B64 at *; split <;> omega) HV.out
   have hAD := sub64_eq x y c hc
   rw [← B64_eq, ← hs, ← ht] at hAD
   have ht1 : t ≤ 1 := by rw [ht]; split <;> omega
   have hsB : s < B64 := by rw [hs]; exact Nat.mod_lt _ (by unfold B64; omega)
   have hcg := HBW.out.cell (i := k) (x := O.getD k 0) (by rw [List.getD_eq_getElem?_getD, List.getElem?_eq_getElem (by have := HOL.out; omega)]; rfl)
   have hfg := HBW.out.frozen k
   have HBW' : Hid (BlkW (wr.setCell ⟨w.heap.size, k, none⟩ (.int .u64 (s : Int))) w.heap.size (O.set k s)) := HBW.out.set_ k s
   have HBEL' : Hid (Below w.heap.size w (wr.setCell ⟨w.heap.size, k, none⟩ (.int .u64 (s : Int)))) := HBEL.out.setCell (Nat.le_refl _) _
   have HOX' : Hid (∀ x ∈ O.set k s, x < B64) := fun z hz => by
    rcases List.mem_or_eq_of_mem_set hz with h | h
    ·exact HOX.out z h
    ·rw [h]; exact hsB
   have HOL' : Hid ((O.set k s).length = k1) := by show _ = _; rw [List.length_set]; exact HOL.out
   have HST := h0d hst
   by_cases hk2' : k < k2
   ·obtain ⟨b2, f2, y', rfl, hb2, hy', hcy⟩ := HC2.out k hk2'
    obtain rfl : y' = y := by rw [hy, getD_of hy']
    have hcy' := (HBEL.out.cell (p := ⟨b2, f2 + k, none⟩) hb2).trans hcy
    clear hx hcx hgx hy hy' hcy hst hs ht hxB hyB hsB hc
    go_wp2_with fail
    go_roundw
    case rel => exact ⟨k + 1, t, O.set k s, by omega, ht1, rfl, by go_num, HOL', HOX', HBW', HBEL', HST⟩
    case measure => simp [intOf]; omega
   ·have hy0 : y = 0 := by
     rw [hy, List.getD_eq_getElem?_getD, List.getElem?_eq_none (by have := HE2.out; omega)]; rfl
    rw [hy0] at hAD
    have hAD' : ∀ W, (callFunc 270 #[.int .u64 (x : Int), .int .u64 0, .int .u64 (c : Int)]).run Tryz.prog W = .ok (.value (.tuple #[.int .u64 (s : Int), .int .u64 (t : Int)])) W := hAD
    clear hx hcx hgx hy hst hs ht hxB hyB hsB hc hAD hy0
    go_wp2_with fail
    go_roundw
    case rel => exact ⟨k + 1, t, O.set k s, by omega, ht1, rfl, by go_num, HOL', HOX', HBW', HBEL', HST⟩
    case measure => simp [intOf]; omega
  ·obtain rfl : k = k1 := by omega
   have HEND := h0d (minus_end HOL.out HOX.out (show k = dl p from HE1.out.symm) HQP.out hc HV.out)
   have HCUT := h0d (cut_num _ O wr (HBW.out.rd0 (n := k) (cap := k) (HOL.out.symm) (Nat.le_refl _) (by unfold maxLen; omega)) HOX.out)
   rw [HEND.out] at HCUT
   clear HEND hc
   go_wp2_with (go_at_call 232; refine HCUT.out.mono ?_; rintro e w2 ⟨⟨v', rfl, hr⟩, rfl⟩; have HR := h0d hr; clear hr)
   go_ret
   exact ⟨⟨_, rfl, HR.out⟩, HBEL.out⟩
end Go.Proofs.YtodckaioeomccaaGreat
