/- Two rows of the call's own that grow side by side in a region that draws its order; slices of structs of k cells. More of two rows that grow side by side: a store beside them, a store into one of them; a copy of a list of ints. What else an append leaves: the kind of the cells of its row. Two rows of fractions that grow side by side. A row of fractions of the reference that grows; rows of fractions, read. -/
import Derived.Test.YtodckaioeomccaaGreatPart09
import Derived.Test.YtodckaioeomccaaGreatPart06
import Derived.Test.YtodckaioeomccaaGreatPart03
import Derived.Test.YtodckaioeomccaaGreatPart02
import Derived.Deep.RegionHeld3
import Derived.Maps.AppendAt
import Derived.Test.YtodckaioeomccaaGreatPart37
namespace Go.Proofs.YtodckaioeomccaaGreat
open Go.RowKit
set_option linter.unusedVariables false
end Go.Proofs.YtodckaioeomccaaGreat
namespace Go.Proofs.YtodckaioeomccaaGreat
open Go.RowKit
set_option linter.unusedVariables false
set_option linter.unusedSimpArgs false
end Go.Proofs.YtodckaioeomccaaGreat
namespace Go.Proofs.YtodckaioeomccaaGreat
open Go.RowKit
set_option linter.unusedVariables false
def OwnAll (R : Value → Prop) (w : World) (v : Value) : Prop := ∀ g, v.ownBlock = some g → ∀ i u, w.cell? ⟨g, i, none⟩ = some u → R u
theorem cells_R {R : Value → Prop} {w : World} {g t : Nat} {m : Nat × Nat} {C : Array Value} (h : w.heap[g]? = some (.cells C t m)) (hR : ∀ u ∈ C, R u) : ∀ i u, w.cell? ⟨g, i, none⟩ = some u → R u := by
 intro i u hu
 have h1 : w.cell? ⟨g, i, none⟩ = C[i]? := by unfold World.cell?; simp only [h]; rfl
 rw [h1] at hu
 exact hR u (Array.mem_of_getElem? hu)
theorem zeroCells_mem {z : Array Value} {n : Nat} {u : Value} (h : u ∈ Builtin.zeroCells z n) : u ∈ z := by
 unfold Builtin.zeroCells at h
 simp at h
 obtain ⟨k, h1, h2⟩ := h
 by_cases h0 : z.size = 0
 ·rw [h0] at h1; omega
 ·rw [← h2]
  have hm : k % z.size < z.size := Nat.mod_lt _ (by omega)
  rw [getElem!_pos z (k % z.size) hm]
  exact Array.getElem_mem hm
theorem append_all {P : Program} {w : World} {R : Value → Prop} {base : Nat} {t ty e : TypeId} {i : TypeInfo} {z : Value} (ht : P.underlying t = some (.slice e)) (hi : P.info? e = some i) (hz : i.zero = some z) (hzs : z.cells.size = i.size)
  {v : Value} {n : Nat} {xs : List Value} (hown : w.ownsRow base e i.size v n xs)
  {a : Addr} {m c : Nat} {news : List Value} (hm : 0 < m) (hl : news.length = m * i.size) (hnews : ∀ j u, news[j]? = some u → w.cell? (a.add j) = some u) (h1 : ∀ u ∈ news, u.oneCell' = true)
  (h63 : n + m ≤ maxLen) (hbytes : (n + m) * i.bytes ≤ 140737488355328)
  (hR : OwnAll R w v) (hN : ∀ u ∈ news, R u) (hZ : ∀ u ∈ z.cells, R u)
  {v' : Value} {w' : World} (hr : (Builtin.append_ #[t, t] ty #[v, .slice (some a) m c]).run P w = .ok v' w') : OwnAll R w' v' := by
 have hsmall : n + m ≤ 9223372036854775807 := by simp only [maxLen] at h63; omega
 have hgr : ∀ (k old : Nat) (W : World), v' = .slice (some ⟨W.heap.size, 0, none⟩) k old → ∀ C, w' = W.drew.alloc (.cells C e) → (∀ u ∈ C, R u) → OwnAll R w' v' := by
  intro k old W e1 C e2 hC g hg
  rw [e1] at hg
  simp only [Value.ownBlock, Option.some.injEq] at hg
  subst hg
  rw [e2]
  exact cells_R (heap_alloc_new W.drew _) hC
 have hxs : ∀ u ∈ xs, R u := by
  intro u hu
  obtain ⟨j, hj, rfl⟩ := List.getElem_of_mem hu
  rcases hown.2 with ⟨_, rfl⟩ | ⟨g, cap, cur, rfl, _, hg, _⟩
  ·have := hown.1; rw [Nat.zero_mul] at this; omega
  ·refine hR g rfl j _ ?_
   have := hown.cells (g := g) rfl j _ (List.getElem?_eq_getElem hj)
   rwa [addr_add, Nat.zero_add] at this
 rcases hown.2 with ⟨rfl, rfl⟩ | ⟨g, cap, cur, rfl, hbg, hg, hnc, hcm, hcs, htake⟩
 ·have hq := run_append_nil (P := P) w t ty e i z ht hi hz a m c news hl hnews hm (by omega) (by have hb := hbytes; simp only [Nat.zero_add] at hb; omega)
  rw [hq] at hr
  simp only [Result.ok.injEq] at hr
  refine hgr _ _ w hr.1.symm _ hr.2.symm (fun u hu => ?_)
  rcases Array.mem_append.1 hu with h | h
  ·exact hN u (by simpa using h)
  ·exact hZ u (zeroCells_mem h)
 ·by_cases hroom : n + m ≤ cap
  ·have hfit : n * i.size + news.length ≤ cur.size := by rw [hl, hcs, ← Nat.add_mul]; exact Nat.mul_le_mul_right _ hroom
   have hq := run_append_room (P := P) w t ty e i ht hi g n cap cur hg a m c news hl hnews h1 hroom hfit
   rw [hq] at hr
   simp only [Result.ok.injEq] at hr
   have hcur : ∀ u ∈ cur, R u := by
    intro u hu
    obtain ⟨j, hj, rfl⟩ := Array.getElem_of_mem hu
    refine hR g rfl j _ ?_
    unfold World.cell?
    simp only [hg]
    exact Array.getElem?_eq_getElem hj
   intro g' hg'
   rw [← hr.1] at hg'
   simp only [Value.ownBlock, Option.some.injEq] at hg'
   subst hg'
   rw [← hr.2]
   refine cells_R (setRow_heap w g cur _ e _ hg) (fun u hu => ?_)
   simp only [List.mem_toArray, List.mem_append] at hu
   rcases hu with (h | h) | h
   ·exact hcur u (by have := List.mem_of_mem_take h; simpa using this)
   ·exact hN u h
   ·exact hcur u (by have := List.mem_of_mem_drop h; simpa using this)
  ·have holds : ∀ j u, xs[j]? = some u → w.cell? ((⟨g, 0, none⟩ : Addr).add j) = some u := hown.cells (g := g) rfl
   have hq := run_append_grow (P := P) w t ty e i z ht hi hz ⟨g, 0, none⟩ n cap xs hown.1 holds a m c news hl hnews (by omega) (by omega) (growslice_fits (by omega) hbytes)
   rw [hq] at hr
   simp only [Result.ok.injEq] at hr
   refine hgr _ _ w hr.1.symm _ hr.2.symm (fun u hu => ?_)
   simp only [Array.mem_append] at hu
   rcases hu with (h | h) | h
   ·exact hxs u (by simpa using h)
   ·exact hN u (by simpa using h)
   ·exact hZ u (zeroCells_mem h)
end Go.Proofs.YtodckaioeomccaaGreat
namespace Go.Proofs.YtodckaioeomccaaGreat
open Go.RowKit
set_option linter.unusedVariables false
def NI (u : Value) : Prop := ∀ k z, u ≠ .int k z
theorem Rd.grown {α : Type} {f : α → Value} {w w' : World} {S : Nat → Prop} {v : Value} {xs : List α} {row : Option Nat} (h : Rd f w S v xs) (hf : ∀ x, ¬ NI (f x)) (hg : w.grownBy w' row) (hr : ∀ g, row = some g → ∀ i u, w.cell? ⟨g, i, none⟩ = some u → NI u) : Rd f w' S v xs := by
 obtain ⟨A, cap, rfl, h1, h2, h3⟩ := h
 refine ⟨A, cap, rfl, h1, h2, fun hn => ?_⟩
 obtain ⟨b, off, rfl, hb, hc⟩ := h3 hn
 refine ⟨b, off, rfl, hb, fun i hi => ?_⟩
 have hci := hc i hi
 have hlt : b < w.heap.size := World.block_lt_of_cell? w ⟨b, _, none⟩ hci
 have hne : some b ≠ row := fun e => hf _ (hr b e.symm _ _ hci)
 rw [World.cell?_of_block (w := w) (a := ⟨b, off + i, none⟩) (hg.block b hlt hne)]
 exact hci
theorem RdF.grown {w w' : World} {v : Value} {x : Rat} {row : Option Nat} (h : RdF w v x) (hg : w.grownBy w' row) (hr : ∀ g, row = some g → ∀ i u, w.cell? ⟨g, i, none⟩ = some u → NI u) : RdF w' v x :=
 let ⟨a, b, e, h1, h2⟩ := h; ⟨a, b, e, Rd.grown h1 (fun _ h => h _ _ rfl) hg hr, Rd.grown h2 (fun _ h => h _ _ rfl) hg hr⟩
theorem OwnAll.grown {R : Value → Prop} {w w' : World} {v : Value} {row : Option Nat} (h : OwnAll R w v) (hg : w.grownBy w' row) (hl : ∀ g, v.ownBlock = some g → g < w.heap.size ∧ row ≠ some g) : OwnAll R w' v := by
 intro g hv i u hu
 obtain ⟨h1, h2⟩ := hl g hv
 rw [World.cell?_of_block (w := w) (a := ⟨g, i, none⟩) (hg.block g h1 (fun e => h2 e.symm))] at hu
 exact h g hv i u hu
theorem OwnAll.below {R : Value → Prop} {w w' : World} {v : Value} (h : OwnAll R w v) (hb : Below w.heap.size w w') (hl : ∀ g, v.ownBlock = some g → g < w.heap.size) : OwnAll R w' v :=
 h.grown (row := none) ⟨hb.os, hb.tape, hb.output, hb.size, fun k hk _ => hb.block k hk⟩ (fun g hv => ⟨hl g hv, by simp⟩)
theorem own_nil (R : Value → Prop) (w : World) : OwnAll R w (.slice none 0 0) := fun g hg => by simp [Value.ownBlock] at hg
theorem snoc_all {α β : Type} {xs : List α} {ys : List β} {P : α → β → Prop} (hl : xs.length = ys.length) (h : ∀ (i : Nat) x y, xs[i]? = some x → ys[i]? = some y → P x y) {x : α} {y : β} (hxy : P x y) :
  ∀ (i : Nat) x' y', (xs ++ [x])[i]? = some x' → (ys ++ [y])[i]? = some y' → P x' y' := by
 intro i x' y' h1 h2
 by_cases hi : i < xs.length
 ·rw [List.getElem?_append_left hi] at h1
  rw [List.getElem?_append_left (by omega)] at h2
  exact h i x' y' h1 h2
 ·rw [List.getElem?_append_right (by omega)] at h1
  rw [List.getElem?_append_right (by omega), ← hl] at h2
  by_cases h0 : i - xs.length = 0
  ·rw [h0] at h1 h2
   simp at h1 h2
   rw [← h1, ← h2]; exact hxy
  ·rw [List.getElem?_eq_none (by simp; omega)] at h1; cases h1
def ratC (c : Bool × Value × Value) : List Value := [.bool c.1, c.2.1, c.2.2]
theorem ratC_len (c : Bool × Value × Value) : (ratC c).length = 3 := rfl
theorem ratC_0 (c : Bool × Value × Value) : ∃ u, (ratC c)[0]? = some u := ⟨_, rfl⟩
def aggC (c : Bool × Value × Value) : Value := .agg #[.bool c.1, c.2.1, c.2.2]
def RdRow (R : World → Value → Rat → Prop) (w : World) (v : Value) (qs : List Rat) : Prop :=
 ∃ cs, RdK 3 ratC w (fun _ => True) v cs ∧ cs.length = qs.length ∧ ∀ (i : Nat) c q, cs[i]? = some c → qs[i]? = some q → R w (aggC c) q
theorem RdRow.below {R : World → Value → Rat → Prop} (hR : ∀ w w' v q, R w v q → Below w.heap.size w w' → R w' v q) {w w' : World} {v : Value} {qs : List Rat} (h : RdRow R w v qs) (hb : Below w.heap.size w w') : RdRow R w' v qs :=
 let ⟨cs, h1, h2, h3⟩ := h; ⟨cs, h1.below ratC_0 hb, h2, fun i c q hc hq => hR _ _ _ _ (h3 i c q hc hq) hb⟩
theorem RdRow.at {R : World → Value → Rat → Prop} {w : World} {v : Value} {qs : List Rat} (h : RdRow R w v qs) : ∃ A cap, v = .slice A qs.length cap ∧ qs.length ≤ 9223372036854775807 ∧
  ∀ k q, qs[k]? = some q → ∃ b off g s t, A = some ⟨b, off, none⟩ ∧ b < w.heap.size ∧ w.cell? ⟨b, off + k * 3, none⟩ = some (.bool g) ∧ w.cell? ⟨b, off + k * 3 + 1, none⟩ = some s ∧ w.cell? ⟨b, off + k * 3 + 2, none⟩ = some t ∧ R w (.agg #[.bool g, s, t]) q := by
 obtain ⟨cs, ⟨A, cap, rfl, h1, h2, h3⟩, hl, hr⟩ := h
 refine ⟨A, cap, by rw [hl], by unfold maxLen at h2; omega, fun k q hq => ?_⟩
 have hk : k < cs.length := by rw [hl]; exact (List.getElem?_eq_some_iff.1 hq).1
 have hc : cs[k]? = some cs[k] := List.getElem?_eq_getElem hk
 obtain ⟨b, off, rfl, -, hcell⟩ := h3 (fun e => by rw [e] at hk; exact absurd hk (Nat.not_lt_zero _))
 have h0 := hcell k _ hc 0 _ rfl
 exact ⟨b, off, cs[k].1, cs[k].2.1, cs[k].2.2, rfl, World.block_lt_of_cell? w ⟨b, _, none⟩ h0, h0, hcell k _ hc 1 _ rfl, hcell k _ hc 2 _ rfl, hr k _ q hc hq⟩
theorem infoF : (Tryz.prog.info? 40).map (fun i => (i.zero, i.size, i.bytes)) = some (some (.agg #[.bool false, .slice none 0 0, .slice none 0 0]), 3, 56) := by kernel_rfl
structure OneF (B : Nat) (v : Value) (qs : List Rat) (W0 W : World) (ds : List (Bool × Value × Value)) : Prop where
 o : W.ownsRow B 40 3 v qs.length (ds.flatMap ratC)
 l : ds.length = qs.length
 r : ∀ (i : Nat) c q, ds[i]? = some c → qs[i]? = some q → RdF W (aggC c) q
 a : OwnAll NI W v
 bel : Below B W0 W
 hB : B ≤ W.heap.size
theorem OneF.start {B : Nat} {W : World} (h : B ≤ W.heap.size) : OneF B (.slice none 0 0) [] W W [] :=
 ⟨World.ownsRow_nil _ _ _ _, rfl, fun i c q h => by simp at h, own_nil _ _, Below.refl _ _, h⟩
theorem OneF.grow {B : Nat} {v : Value} {qs : List Rat} {W0 W W' : World} {ds : List (Bool × Value × Value)} (h : OneF B v qs W0 W ds) (hb : Below W.heap.size W W') : OneF B v qs W0 W' ds :=
 have hg : W.grownBy W' none := ⟨hb.os, hb.tape, hb.output, hb.size, fun k hk _ => hb.block k hk⟩
 ⟨h.o.kept hg (Classical.em _), h.l, fun i c q h1 h2 => (h.r i c q h1 h2).below hb, h.a.below hb (fun g hg => (h.o.lt g hg).2), h.bel.trans (hb.mono h.hB), by have := h.hB; have := hb.size; omega⟩
theorem OneF.rd {B : Nat} {v : Value} {qs : List Rat} {W0 W : World} {ds : List (Bool × Value × Value)} (h : OneF B v qs W0 W ds) : RdRow RdF W v qs :=
 ⟨ds, (RdK.of_own ratC_len h.o h.l).mono fun _ _ => trivial, h.l, h.r⟩
theorem wpList_pushF {ops : Array Oper} {rest : List Oper} {o : Oper} {a : Act} {w : World} {Q : Exit → Act → World → Prop} {B : Nat} {v : Value} {qs : List Rat} {W0 : World} (hg : o.guard = none) (s x : Operand)
  (ho : o.op = .call { callee := .builtin .append, args := #[s, x], argTypes := #[111, 111] }) (hs : a.eval s = v) (bx c : Nat) (g : Bool) (p r : Value) (tb : TypeId) (hx : a.eval x = .slice (some ⟨bx, 0, none⟩) 1 c)
  {q : Rat} {n : Nat} (hn : qs.length = n) (hl : n ≤ 1000) (hp1 : NI p ∧ p.oneCell' = true) (hr1 : NI r ∧ r.oneCell' = true)
  (hT : ∃ ds, OneF B v qs W0 w ds) (hbx : w.heap[bx]? = some (.cells #[.bool g, p, r] tb (0, 0))) (hq : RdF w (.agg #[.bool g, p, r]) q)
  (h : ∀ A c w', (∃ ds, OneF B (.slice A (n + 1) c) (qs ++ [q]) W0 w' ds) → wpList Tryz.prog ops Q rest (a.put o.dst (.slice A (n + 1) c)) w') : wpList Tryz.prog ops Q (o :: rest) a w := by
 subst hn
 refine wpList_plain hg fun K hK => ?_
 obtain ⟨ds, hT⟩ := hT
 obtain ⟨i0, hi0, hz0, hz1, hz2⟩ := info_parts infoF
 have hnews : ∀ j u, ([.bool g, p, r] : List Value)[j]? = some u → w.cell? ((⟨bx, 0, none⟩ : Addr).add j) = some u := fun j u hu => by
  rw [addr_add, Nat.zero_add]
  have := cell_of_row w bx j _ _ _ hbx
  rw [this]
  simpa using hu
 have h1 : ∀ u ∈ ([.bool g, p, r] : List Value), u.oneCell' = true := by
  intro u hu
  simp only [List.mem_cons, List.not_mem_nil, or_false] at hu
  rcases hu with rfl | rfl | rfl
  ·rfl
  ·exact hp1.2
  ·exact hr1.2
 have hN : ∀ u ∈ ([.bool g, p, r] : List Value), NI u := by
  intro u hu
  simp only [List.mem_cons, List.not_mem_nil, or_false] at hu
  rcases hu with rfl | rfl | rfl
  ·intro k z e; cases e
  ·exact hp1.1
  ·exact hr1.1
 have hzc : (Value.agg #[.bool false, .slice none 0 0, .slice none 0 0]).cells.size = i0.size := by rw [hz1]; rfl
 have hb1 : (qs.length + 1) * i0.bytes ≤ 140737488355328 := by rw [hz2]; omega
 obtain ⟨v', w', hr, h2, h3, h4⟩ := append_fresh (P := Tryz.prog) w B 111 o.type 40 i0 _ i0.size i0.bytes Tryz.underlying111 hi0 hz0 rfl rfl hzc (by rw [hz1]; decide) v qs.length _ (by rw [hz1]; exact hT.o) ⟨bx, 0, none⟩ 1 c [.bool g, p, r] (by rw [hz1]; rfl) hnews h1 (by unfold maxLen; omega) hb1 hT.hB
 have hA := append_all (P := Tryz.prog) (R := NI) Tryz.underlying111 hi0 hz0 hzc (by rw [hz1]; exact hT.o) (by omega) (by rw [hz1]; rfl) hnews h1 (by unfold maxLen; omega) hb1 hT.a hN (by intro u hu k z e; subst e; simp [Value.cells] at hu) hr
 rw [hz1] at h2
 obtain ⟨A', c', rfl⟩ := ownsRow_slice h2
 have hgr := fun g hg => hT.a g hg
 unfold Oper.wp execOp
 simp only [ho, resolve, invoke, builtin, Sem.run_bind, Sem.run_pure, Result.andThen_ok, List.map_toArray, List.map_cons, List.map_nil, hs, hx, hr]
 refine hK _ _ (h A' c' w' ⟨ds ++ [(g, p, r)], ?_⟩)
 exact ⟨by rw [List.flatMap_append, List.length_append]; exact h2, by simp [hT.l], snoc_all hT.l (fun i c' q' h1 h2 => (hT.r i c' q' h1 h2).grown h3 hgr) (hq.grown h3 hgr), hA, hT.bel.grown h3 hT.hB (fun k hk => (hT.o.lt k hk).1), by have := hT.hB; have := h3.size; omega⟩
end Go.Proofs.YtodckaioeomccaaGreat
