/- Drawn regions in which memory is laid in several orders: what is known whatever the order. -/
import Derived.Test.YtfondpakbiagjaaGreatDoorHKit
import Derived.Test.YtfondpakbiagjaaGreatDoorAppend
import Derived.Test.YtfondpakbiagjaaGreatDoorAppendRd
import Derived.Test.YtfondpakbiagjaaGreatDoorClone
import Derived.WalkSmall
namespace Go.Proofs.YtfondpakbiagjaaGreatDoor
open Go.RowKit
set_option linter.unusedVariables false
theorem op_append_own {P : Program} {o : Oper} {a : Act} {w : World} {K : Act → World → Prop} {Q : Exit → Act → World → Prop} (hg : o.guard = none) (s x : Operand) (t : TypeId)
    (ho : o.op = .call { callee := .builtin .append, args := #[s, x], argTypes := #[t, t] })
    (base : Nat) (e : TypeId) (i : TypeInfo) (z : Value) (size bytes : Nat) (ht : P.underlying t = some (.slice e)) (hi : P.info? e = some i) (hz : i.zero = some z)
    (hsize : i.size = size) (hby : i.bytes = bytes) (hzs : z.cells.size = size) (hsz : 0 < size)
    (v : Value) (n : Nat) (xs : List Value) (hs : a.eval s = v) (hown : w.ownsRow base e size v n xs)
    (ad : Addr) (m c : Nat) (news : List Value) (hx : a.eval x = .slice (some ad) m c) (hl : news.length = m * size) (hnews : ∀ j u, news[j]? = some u → w.cell? (ad.add j) = some u) (h1 : ∀ u ∈ news, u.oneCell' = true)
    (h63 : n + m ≤ maxLen) (hbytes : (n + m) * bytes ≤ 140737488355328) (hbase : base ≤ w.heap.size)
    (h : ∀ v' w', w'.ownsRow base e size v' (n + m) (xs ++ news) → w.grownBy w' v.ownBlock → (∀ b, v'.ownBlock = some b → v.ownBlock = some b ∨ w.heap.size ≤ b) → K (a.put o.dst v') w') :
    Oper.wp P o a w K Q := by
  have hw : Region.wanted o (yielded #[] a.tmps) = true := by simp [Region.wanted, hg]
  have := step_append_own (ops := #[]) (K := K) (Q := Q) (E := True) hg s x t ho base e i z size bytes ht hi hz hsize hby hzs hsz v n xs hs hown ad m c news hx hl hnews h1 h63 hbytes hbase h
  rwa [if_pos hw] at this
/-- Since wa: a row of one's own (or none yet), and blocks apart from it. -/
structure Fr (wa W : World) (e : TypeId) (k : Nat) (va : Option (Value × Nat × List Value)) (bl : List (Nat × Obj)) : Prop where
  bel : Below wa.heap.size wa W
  row : ∀ v n cs, va = some (v, n, cs) → W.ownsRow wa.heap.size e k v n cs
  blk : ∀ g o, (g, o) ∈ bl → wa.heap.size ≤ g ∧ W.heap[g]? = some o ∧ ∀ v n cs, va = some (v, n, cs) → v.ownBlock ≠ some g
theorem Fr.start (wa : World) (e : TypeId) (k : Nat) : Fr wa wa e k none [] := ⟨Below.refl _ _, (fun _ _ _ h => by cases h), (fun _ _ h => by cases h)⟩
theorem Fr.grow {wa W W' : World} {e : TypeId} {k : Nat} {va : Option (Value × Nat × List Value)} {bl : List (Nat × Obj)} (h : Fr wa W e k va bl) (hb : Below W.heap.size W W') : Fr wa W' e k va bl :=
  ⟨h.bel.trans (hb.mono h.bel.size), fun v n cs hv => World.ownsRow.kept (row := none) (h.row v n cs hv) ⟨hb.os, hb.tape, hb.output, hb.size, fun j hj _ => hb.block j hj⟩ (by cases v.ownBlock <;> simp),
    fun g o hm => let ⟨h1, h2, h3⟩ := h.blk g o hm; ⟨h1, blk_below h2 hb, h3⟩⟩
theorem Fr.lay {wa W : World} {e : TypeId} {k : Nat} {va : Option (Value × Nat × List Value)} {bl : List (Nat × Obj)} (h : Fr wa W e k va bl) (o : Obj) : Fr wa (W.alloc o) e k va ((W.heap.size, o) :: bl) := by
  have h' := h.grow ((Below.refl _ W).alloc (Nat.le_refl _) o)
  refine ⟨h'.bel, h'.row, fun g o' hm => ?_⟩
  rcases List.mem_cons.1 hm with e | hm
  · simp only [Prod.mk.injEq] at e
    obtain ⟨rfl, rfl⟩ := e
    refine ⟨h.bel.size, heap_alloc_new W _, fun v n cs hv hq => ?_⟩
    have := (World.ownsRow.lt (h.row v n cs hv) _ hq).2; omega
  · exact h'.blk g o' hm
theorem Fr.born {wa W : World} {e : TypeId} {k : Nat} {bl : List (Nat × Obj)} (h : Fr wa W e k none bl) : Fr wa (W.alloc (.cells #[] e)) e k (some (.slice (some ⟨W.heap.size, 0, none⟩) 0 0, 0, [])) bl := by
  have h' := h.grow ((Below.refl _ W).alloc (Nat.le_refl _) (.cells #[] e))
  refine ⟨h'.bel, fun v n cs hv => ?_, fun g o hm => ?_⟩
  · simp only [Option.some.injEq, Prod.mk.injEq] at hv
    obtain ⟨rfl, rfl, rfl⟩ := hv
    exact ⟨by simp, .inr ⟨W.heap.size, 0, #[], rfl, h.bel.size, heap_alloc_new W _, Nat.le_refl _, by unfold maxLen; omega, by simp, by simp⟩⟩
  · obtain ⟨h1, h2, _⟩ := h'.blk g o hm
    refine ⟨h1, h2, fun v n cs hv hq => ?_⟩
    simp only [Option.some.injEq, Prod.mk.injEq] at hv
    obtain ⟨rfl, rfl, rfl⟩ := hv
    have := blk_lt (h.blk g o hm).2.1
    simp [Value.ownBlock] at hq
    omega
theorem Fr.app {wa W W' : World} {e : TypeId} {k n n' : Nat} {v v' : Value} {cs cs' : List Value} {bl : List (Nat × Obj)} (h : Fr wa W e k (some (v, n, cs)) bl) (ho : W'.ownsRow wa.heap.size e k v' n' cs') (hg : W.grownBy W' v.ownBlock)
    (hf : ∀ b, v'.ownBlock = some b → v.ownBlock = some b ∨ W.heap.size ≤ b) : Fr wa W' e k (some (v', n', cs')) bl := by
  refine ⟨h.bel.grown hg h.bel.size (fun g hg' => (World.ownsRow.lt (h.row v n cs rfl) g hg').1), fun _ _ _ hv => ?_, fun g o hm => ?_⟩
  · simp only [Option.some.injEq, Prod.mk.injEq] at hv
    obtain ⟨rfl, rfl, rfl⟩ := hv
    exact ho
  · obtain ⟨h1, h2, h3⟩ := h.blk g o hm
    refine ⟨h1, (hg.block g (blk_lt h2) (fun e => h3 v n cs rfl e.symm)).trans h2, fun _ _ _ hv hq => ?_⟩
    simp only [Option.some.injEq, Prod.mk.injEq] at hv
    obtain ⟨rfl, rfl, rfl⟩ := hv
    rcases hf g hq with h4 | h4
    · exact h3 v n cs rfl h4
    · have := blk_lt h2; omega
section
variable {P : Program} {ops : Array Oper} {Q : Exit → Act → World → Prop} {S : World → Prop} {rest : List (Nat × Oper)} {a b : Act} {wa W : World} {e : TypeId} {k : Nat} {bl : List (Nat × Obj)} {K : Act → World → Prop}
theorem ckL {va : Option (Value × Nat × List Value)} {o : Obj} (hK : Shut (∀ a w, S w → Seq P ops Q S rest a w → K a w)) (hG : Hid (Fr wa W e k va bl)) (hS : ∀ W', Below wa.heap.size wa W' → S W')
    (hb : a = b := by first | (simp only [Act.put, List.setIfInBounds_toArray, List.set_cons_zero, List.set_cons_succ]; rfl) | rfl)
    (h : ∀ W', Below W.heap.size W W' → Hid (Fr wa W' e k va ((W.heap.size, o) :: bl)) → Seq P ops Q S rest b W') : K a (W.alloc o) := by
  subst hb
  have h1 := hG.out.lay o
  exact hK.out a _ (hS _ h1.bel) (h _ ((Below.refl _ W).alloc (Nat.le_refl _) o) h1)
theorem ckB (hK : Shut (∀ a w, S w → Seq P ops Q S rest a w → K a w)) (hG : Hid (Fr wa W e k none bl)) (hS : ∀ W', Below wa.heap.size wa W' → S W')
    (hb : a = b := by first | (simp only [Act.put, List.setIfInBounds_toArray, List.set_cons_zero, List.set_cons_succ]; rfl) | rfl)
    (h : ∀ W', Below W.heap.size W W' → Hid (Fr wa W' e k (some (.slice (some ⟨W.heap.size, 0, none⟩) 0 0, 0, [])) bl) → Seq P ops Q S rest b W') : K a (W.alloc (.cells #[] e)) := by
  subst hb
  have h1 := hG.out.born
  exact hK.out a _ (hS _ h1.bel) (h _ ((Below.refl _ W).alloc (Nat.le_refl _) _) h1)
theorem ckC {va : Option (Value × Nat × List Value)} {W' : World} (hK : Shut (∀ a w, S w → Seq P ops Q S rest a w → K a w)) (hG : Hid (Fr wa W e k va bl)) (hS : ∀ W', Below wa.heap.size wa W' → S W') (hj : Below W.heap.size W W')
    (hb : a = b := by first | (simp only [Act.put, List.setIfInBounds_toArray, List.set_cons_zero, List.set_cons_succ]; rfl) | rfl)
    (h : Hid (Fr wa W' e k va bl) → Seq P ops Q S rest b W') : K a W' := by
  subst hb
  have h1 := hG.out.grow hj
  exact hK.out a _ (hS _ h1.bel) (h h1)
/-- The row grows by what lies at ad. -/
theorem opA {o : Oper} {v : Value} {n : Nat} {cs : List Value} {i0 : TypeInfo} {z : Value} {bytes : Nat} (hK : Shut (∀ a w, S w → Seq P ops Q S rest a w → K a w)) (hG : Hid (Fr wa W e k (some (v, n, cs)) bl)) (hS : ∀ W', Below wa.heap.size wa W' → S W')
    (t : TypeId) (ht : P.underlying t = some (.slice e)) (hi : P.info? e = some i0) (hz : i0.zero = some z) (hsz : i0.size = k) (hby : i0.bytes = bytes) (hzs : z.cells.size = k) (hk0 : 0 < k) (hbb : bytes ≤ 1000)
    (ad : Addr) (m c : Nat) (news : List Value) (hl : news.length = m * k) (hnews : ∀ j u, news[j]? = some u → W.cell? (ad.add j) = some u) (h1 : ∀ u ∈ news, u.oneCell' = true) (hn : n + m ≤ 100000)
    (s x : Operand) (hg : o.guard = none := by rfl) (ho : o.op = .call { callee := .builtin .append, args := #[s, x], argTypes := #[t, t] } := by rfl) (hs : a.eval s = v := by rfl) (hx : a.eval x = .slice (some ad) m c := by rfl)
    (h : ∀ A c' W', Hid (Fr wa W' e k (some (.slice A (n + m) c', n + m, cs ++ news)) bl) → Seq P ops Q S rest (a.put o.dst (.slice A (n + m) c')) W') : Oper.wp P o a W K Q := by
  refine op_append_own hg s x t ho wa.heap.size e i0 z k bytes ht hi hz hsz hby hzs hk0 v n cs hs (hG.out.row v n cs rfl) ad m c news hx hl hnews h1 (by unfold maxLen; omega) ?_ hG.out.bel.size ?_
  · have : (n + m) * bytes ≤ 100000 * 1000 := Nat.mul_le_mul hn hbb
    omega
  · intro v' W' hown hgr hfr
    obtain ⟨A, c', rfl⟩ := ownsRow_slice hown
    have h2 := hG.out.app hown hgr hfr
    exact hK.out _ _ (hS _ h2.bel) (h A c' W' h2)
/-- A load of many cells, by the range that S gives. -/
theorem tkM {i : Nat} {o : Oper} {w : World} (ty : TypeId) (x : Operand) (bk of : Nat) (cs : List Value) (d : TypeDesc) (hS : ∀ w, S w → w.rangeAt bk of cs) (hu : P.underlying ty = some d) (hd : d.isRow = true) (hi : (P.info? ty).map (·.size) = some cs.length)
    (ho : o.op = .load ty x := by rfl) (hx : a.eval x = .pointer (some ⟨bk, of, none⟩) := by rfl) (hw : Region.wanted o (yielded ops a.tmps) = true := by rfl) (hQ : ∀ c a w, Q (.panic c) (a.put o.dst (.agg cs.toArray)) w → Q (.panic c) a w := by exact fun _ _ _ h => h) (hok : okTake ops (i, o) rest = true := by kernel_rfl)
    (hb : a.put o.dst (.agg cs.toArray) = b := by first | (simp only [Act.put, List.setIfInBounds_toArray, List.set_cons_zero, List.set_cons_succ]; rfl) | rfl) (h : Seq P ops Q S rest b w) : Seq P ops Q S ((i, o) :: rest) a w := by
  subst hb
  exact seq_yield hQ hok (yieldsIf_load_mid hw ty x ho bk of hx cs d hS hu hd hi) h
end
def intV (z : Int) : Value := .int .i64 z
/-- One more place: ints of the row. -/
theorem opI {P : Program} {ops : Array Oper} {Q : Exit → Act → World → Prop} {S : World → Prop} {rest : List (Nat × Oper)} {a : Act} {wa W : World} {bl : List (Nat × Obj)} {K : Act → World → Prop} {o : Oper} {v : Value} {n : Nat} {cs : List Value}
    (hP : P = Tryz.prog) (hK : Shut (∀ a w, S w → Seq P ops Q S rest a w → K a w)) (hG : Hid (Fr wa W 3 1 (some (v, n, cs)) bl)) (hS : ∀ W', Below wa.heap.size wa W' → S W')
    (ad : Addr) (m c : Nat) (news : List Int) (hl : news.length = m) (hnews : ∀ j u, (news.map intV)[j]? = some u → W.cell? (ad.add j) = some u) (nn : Nat) (hnn : n + m = nn) (hn : nn ≤ 100000)
    (s x : Operand) (hg : o.guard = none := by rfl) (ho : o.op = .call { callee := .builtin .append, args := #[s, x], argTypes := #[31, 31] } := by rfl) (hs : a.eval s = v := by rfl) (hx : a.eval x = .slice (some ad) m c := by rfl)
    (h : ∀ A c' W', Hid (Fr wa W' 3 1 (some (.slice A nn c', nn, cs ++ news.map intV)) bl) → Seq P ops Q S rest (a.put o.dst (.slice A nn c')) W') : Oper.wp P o a W K Q := by
  subst hP hnn
  obtain ⟨i0, hi0, hz0, hz1, hz2⟩ := info_parts info3
  exact opA hK hG hS 31 Tryz.underlying31 hi0 hz0 hz1 hz2 rfl (by decide) (by decide) ad m c (news.map intV) (by simp [hl]) hnews (fun u hu => by obtain ⟨z, _, rfl⟩ := List.mem_map.1 hu; rfl) hn s x hg ho hs hx h
theorem blk_one {w : World} {g : Nat} {p : Int} (h : w.heap[g]? = some (.cells #[.int .i64 p] 3 (0, 0))) (j : Nat) (u : Value) (hu : ([p].map intV)[j]? = some u) : w.cell? ((⟨g, 0, none⟩ : Addr).add j) = some u := by
  rw [addr_add, Nat.zero_add, blk_cell h]
  cases j with
  | zero => exact hu
  | succ j => simp at hu
end Go.Proofs.YtfondpakbiagjaaGreatDoor
