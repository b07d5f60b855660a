/- Two rows of the call's own that grow side by side in a region that draws its order; slices of structs of k cells. -/
import Derived.Test.YtogccnngdfancaaAppend
import Derived.Test.YtogccnngdfancaaClone
import Derived.Test.YtogccnngdfancaaSeqB
import Derived.Test.YtogccnngdfancaaRun
import Derived.Deep.RegionHeld3
namespace Go.Proofs.Ytogccnngdfancaa
open Go.RowKit
set_option linter.unusedVariables false

/-- Two rows of the call's own, and blocks that neither is. -/
structure TwoO (B : Nat) (e1 e2 : TypeId) (K1 K2 : Nat) (v1 : Value) (n1 : Nat) (c1 : List Value) (v2 : Value) (n2 : Nat) (c2 : List Value) (P : Nat → Obj → Prop) (W0 W : World) : Prop where
  a : W.ownsRow B e1 K1 v1 n1 c1
  b : W.ownsRow B e2 K2 v2 n2 c2
  ne : ∀ k, v1.ownBlock = some k → v2.ownBlock ≠ some k
  pr : ∀ k o, P k o → W.heap[k]? = some o ∧ v1.ownBlock ≠ some k ∧ v2.ownBlock ≠ some k
  bel : Below B W0 W
  hB : B ≤ W.heap.size
theorem TwoO.grow {B : Nat} {e1 e2 : TypeId} {K1 K2 : Nat} {v1 : Value} {n1 : Nat} {c1 : List Value} {v2 : Value} {n2 : Nat} {c2 : List Value} {P : Nat → Obj → Prop} {W0 W W' : World} (h : TwoO B e1 e2 K1 K2 v1 n1 c1 v2 n2 c2 P W0 W)
    (hb : Below W.heap.size W W') : TwoO B e1 e2 K1 K2 v1 n1 c1 v2 n2 c2 P W0 W' :=
  have hg : W.grownBy W' none := ⟨hb.os, hb.tape, hb.output, hb.size, fun k hk _ => hb.block k hk⟩
  ⟨h.a.kept hg (Classical.em _), h.b.kept hg (Classical.em _), h.ne, fun k o hp => ⟨(hb.block k (Array.getElem?_eq_some_iff.1 (h.pr k o hp).1).1).trans (h.pr k o hp).1, (h.pr k o hp).2⟩, h.bel.trans (hb.mono h.hB), by have := h.hB; have := hb.size; omega⟩
theorem TwoO.drew {B : Nat} {e1 e2 : TypeId} {K1 K2 : Nat} {v1 : Value} {n1 : Nat} {c1 : List Value} {v2 : Value} {n2 : Nat} {c2 : List Value} {P : Nat → Obj → Prop} {W0 W : World} (h : TwoO B e1 e2 K1 K2 v1 n1 c1 v2 n2 c2 P W0 W) :
    TwoO B e1 e2 K1 K2 v1 n1 c1 v2 n2 c2 P W0 W.drew := h.grow ((Below.refl _ W).drew)
/-- A block that is laid may be guarded. -/
theorem TwoO.lay {B : Nat} {e1 e2 : TypeId} {K1 K2 : Nat} {v1 : Value} {n1 : Nat} {c1 : List Value} {v2 : Value} {n2 : Nat} {c2 : List Value} {P : Nat → Obj → Prop} {W0 W : World} (h : TwoO B e1 e2 K1 K2 v1 n1 c1 v2 n2 c2 P W0 W) (o : Obj) :
    TwoO B e1 e2 K1 K2 v1 n1 c1 v2 n2 c2 (fun k o' => P k o' ∨ (k = W.heap.size ∧ o' = o)) W0 (W.alloc o) := by
  have h1 := h.grow ((Below.refl _ W).alloc (Nat.le_refl _) o)
  refine ⟨h1.a, h1.b, h1.ne, fun k o' hp => ?_, h1.bel, h1.hB⟩
  rcases hp with hp | ⟨rfl, rfl⟩
  · exact h1.pr k o' hp
  · refine ⟨heap_alloc_new W _, fun e => ?_, fun e => ?_⟩
    · have := (h.a.lt _ e).2; omega
    · have := (h.b.lt _ e).2; omega
theorem TwoO.strike {B : Nat} {e1 e2 : TypeId} {K1 K2 : Nat} {v1 : Value} {n1 : Nat} {c1 : List Value} {v2 : Value} {n2 : Nat} {c2 : List Value} {P P' : Nat → Obj → Prop} {W0 W : World} (h : TwoO B e1 e2 K1 K2 v1 n1 c1 v2 n2 c2 P W0 W) (hp : ∀ k o, P' k o → P k o) :
    TwoO B e1 e2 K1 K2 v1 n1 c1 v2 n2 c2 P' W0 W := ⟨h.a, h.b, h.ne, fun k o h1 => h.pr k o (hp k o h1), h.bel, h.hB⟩
theorem TwoO.swap {B : Nat} {e1 e2 : TypeId} {K1 K2 : Nat} {v1 : Value} {n1 : Nat} {c1 : List Value} {v2 : Value} {n2 : Nat} {c2 : List Value} {P : Nat → Obj → Prop} {W0 W : World} (h : TwoO B e1 e2 K1 K2 v1 n1 c1 v2 n2 c2 P W0 W) :
    TwoO B e2 e1 K2 K1 v2 n2 c2 v1 n1 c1 P W0 W := ⟨h.b, h.a, fun k h1 h2 => h.ne k h2 h1, fun k o hp => ⟨(h.pr k o hp).1, (h.pr k o hp).2.2, (h.pr k o hp).2.1⟩, h.bel, h.hB⟩
theorem TwoO.app {B : Nat} {e1 e2 : TypeId} {K1 K2 : Nat} {v1 : Value} {n1 : Nat} {c1 : List Value} {v2 : Value} {n2 : Nat} {c2 : List Value} {P : Nat → Obj → Prop} {W0 W W' : World} (h : TwoO B e1 e2 K1 K2 v1 n1 c1 v2 n2 c2 P W0 W)
    {v' : Value} {n' : Nat} {c' : List Value} (ho : W'.ownsRow B e1 K1 v' n' c') (hg : W.grownBy W' v1.ownBlock) (hf : ∀ b, v'.ownBlock = some b → v1.ownBlock = some b ∨ W.heap.size ≤ b) : TwoO B e1 e2 K1 K2 v' n' c' v2 n2 c2 P W0 W' := by
  have hne : v2.ownBlock = none ∨ v2.ownBlock ≠ v1.ownBlock := by
    cases hv2 : v2.ownBlock with
    | none => exact .inl rfl
    | some k => exact .inr fun e => h.ne k e.symm hv2
  refine ⟨ho, h.b.kept hg hne, fun k h1 h2 => ?_, fun k o hp => ?_, h.bel.grown hg h.hB (fun k hk => (h.a.lt k hk).1), by have := h.hB; have := hg.size; omega⟩
  · rcases hf k h1 with h3 | h3
    · exact h.ne k h3 h2
    · have := (h.b.lt k h2).2; omega
  · obtain ⟨p1, p2, p3⟩ := h.pr k o hp
    have hk := (Array.getElem?_eq_some_iff.1 p1).1
    refine ⟨(hg.block k hk (fun e => p2 e.symm)).trans p1, fun e => ?_, p3⟩
    rcases hf k e with h3 | h3
    · exact p2 h3
    · omega

/-- One of the two rows grows by what a guarded block holds: one step of a region that draws. -/
theorem step_two {P : Program} {ops : Array Oper} {o : Oper} {a : Act} {w : World} {K : Act → World → Prop} {Q : Exit → Act → World → Prop} {E : Prop} (hg : o.guard = none) (s x : Operand) (t : TypeId)
    (ho : o.op = .call { callee := .builtin .append, args := #[s, x], argTypes := #[t, t] })
    (B : Nat) (e1 : TypeId) (i : TypeInfo) (z : Value) (K1 bytes : Nat) (ht : P.underlying t = some (.slice e1)) (hi : P.info? e1 = some i) (hz : i.zero = some z)
    (hsize : i.size = K1) (hby : i.bytes = bytes) (hzs : z.cells.size = K1) (hsz : 0 < K1)
    {v1 : Value} {n1 : Nat} {c1 : List Value} {e2 : TypeId} {K2 : Nat} {v2 : Value} {n2 : Nat} {c2 : List Value} {G : Nat → Obj → Prop} {W0 : World}
    (hs : a.eval s = v1) (bx c : Nat) (news : Array Value) (tb : TypeId) (hx : a.eval x = .slice (some ⟨bx, 0, none⟩) 1 c) (hl : news.size = K1) (h1 : ∀ u ∈ news.toList, u.oneCell' = true) (hn : n1 ≤ 1000000) (hbb : bytes ≤ 1000)
    (hT : TwoO B e1 e2 K1 K2 v1 n1 c1 v2 n2 c2 G W0 w) (hbx : G bx (.cells news tb))
    (h : ∀ v' w', TwoO B e1 e2 K1 K2 v' (n1 + 1) (c1 ++ news.toList) v2 n2 c2 G W0 w' → (∃ A c, v' = .slice A (n1 + 1) c) → K (a.put o.dst v') w') :
    if Region.wanted o (yielded ops a.tmps) = true then Oper.wp P o a w K Q else E := by
  have hb := (hT.pr _ _ hbx).1
  have hby2 : (n1 + 1) * bytes ≤ 140737488355328 := by
    have : (n1 + 1) * bytes ≤ 1000001 * 1000 := Nat.mul_le_mul (by omega) hbb
    omega
  refine step_append_own hg s x t ho B e1 i z K1 bytes ht hi hz hsize hby hzs hsz v1 n1 c1 hs hT.a ⟨bx, 0, none⟩ 1 c news.toList hx (by simp [hl]) (fun j u hu => ?_) h1 (by unfold maxLen; omega) hby2 hT.hB fun v' w' h2 h3 h4 => h v' w' (hT.app h2 h3 h4) (ownsRow_slice h2)
  rw [addr_add, Nat.zero_add]
  have := cell_of_row w bx j _ _ _ hb
  rw [this]
  simpa using hu


theorem step_two1 {P : Program} {o : Oper} {a : Act} {w : World} {K : Act → World → Prop} {Q : Exit → Act → World → Prop} (hg : o.guard = none) (s x : Operand) (t : TypeId)
    (ho : o.op = .call { callee := .builtin .append, args := #[s, x], argTypes := #[t, t] })
    (B : Nat) (e1 : TypeId) (i : TypeInfo) (z : Value) (K1 bytes : Nat) (ht : P.underlying t = some (.slice e1)) (hi : P.info? e1 = some i) (hz : i.zero = some z)
    (hsize : i.size = K1) (hby : i.bytes = bytes) (hzs : z.cells.size = K1) (hsz : 0 < K1)
    {v1 : Value} {n1 : Nat} {c1 : List Value} {e2 : TypeId} {K2 : Nat} {v2 : Value} {n2 : Nat} {c2 : List Value} {G : Nat → Obj → Prop} {W0 : World}
    (hs : a.eval s = v1) (bx c : Nat) (news : Array Value) (tb : TypeId) (hx : a.eval x = .slice (some ⟨bx, 0, none⟩) 1 c) (hl : news.size = K1) (h1 : ∀ u ∈ news.toList, u.oneCell' = true) (hn : n1 ≤ 1000000) (hbb : bytes ≤ 1000)
    (hT : TwoO B e1 e2 K1 K2 v1 n1 c1 v2 n2 c2 G W0 w) (hbx : G bx (.cells news tb))
    (h : ∀ v' w', TwoO B e1 e2 K1 K2 v' (n1 + 1) (c1 ++ news.toList) v2 n2 c2 G W0 w' → (∃ A c, v' = .slice A (n1 + 1) c) → K (a.put o.dst v') w') :
    Oper.wp P o a w K Q := by
  have hw : Region.wanted o (yielded #[] a.tmps) = true := by simp [Region.wanted, hg]
  have := step_two (ops := #[]) (K := K) (Q := Q) (E := True) hg s x t ho B e1 i z K1 bytes ht hi hz hsize hby hzs hsz hs bx c news tb hx hl h1 hn hbb hT hbx h
  rwa [if_pos hw] at this
/-- A row is born. -/
theorem TwoO.born {B : Nat} {e1 e2 : TypeId} {K1 K2 : Nat} {v2 : Value} {n2 : Nat} {c2 : List Value} {P : Nat → Obj → Prop} {W0 W W' : World} {v : Value} {n : Nat} {c : List Value}
    (h : TwoO B e1 e2 K1 K2 (.slice none 0 0) 0 [] v2 n2 c2 P W0 W) (ho : W'.ownsRow W.heap.size e1 K1 v n c) (hb : Below W.heap.size W W') : TwoO B e1 e2 K1 K2 v n c v2 n2 c2 P W0 W' := by
  have h1 := h.grow hb
  have ho' : W'.ownsRow B e1 K1 v n c := by
    refine ⟨ho.1, ho.2.imp id ?_⟩
    rintro ⟨g, cap, cur, k1, k2, k3⟩
    exact ⟨g, cap, cur, k1, by have := h.hB; omega, k3⟩
  refine ⟨ho', h1.b, fun k hk hk2 => ?_, fun k o hp => ⟨(h1.pr k o hp).1, fun e => ?_, (h1.pr k o hp).2.2⟩, h1.bel, h1.hB⟩
  · have := (ho.lt k hk).1; have := (h.b.lt k hk2).2; omega
  · have := (ho.lt k e).1; have := (Array.getElem?_eq_some_iff.1 (h.pr k o hp).1).1; omega
theorem TwoO.bare (B : Nat) (e1 e2 : TypeId) (K1 K2 : Nat) (W : World) (h : B ≤ W.heap.size) : TwoO B e1 e2 K1 K2 (.slice none 0 0) 0 [] (.slice none 0 0) 0 [] (fun _ _ => False) W W :=
  ⟨World.ownsRow_nil _ _ _ _, World.ownsRow_nil _ _ _ _, fun k hk => by simp [Value.ownBlock] at hk, fun k o hp => hp.elim, Below.refl _ _, h⟩
/-- A guarded block is written. -/
theorem TwoO.write {B : Nat} {e1 e2 : TypeId} {K1 K2 : Nat} {v1 : Value} {n1 : Nat} {c1 : List Value} {v2 : Value} {n2 : Nat} {c2 : List Value} {P : Nat → Obj → Prop} {W0 W : World} (h : TwoO B e1 e2 K1 K2 v1 n1 c1 v2 n2 c2 P W0 W) {g : Nat} {o : Obj} (hp : P g o) (hg : B ≤ g) (i : Nat) (u : Value) :
    TwoO B e1 e2 K1 K2 v1 n1 c1 v2 n2 c2 (fun k o' => P k o' ∧ k ≠ g) W0 (W.setCell ⟨g, i, none⟩ u) := by
  have hk : Keep (· ≠ g) W (W.setCell ⟨g, i, none⟩ u) := (Keep.refl _ W).setCell (fun h => h rfl) _
  have hgr : W.grownBy (W.setCell ⟨g, i, none⟩ u) (some g) := ⟨hk.os, hk.tape, hk.output, hk.size, fun k _ hne => hk.block k (fun e => hne (by rw [e]))⟩
  obtain ⟨p1, p2, p3⟩ := h.pr g o hp
  exact ⟨h.a.kept hgr (.inr p2), h.b.kept hgr (.inr p3), h.ne, fun k o' ⟨h1, h2⟩ => ⟨(hk.block k h2).trans (h.pr k o' h1).1, (h.pr k o' h1).2⟩, h.bel.setCell hg _, by have := h.hB; simpa using this⟩
theorem RdK.cells {α : Type} {k : Nat} {f : α → List Value} {w : World} {S : Nat → Prop} {ad : Addr} {n cap : Nat} {xs : List α} (h : RdK k f w S (.slice (some ad) n cap) xs) (hf : ∀ x, (f x).length = k) (hk : 0 < k) :
    ∀ j u, (xs.flatMap f)[j]? = some u → w.cell? (ad.add j) = some u := by
  intro j u hu
  obtain ⟨A, c, he, _, _, h3⟩ := h
  have hne : xs ≠ [] := fun e => by subst e; simp at hu
  obtain ⟨b, off, rfl, _, hc⟩ := h3 hne
  simp only [Value.slice.injEq, Option.some.injEq] at he
  obtain ⟨rfl, _, _⟩ := he
  have hj := (List.getElem?_eq_some_iff.1 hu).1
  rw [flat_len hf] at hj
  have hi : j / k < xs.length := Nat.div_lt_of_lt_mul (by rw [Nat.mul_comm]; exact hj)
  have hx := List.getElem?_eq_getElem hi
  have hr : j % k < (f xs[j / k]).length := by rw [hf]; exact Nat.mod_lt _ hk
  have hu2 := List.getElem?_eq_getElem hr
  have hat := flat_at hf xs _ _ hx _ _ hu2
  have hjk : j / k * k + j % k = j := by rw [Nat.mul_comm]; exact Nat.div_add_mod j k
  rw [hjk, hu] at hat
  obtain rfl := Option.some.inj hat
  have := hc _ _ hx _ _ hu2
  rw [addr_add, ← this, Nat.add_assoc, hjk]
theorem info38 : (Try.prog.info? 38).map (fun i => (i.zero, i.size, i.bytes)) = some (some (.agg #[.int .i64 0, .int .i64 0, .int .i64 0]), 3, 24) := by kernel_rfl
theorem jobC_one (xs : List JobD) : ∀ u ∈ xs.flatMap jobC, u.oneCell' = true := fun u hu => by
  obtain ⟨x, _, h⟩ := List.mem_flatMap.1 hu
  simp [jobC] at h
  rcases h with rfl | rfl | rfl <;> rfl
end Go.Proofs.Ytogccnngdfancaa
