/- Two rows of ints of the call's own that grow side by side in a region that draws its order. -/
import Derived.Test.YtodckaioeomccaaGreatPart30
import Derived.Test.YtodckaioeomccaaGreatPart38
namespace Go.Proofs.YtodckaioeomccaaGreat
open Go.RowKit
set_option linter.unusedVariables false
/-- Two rows of the call's own, and blocks that neither is. -/
structure TwoO (B : Nat) (v1 : Value) (l1 : List Int) (v2 : Value) (l2 : List Int) (P : Nat → Obj → Prop) (W0 W : World) : Prop where
  a : OwnL W B v1 l1
  b : OwnL W B v2 l2
  ne : ∀ k, v1.ownBlock = some k → v2.ownBlock ≠ some k
  pr : ∀ k o, P k o → W.heap[k]? = some o ∧ v1.ownBlock ≠ some k ∧ v2.ownBlock ≠ some k
  bel : Below B W0 W
  hB : B ≤ W.heap.size
variable {B : Nat} {v1 v2 : Value} {l1 l2 : List Int} {P : Nat → Obj → Prop} {W0 W W' : World}
theorem TwoO.grow (h : TwoO B v1 l1 v2 l2 P W0 W) (hb : Below W.heap.size W W') : TwoO B v1 l1 v2 l2 P W0 W' :=
  have hg : W.grownBy W' none := ⟨hb.os, hb.tape, hb.output, hb.size, fun k hk _ => hb.block k hk⟩
  ⟨World.ownsRow.kept h.a hg (Classical.em _), World.ownsRow.kept h.b hg (Classical.em _), h.ne, fun k o hp => ⟨(hb.block k (Array.getElem?_eq_some_iff.1 (h.pr k o hp).1).1).trans (h.pr k o hp).1, (h.pr k o hp).2⟩, h.bel.trans (hb.mono h.hB), by have := h.hB; have := hb.size; omega⟩
/-- A block that is laid may be guarded. -/
theorem TwoO.lay (h : TwoO B v1 l1 v2 l2 P W0 W) (o : Obj) : TwoO B v1 l1 v2 l2 (fun k o' => P k o' ∨ (k = W.heap.size ∧ o' = o)) W0 (W.alloc o) := by
  have h1 := h.grow ((Below.refl _ W).alloc (Nat.le_refl _) o)
  refine ⟨h1.a, h1.b, h1.ne, fun k o' hp => ?_, h1.bel, h1.hB⟩
  rcases hp with hp | ⟨rfl, rfl⟩
  · exact h1.pr k o' hp
  · refine ⟨heap_alloc_new W _, fun e => ?_, fun e => ?_⟩
    · have := (World.ownsRow.lt h.a _ e).2; omega
    · have := (World.ownsRow.lt h.b _ e).2; omega
theorem TwoO.strike {P' : Nat → Obj → Prop} (h : TwoO B v1 l1 v2 l2 P W0 W) (hp : ∀ k o, P' k o → P k o) : TwoO B v1 l1 v2 l2 P' W0 W :=
  ⟨h.a, h.b, h.ne, fun k o h1 => h.pr k o (hp k o h1), h.bel, h.hB⟩
theorem TwoO.swap (h : TwoO B v1 l1 v2 l2 P W0 W) : TwoO B v2 l2 v1 l1 P W0 W :=
  ⟨h.b, h.a, fun k h1 h2 => h.ne k h2 h1, fun k o hp => ⟨(h.pr k o hp).1, (h.pr k o hp).2.2, (h.pr k o hp).2.1⟩, h.bel, h.hB⟩
theorem TwoO.app {v' : Value} {l' : List Int} (h : TwoO B v1 l1 v2 l2 P W0 W) (ho : OwnL W' B v' l') (hg : W.grownBy W' v1.ownBlock) (hf : ∀ b, v'.ownBlock = some b → v1.ownBlock = some b ∨ W.heap.size ≤ b) :
    TwoO B v' l' v2 l2 P W0 W' := by
  have hne : v2.ownBlock = none ∨ v2.ownBlock ≠ v1.ownBlock := by
    cases hv2 : v2.ownBlock with
    | none => exact .inl rfl
    | some k => exact .inr fun e => h.ne k e.symm hv2
  refine ⟨ho, World.ownsRow.kept h.b hg hne, fun k h1 h2 => ?_, fun k o hp => ?_, h.bel.grown hg h.hB (fun k hk => (World.ownsRow.lt h.a k hk).1), by have := h.hB; have := hg.size; omega⟩
  · rcases hf k h1 with h3 | h3
    · exact h.ne k h3 h2
    · have := (World.ownsRow.lt h.b k h2).2; omega
  · obtain ⟨p1, p2, p3⟩ := h.pr k o hp
    have hk := (Array.getElem?_eq_some_iff.1 p1).1
    refine ⟨(hg.block k hk (fun e => p2 e.symm)).trans p1, fun e => ?_, p3⟩
    rcases hf k e with h3 | h3
    · exact p2 h3
    · omega
/-- The first row grows by the int that a guarded block holds. -/
theorem op_two {o : Oper} {a : Act} {w : World} {K : Act → World → Prop} {Q : Exit → Act → World → Prop} (hg : o.guard = none) (s x : Operand)
    (ho : o.op = .call { callee := .builtin .append, args := #[s, x], argTypes := #[22, 22] })
    (hs : a.eval s = v1) (bx : Nat) (y : Int) (hx : a.eval x = .slice (some ⟨bx, 0, none⟩) 1 1) (hn : l1.length ≤ 1000)
    (hT : TwoO B v1 l1 v2 l2 P W0 w) (hbx : P bx (.cells #[.int .i64 y] 3))
    (h : ∀ v' w', TwoO B v' (l1 ++ [y]) v2 l2 P W0 w' → (∃ A c, v' = .slice A (l1.length + 1) c) → K (a.put o.dst v') w') : Oper.wp Tryz.prog o a w K Q := by
  obtain ⟨i0, hi0, hz0, hz1, hz2⟩ := info_parts info3
  have hb := (hT.pr _ _ hbx).1
  refine op_append_own hg s x 22 ho B 3 i0 (.int .i64 0) 1 8 Tryz.underlying22 hi0 hz0 hz1 hz2 rfl (by decide) v1 l1.length (l1.map intV) hs hT.a ⟨bx, 0, none⟩ 1 1 [.int .i64 y] hx rfl (fun j u hu => ?_) (fun u hu => by rw [List.mem_singleton.1 hu]; rfl) (by unfold maxLen; omega) (by omega) hT.hB fun v' w' h2 h3 h4 => ?_
  · rw [addr_add, Nat.zero_add, cell_of_row w bx j _ _ _ hb]
    simpa using hu
  · refine h v' w' (hT.app ?_ h3 h4) (ownsRow_slice h2)
    unfold OwnL
    rw [List.length_append, List.map_append]
    exact h2
end Go.Proofs.YtodckaioeomccaaGreat
