/- A casing: what its events make of it. -/
import Derived.Test.YtfondpakbiagjaaGreatDoorHCsD
namespace Go.Proofs.YtfondpakbiagjaaGreatDoor
open Go.RowKit
set_option linter.unusedVariables false
set_option linter.unusedSimpArgs false
structure CasD where
  born : Int
  last : Int
  ret : Int
  rep : List Int
  opn : List Int
def casStep (c : CasD) (e : EvD) : Option CasD :=
  if e.kind = 0 then some ⟨e.day, e.day, c.ret, c.rep, c.opn⟩
  else if e.kind = 1 then some ⟨c.born, e.day, c.ret + 1, c.rep, c.opn⟩
  else if e.kind = 2 then some ⟨c.born, e.day, c.ret, c.rep, c.opn ++ [e.place]⟩
  else match rmv c.opn e.place with
    | none => none
    | some o => some ⟨c.born, e.day, c.ret, c.rep ++ [e.place], o⟩
/-- An event that may be. -/
def EvOk (e : EvD) : Prop := (0 ≤ e.day ∧ e.day ≤ 1000000) ∧ (0 ≤ e.kind ∧ e.kind ≤ 3) ∧ (2 ≤ e.kind → 0 ≤ e.place ∧ e.place ≤ 23)
/-- Its order among the others. -/
def EvIn (i : Nat) (last : Int) (e : EvD) : Prop := ¬ (0 < i ∧ e.day < last) ∧ (i = 0 ↔ e.kind = 0)
open Classical in
noncomputable def evErr (i : Nat) (last : Int) (e : EvD) : Int := if EvOk e then (if EvIn i last e then 0 else 7) else 1
open Classical in
noncomputable def casRun : Nat → CasD → List EvD → Int × CasD
  | _, c, [] => (0, c)
  | i, c, e :: r => if evErr i c.last e = 0 then (match casStep c e with | none => (5, c) | some c' => casRun (i + 1) c' r) else (evErr i c.last e, c)
/-- A casing in memory. -/
structure CasW (w : World) (cb : Nat) (rv ov : Value) (c : CasD) : Prop where
  blk : w.heap[cb]? = some (.cells #[.int .i64 c.born, .int .i64 c.last, .int .i64 c.ret, rv, ov] 112 (0, 0))
  rr : OwnI w (cb + 1) rv c.rep
  ro : OwnI w (cb + 1) ov c.opn
  ne : ∀ k, rv.ownBlock = some k → ov.ownBlock ≠ some k
variable {w w' : World} {cb : Nat} {rv ov v : Value} {c : CasD}
theorem CasW.stay (h : CasW w cb rv ov c) (hb : Below w.heap.size w w') : CasW w' cb rv ov c := ⟨blk_below h.blk hb, h.rr.stay hb, h.ro.stay hb, h.ne⟩
theorem CasW.lt (h : CasW w cb rv ov c) : cb < w.heap.size := blk_lt h.blk
theorem CasW.born (h : CasW w cb rv ov c) (z : Int) : CasW (w.setCell ⟨cb, 0, none⟩ (.int .i64 z)) cb rv ov ⟨z, c.last, c.ret, c.rep, c.opn⟩ :=
  ⟨by have := blk_set (i := 0) (.int .i64 z) h.blk; simpa using this, ownsRow_setCell_below h.rr (Nat.lt_succ_self _) _, ownsRow_setCell_below h.ro (Nat.lt_succ_self _) _, h.ne⟩
theorem CasW.last (h : CasW w cb rv ov c) (z : Int) : CasW (w.setCell ⟨cb, 1, none⟩ (.int .i64 z)) cb rv ov ⟨c.born, z, c.ret, c.rep, c.opn⟩ :=
  ⟨by have := blk_set (i := 1) (.int .i64 z) h.blk; simpa using this, ownsRow_setCell_below h.rr (Nat.lt_succ_self _) _, ownsRow_setCell_below h.ro (Nat.lt_succ_self _) _, h.ne⟩
theorem CasW.ret (h : CasW w cb rv ov c) (z : Int) : CasW (w.setCell ⟨cb, 2, none⟩ (.int .i64 z)) cb rv ov ⟨c.born, c.last, z, c.rep, c.opn⟩ :=
  ⟨by have := blk_set (i := 2) (.int .i64 z) h.blk; simpa using this, ownsRow_setCell_below h.rr (Nat.lt_succ_self _) _, ownsRow_setCell_below h.ro (Nat.lt_succ_self _) _, h.ne⟩
theorem CasW.nr (h : CasW w cb rv ov c) : ∀ k, rv.ownBlock = some k → cb < k := fun k hk => (World.ownsRow.lt h.rr k hk).1
theorem CasW.no (h : CasW w cb rv ov c) : ∀ k, ov.ownBlock = some k → cb < k := fun k hk => (World.ownsRow.lt h.ro k hk).1
theorem CasW.blkO (h : CasW w cb rv ov c) (hg : w.grownBy w' ov.ownBlock) : w'.heap[cb]? = some (.cells #[.int .i64 c.born, .int .i64 c.last, .int .i64 c.ret, rv, ov] 112 (0, 0)) :=
  (hg.block cb h.lt (fun e => by have := h.no cb e.symm; omega)).trans h.blk
theorem CasW.blkR (h : CasW w cb rv ov c) (hg : w.grownBy w' rv.ownBlock) : w'.heap[cb]? = some (.cells #[.int .i64 c.born, .int .i64 c.last, .int .i64 c.ret, rv, ov] 112 (0, 0)) :=
  (hg.block cb h.lt (fun e => by have := h.nr cb e.symm; omega)).trans h.blk
theorem CasW.newO {o' : List Int} (h : CasW w cb rv ov c) (hg : w.grownBy w' ov.ownBlock) (hf : ∀ b, v.ownBlock = some b → ov.ownBlock = some b ∨ w.heap.size ≤ b) (hv : OwnI w' (cb + 1) v o') : CasW (w'.setCell ⟨cb, 4, none⟩ v) cb rv v ⟨c.born, c.last, c.ret, c.rep, o'⟩ := by
  have hr : OwnI w' (cb + 1) rv c.rep := h.rr.kept hg (by
    cases hq : rv.ownBlock with
    | none => exact .inl rfl
    | some k => exact .inr fun e => h.ne k hq e.symm)
  refine ⟨by have := blk_set (i := 4) v (h.blkO hg); simpa using this, ownsRow_setCell_below hr (Nat.lt_succ_self _) _, ownsRow_setCell_below hv (Nat.lt_succ_self _) _, fun k h1 h2 => ?_⟩
  rcases hf k h2 with h3 | h3
  · exact h.ne k h1 h3
  · have := (World.ownsRow.lt h.rr k h1).2; omega
theorem CasW.newR {o' : List Int} (h : CasW w cb rv ov c) (hg : w.grownBy w' rv.ownBlock) (hf : ∀ b, v.ownBlock = some b → rv.ownBlock = some b ∨ w.heap.size ≤ b) (hv : OwnI w' (cb + 1) v o') : CasW (w'.setCell ⟨cb, 3, none⟩ v) cb v ov ⟨c.born, c.last, c.ret, o', c.opn⟩ := by
  have hr : OwnI w' (cb + 1) ov c.opn := h.ro.kept hg (by
    cases hq : ov.ownBlock with
    | none => exact .inl rfl
    | some k => exact .inr fun e => h.ne k e.symm hq)
  refine ⟨by have := blk_set (i := 3) v (h.blkR hg); simpa using this, ownsRow_setCell_below hv (Nat.lt_succ_self _) _, ownsRow_setCell_below hr (Nat.lt_succ_self _) _, fun k h1 h2 => ?_⟩
  rcases hf k h1 with h3 | h3
  · exact h.ne k h3 h2
  · have := (World.ownsRow.lt h.ro k h2).2; omega
end Go.Proofs.YtfondpakbiagjaaGreatDoor
