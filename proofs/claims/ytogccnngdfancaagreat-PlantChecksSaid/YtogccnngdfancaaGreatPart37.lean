/- Two rows of fractions that grow side by side, the program's and the reference's. -/
import Derived.Test.YtogccnngdfancaaGreatPart03
import Derived.Test.YtogccnngdfancaaGreatPart36
namespace Go.Proofs.YtogccnngdfancaaGreat
open Go.RowKit
set_option linter.unusedVariables false
/-- Not a number. -/
def NI (u : Value) : Prop := ∀ k z, u ≠ .int k z
theorem Rd.grown {α : Type} {f : α → Value} {w w' : World} {S : Nat → Prop} {v : Value} {xs : List α} {row : Option Nat} (h : Rd f w S v xs) (hf : ∀ x, ¬ NI (f x)) (hg : w.grownBy w' row) (hr : ∀ g, row = some g → ∀ i u, w.cell? ⟨g, i, none⟩ = some u → NI u) : Rd f w' S v xs := by
  obtain ⟨A, cap, rfl, h1, h2, h3⟩ := h
  refine ⟨A, cap, rfl, h1, h2, fun hn => ?_⟩
  obtain ⟨b, off, rfl, hb, hc⟩ := h3 hn
  refine ⟨b, off, rfl, hb, fun i hi => ?_⟩
  have hci := hc i hi
  have hlt : b < w.heap.size := World.block_lt_of_cell? w ⟨b, _, none⟩ hci
  have hne : some b ≠ row := fun e => hf _ (hr b e.symm _ _ hci)
  rw [World.cell?_of_block (w := w) (a := ⟨b, off + i, none⟩) (hg.block b hlt hne)]
  exact hci
theorem RdQ.grown {w w' : World} {v : Value} {x : Rat} {row : Option Nat} (h : RdQ w v x) (hg : w.grownBy w' row) (hr : ∀ g, row = some g → ∀ i u, w.cell? ⟨g, i, none⟩ = some u → NI u) : RdQ w' v x :=
  let ⟨a, b, e, h1, h2⟩ := h; ⟨a, b, e, Rd.grown h1 (fun _ h => h _ _ rfl) hg hr, Rd.grown h2 (fun _ h => h _ _ rfl) hg hr⟩
theorem RdF.grown {w w' : World} {v : Value} {x : Rat} {row : Option Nat} (h : RdF w v x) (hg : w.grownBy w' row) (hr : ∀ g, row = some g → ∀ i u, w.cell? ⟨g, i, none⟩ = some u → NI u) : RdF w' v x :=
  let ⟨a, b, e, h1, h2⟩ := h; ⟨a, b, e, Rd.grown h1 (fun _ h => h _ _ rfl) hg hr, Rd.grown h2 (fun _ h => h _ _ rfl) hg hr⟩
theorem OwnAll.grown {R : Value → Prop} {w w' : World} {v : Value} {row : Option Nat} (h : OwnAll R w v) (hg : w.grownBy w' row) (hl : ∀ g, v.ownBlock = some g → g < w.heap.size ∧ row ≠ some g) : OwnAll R w' v := by
  intro g hv i u hu
  obtain ⟨h1, h2⟩ := hl g hv
  rw [World.cell?_of_block (w := w) (a := ⟨g, i, none⟩) (hg.block g h1 (fun e => h2 e.symm))] at hu
  exact h g hv i u hu
theorem OwnAll.below {R : Value → Prop} {w w' : World} {v : Value} (h : OwnAll R w v) (hb : Below w.heap.size w w') (hl : ∀ g, v.ownBlock = some g → g < w.heap.size) : OwnAll R w' v :=
  h.grown (row := none) ⟨hb.os, hb.tape, hb.output, hb.size, fun k hk _ => hb.block k hk⟩ (fun g hv => ⟨hl g hv, by simp⟩)
theorem own_nil (R : Value → Prop) (w : World) : OwnAll R w (.slice none 0 0) := fun g hg => by simp [Value.ownBlock] at hg
/-- An append of one element to the first of two rows, with the kind of its cells. -/
theorem step_twoR {P : Program} {o : Oper} {a : Act} {w : World} {K : Act → World → Prop} {Q : Exit → Act → World → Prop} (R : Value → Prop) (s x : Operand) (t : TypeId)
    (ho : o.op = .call { callee := .builtin .append, args := #[s, x], argTypes := #[t, t] })
    (B : Nat) (e1 : TypeId) (i : TypeInfo) (z : Value) (bytes : Nat) (ht : P.underlying t = some (.slice e1)) (hi : P.info? e1 = some i) (hz : i.zero = some z)
    (hby : i.bytes = bytes) (hzs : z.cells.size = i.size) (hsz : 0 < i.size)
    {v1 : Value} {n1 : Nat} {c1 : List Value} {e2 : TypeId} {K2 : Nat} {v2 : Value} {n2 : Nat} {c2 : List Value} {G : Nat → Obj → Prop} {W0 : World}
    (hs : a.eval s = v1) (bx c : Nat) (news : Array Value) (tb : TypeId) (hx : a.eval x = .slice (some ⟨bx, 0, none⟩) 1 c) (hl : news.size = i.size) (h1 : ∀ u ∈ news.toList, u.oneCell' = true) (hn : n1 ≤ 1000000) (hbb : bytes ≤ 1000)
    (hT : TwoO B e1 e2 i.size K2 v1 n1 c1 v2 n2 c2 G W0 w) (hbx : w.heap[bx]? = some (.cells news tb (0, 0)))
    (hR : OwnAll R w v1) (hN : ∀ u ∈ news.toList, R u) (hZ : ∀ u ∈ z.cells, R u)
    (h : ∀ v' w', TwoO B e1 e2 i.size K2 v' (n1 + 1) (c1 ++ news.toList) v2 n2 c2 G W0 w' → w.grownBy w' v1.ownBlock → OwnAll R w' v' → (∃ A c, v' = .slice A (n1 + 1) c) → K (a.put o.dst v') w') :
    Oper.wp P o a w K Q := by
  have hby2 : (n1 + 1) * bytes ≤ 140737488355328 := by
    have : (n1 + 1) * bytes ≤ 1000001 * 1000 := Nat.mul_le_mul (by omega) hbb
    omega
  have hnews : ∀ j u, news.toList[j]? = some u → w.cell? ((⟨bx, 0, none⟩ : Addr).add j) = some u := fun j u hu => by
    rw [addr_add, Nat.zero_add]
    have := cell_of_row w bx j _ _ _ hbx
    rw [this]
    simpa using hu
  have hll : news.toList.length = 1 * i.size := by simp [hl]
  obtain ⟨v', w', hr, h2, h3, h4⟩ := append_fresh (P := P) w B t o.type e1 i z i.size bytes ht hi hz rfl hby hzs hsz v1 n1 c1 hT.a ⟨bx, 0, none⟩ 1 c news.toList hll hnews h1 (by unfold maxLen; omega) hby2 hT.hB
  have hA := append_all (P := P) (R := R) ht hi hz hzs hT.a (by omega) hll hnews h1 (by unfold maxLen; omega) (by rw [hby]; exact hby2) hR hN hZ hr
  unfold Oper.wp execOp
  simp only [ho, resolve, invoke, builtin, Sem.run_bind, Sem.run_pure, Result.andThen_ok, List.map_toArray, List.map_cons, List.map_nil, hs, hx, hr]
  exact h v' w' (hT.app h2 h3 h4) h3 hA (ownsRow_slice h2)
/-- The two rows, with what their elements mean. -/
structure TwoQ (B : Nat) (v1 v2 : Value) (ps qs : List Rat) (W0 W : World) (cs ds : List (Bool × Value × Value)) : Prop where
  t : TwoO B 52 56 3 3 v1 ps.length (cs.flatMap ratC) v2 qs.length (ds.flatMap ratC) (fun _ _ => False) W0 W
  l1 : cs.length = ps.length
  l2 : ds.length = qs.length
  r1 : ∀ (i : Nat) c q, cs[i]? = some c → ps[i]? = some q → RdQ W (aggC c) q
  r2 : ∀ (i : Nat) c q, ds[i]? = some c → qs[i]? = some q → RdF W (aggC c) q
  a1 : OwnAll NI W v1
  a2 : OwnAll NI W v2
section
variable {B : Nat} {v1 v2 : Value} {ps qs : List Rat} {W0 W W' : World} {cs ds : List (Bool × Value × Value)}
theorem TwoQ.start (h : B ≤ W.heap.size) : TwoQ B (.slice none 0 0) (.slice none 0 0) [] [] W W [] [] :=
  ⟨TwoO.bare _ _ _ _ _ _ h, rfl, rfl, fun i c q h => by simp at h, fun i c q h => by simp at h, own_nil _ _, own_nil _ _⟩
theorem TwoQ.grow (h : TwoQ B v1 v2 ps qs W0 W cs ds) (hb : Below W.heap.size W W') : TwoQ B v1 v2 ps qs W0 W' cs ds :=
  ⟨h.t.grow hb, h.l1, h.l2, fun i c q h1 h2 => (h.r1 i c q h1 h2).below hb, fun i c q h1 h2 => (h.r2 i c q h1 h2).below hb,
    h.a1.below hb (fun g hg => (h.t.a.lt g hg).2), h.a2.below hb (fun g hg => (h.t.b.lt g hg).2)⟩
theorem snoc_all {α β : Type} {xs : List α} {ys : List β} {P : α → β → Prop} (hl : xs.length = ys.length) (h : ∀ (i : Nat) x y, xs[i]? = some x → ys[i]? = some y → P x y) {x : α} {y : β} (hxy : P x y) :
    ∀ (i : Nat) x' y', (xs ++ [x])[i]? = some x' → (ys ++ [y])[i]? = some y' → P x' y' := by
  intro i x' y' h1 h2
  by_cases hi : i < xs.length
  · rw [List.getElem?_append_left hi] at h1
    rw [List.getElem?_append_left (by omega)] at h2
    exact h i x' y' h1 h2
  · rw [List.getElem?_append_right (by omega)] at h1
    rw [List.getElem?_append_right (by omega), ← hl] at h2
    by_cases h0 : i - xs.length = 0
    · rw [h0] at h1 h2
      simp at h1 h2
      rw [← h1, ← h2]; exact hxy
    · rw [List.getElem?_eq_none (by simp; omega)] at h1; cases h1
/-- The first row has grown by the fraction c. -/
theorem TwoQ.app1 (h : TwoQ B v1 v2 ps qs W0 W cs ds) {c : Bool × Value × Value} {q : Rat} (hc : RdQ W (aggC c) q) {v' : Value} (hT : TwoO B 52 56 3 3 v' (ps.length + 1) (cs.flatMap ratC ++ ratC c) v2 qs.length (ds.flatMap ratC) (fun _ _ => False) W0 W')
    (hg : W.grownBy W' v1.ownBlock) (ha : OwnAll NI W' v') : TwoQ B v' v2 (ps ++ [q]) qs W0 W' (cs ++ [c]) ds := by
  have hr := fun g hg => h.a1 g hg
  refine ⟨by rw [List.flatMap_append, List.length_append]; simpa using hT, by simp [h.l1], h.l2, ?_, fun i c' q' h1 h2 => (h.r2 i c' q' h1 h2).grown hg hr, ha, h.a2.grown hg (fun g hv => ⟨(h.t.b.lt g hv).2, fun e => h.t.ne g e hv⟩)⟩
  exact snoc_all h.l1 (fun i c' q' h1 h2 => (h.r1 i c' q' h1 h2).grown hg hr) (hc.grown hg hr)
theorem TwoQ.app2 (h : TwoQ B v1 v2 ps qs W0 W cs ds) {c : Bool × Value × Value} {q : Rat} (hc : RdF W (aggC c) q) {v' : Value} (hT : TwoO B 52 56 3 3 v1 ps.length (cs.flatMap ratC) v' (qs.length + 1) (ds.flatMap ratC ++ ratC c) (fun _ _ => False) W0 W')
    (hg : W.grownBy W' v2.ownBlock) (ha : OwnAll NI W' v') : TwoQ B v1 v' ps (qs ++ [q]) W0 W' cs (ds ++ [c]) := by
  have hr := fun g hg => h.a2 g hg
  refine ⟨by rw [List.flatMap_append, List.length_append]; simpa using hT, h.l1, by simp [h.l2], fun i c' q' h1 h2 => (h.r1 i c' q' h1 h2).grown hg hr, ?_, h.a1.grown hg (fun g hv => ⟨(h.t.a.lt g hv).2, fun e => h.t.ne g hv e⟩), ha⟩
  exact snoc_all h.l2 (fun i c' q' h1 h2 => (h.r2 i c' q' h1 h2).grown hg hr) (hc.grown hg hr)
theorem TwoQ.rd1 (h : TwoQ B v1 v2 ps qs W0 W cs ds) : RdQs W (B ≤ ·) v1 ps := ⟨cs, RdK.of_own ratC_len h.t.a h.l1, h.l1, h.r1⟩
theorem TwoQ.rd2 (h : TwoQ B v1 v2 ps qs W0 W cs ds) : RdFs W (B ≤ ·) v2 qs := ⟨ds, RdK.of_own ratC_len h.t.b h.l2, h.l2, h.r2⟩
end
end Go.Proofs.YtogccnngdfancaaGreat
