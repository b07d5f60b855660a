/- Two rows of the call's own that grow side by side in a region that draws its order; slices of structs of k cells. -/
import Derived.Test.YtlanephpmoajiaaGet
import Derived.Deep.RegionHeld3
namespace Go.Proofs.Ytlanephpmoajiaa
open Go.RowKit
set_option linter.unusedVariables false

/-- Two rows of the call's own, and blocks that neither is. -/
structure TwoO (B : Nat) (e1 e2 : TypeId) (K1 K2 : Nat) (v1 : Value) (n1 : Nat) (c1 : List Value) (v2 : Value) (n2 : Nat) (c2 : List Value) (P : Nat → Obj → Prop) (W0 W : World) : Prop where
  a : W.ownsRow B e1 K1 v1 n1 c1
  b : W.ownsRow B e2 K2 v2 n2 c2
  ne : ∀ k, v1.ownBlock = some k → v2.ownBlock ≠ some k
  pr : ∀ k o, P k o → W.heap[k]? = some o ∧ v1.ownBlock ≠ some k ∧ v2.ownBlock ≠ some k
  bel : Below B W0 W
  hB : B ≤ W.heap.size
theorem TwoO.grow {B : Nat} {e1 e2 : TypeId} {K1 K2 : Nat} {v1 : Value} {n1 : Nat} {c1 : List Value} {v2 : Value} {n2 : Nat} {c2 : List Value} {P : Nat → Obj → Prop} {W0 W W' : World} (h : TwoO B e1 e2 K1 K2 v1 n1 c1 v2 n2 c2 P W0 W)
    (hb : Below W.heap.size W W') : TwoO B e1 e2 K1 K2 v1 n1 c1 v2 n2 c2 P W0 W' :=
  have hg : W.grownBy W' none := ⟨hb.os, hb.tape, hb.output, hb.size, fun k hk _ => hb.block k hk⟩
  ⟨h.a.kept hg (Classical.em _), h.b.kept hg (Classical.em _), h.ne, fun k o hp => ⟨(hb.block k (Array.getElem?_eq_some_iff.1 (h.pr k o hp).1).1).trans (h.pr k o hp).1, (h.pr k o hp).2⟩, h.bel.trans (hb.mono h.hB), by have := h.hB; have := hb.size; omega⟩
theorem TwoO.drew {B : Nat} {e1 e2 : TypeId} {K1 K2 : Nat} {v1 : Value} {n1 : Nat} {c1 : List Value} {v2 : Value} {n2 : Nat} {c2 : List Value} {P : Nat → Obj → Prop} {W0 W : World} (h : TwoO B e1 e2 K1 K2 v1 n1 c1 v2 n2 c2 P W0 W) :
    TwoO B e1 e2 K1 K2 v1 n1 c1 v2 n2 c2 P W0 W.drew := h.grow ((Below.refl _ W).drew)
/-- A block that is laid may be guarded. -/
theorem TwoO.lay {B : Nat} {e1 e2 : TypeId} {K1 K2 : Nat} {v1 : Value} {n1 : Nat} {c1 : List Value} {v2 : Value} {n2 : Nat} {c2 : List Value} {P : Nat → Obj → Prop} {W0 W : World} (h : TwoO B e1 e2 K1 K2 v1 n1 c1 v2 n2 c2 P W0 W) (o : Obj) :
    TwoO B e1 e2 K1 K2 v1 n1 c1 v2 n2 c2 (fun k o' => P k o' ∨ (k = W.heap.size ∧ o' = o)) W0 (W.alloc o) := by
  have h1 := h.grow ((Below.refl _ W).alloc (Nat.le_refl _) o)
  refine ⟨h1.a, h1.b, h1.ne, fun k o' hp => ?_, h1.bel, h1.hB⟩
  rcases hp with hp | ⟨rfl, rfl⟩
  · exact h1.pr k o' hp
  · refine ⟨heap_alloc_new W _, fun e => ?_, fun e => ?_⟩
    · have := (h.a.lt _ e).2; omega
    · have := (h.b.lt _ e).2; omega
theorem TwoO.strike {B : Nat} {e1 e2 : TypeId} {K1 K2 : Nat} {v1 : Value} {n1 : Nat} {c1 : List Value} {v2 : Value} {n2 : Nat} {c2 : List Value} {P P' : Nat → Obj → Prop} {W0 W : World} (h : TwoO B e1 e2 K1 K2 v1 n1 c1 v2 n2 c2 P W0 W) (hp : ∀ k o, P' k o → P k o) :
    TwoO B e1 e2 K1 K2 v1 n1 c1 v2 n2 c2 P' W0 W := ⟨h.a, h.b, h.ne, fun k o h1 => h.pr k o (hp k o h1), h.bel, h.hB⟩
theorem TwoO.swap {B : Nat} {e1 e2 : TypeId} {K1 K2 : Nat} {v1 : Value} {n1 : Nat} {c1 : List Value} {v2 : Value} {n2 : Nat} {c2 : List Value} {P : Nat → Obj → Prop} {W0 W : World} (h : TwoO B e1 e2 K1 K2 v1 n1 c1 v2 n2 c2 P W0 W) :
    TwoO B e2 e1 K2 K1 v2 n2 c2 v1 n1 c1 P W0 W := ⟨h.b, h.a, fun k h1 h2 => h.ne k h2 h1, fun k o hp => ⟨(h.pr k o hp).1, (h.pr k o hp).2.2, (h.pr k o hp).2.1⟩, h.bel, h.hB⟩
theorem TwoO.app {B : Nat} {e1 e2 : TypeId} {K1 K2 : Nat} {v1 : Value} {n1 : Nat} {c1 : List Value} {v2 : Value} {n2 : Nat} {c2 : List Value} {P : Nat → Obj → Prop} {W0 W W' : World} (h : TwoO B e1 e2 K1 K2 v1 n1 c1 v2 n2 c2 P W0 W)
    {v' : Value} {n' : Nat} {c' : List Value} (ho : W'.ownsRow B e1 K1 v' n' c') (hg : W.grownBy W' v1.ownBlock) (hf : ∀ b, v'.ownBlock = some b → v1.ownBlock = some b ∨ W.heap.size ≤ b) : TwoO B e1 e2 K1 K2 v' n' c' v2 n2 c2 P W0 W' := by
  have hne : v2.ownBlock = none ∨ v2.ownBlock ≠ v1.ownBlock := by
    cases hv2 : v2.ownBlock with
    | none => exact .inl rfl
    | some k => exact .inr fun e => h.ne k e.symm hv2
  refine ⟨ho, h.b.kept hg hne, fun k h1 h2 => ?_, fun k o hp => ?_, h.bel.grown hg h.hB (fun k hk => (h.a.lt k hk).1), by have := h.hB; have := hg.size; omega⟩
  · rcases hf k h1 with h3 | h3
    · exact h.ne k h3 h2
    · have := (h.b.lt k h2).2; omega
  · obtain ⟨p1, p2, p3⟩ := h.pr k o hp
    have hk := (Array.getElem?_eq_some_iff.1 p1).1
    refine ⟨(hg.block k hk (fun e => p2 e.symm)).trans p1, fun e => ?_, p3⟩
    rcases hf k e with h3 | h3
    · exact p2 h3
    · omega

/-- One of the two rows grows by what a guarded block holds: one step of a region that draws. -/
theorem step_two {P : Program} {ops : Array Oper} {o : Oper} {a : Act} {w : World} {K : Act → World → Prop} {Q : Exit → Act → World → Prop} {E : Prop} (hg : o.guard = none) (s x : Operand) (t : TypeId)
    (ho : o.op = .call { callee := .builtin .append, args := #[s, x], argTypes := #[t, t] })
    (B : Nat) (e1 : TypeId) (i : TypeInfo) (z : Value) (K1 bytes : Nat) (ht : P.underlying t = some (.slice e1)) (hi : P.info? e1 = some i) (hz : i.zero = some z)
    (hsize : i.size = K1) (hby : i.bytes = bytes) (hzs : z.cells.size = K1) (hsz : 0 < K1)
    {v1 : Value} {n1 : Nat} {c1 : List Value} {e2 : TypeId} {K2 : Nat} {v2 : Value} {n2 : Nat} {c2 : List Value} {G : Nat → Obj → Prop} {W0 : World}
    (hs : a.eval s = v1) (bx c : Nat) (news : Array Value) (tb : TypeId) (hx : a.eval x = .slice (some ⟨bx, 0, none⟩) 1 c) (hl : news.size = K1) (h1 : ∀ u ∈ news.toList, u.oneCell' = true) (hn : n1 ≤ 1000000) (hbb : bytes ≤ 1000)
    (hT : TwoO B e1 e2 K1 K2 v1 n1 c1 v2 n2 c2 G W0 w) (hbx : G bx (.cells news tb))
    (h : ∀ v' w', TwoO B e1 e2 K1 K2 v' (n1 + 1) (c1 ++ news.toList) v2 n2 c2 G W0 w' → (∃ A c, v' = .slice A (n1 + 1) c) → K (a.put o.dst v') w') :
    if Region.wanted o (yielded ops a.tmps) = true then Oper.wp P o a w K Q else E := by
  have hb := (hT.pr _ _ hbx).1
  have hby2 : (n1 + 1) * bytes ≤ 140737488355328 := by
    have : (n1 + 1) * bytes ≤ 1000001 * 1000 := Nat.mul_le_mul (by omega) hbb
    omega
  refine step_append_own hg s x t ho B e1 i z K1 bytes ht hi hz hsize hby hzs hsz v1 n1 c1 hs hT.a ⟨bx, 0, none⟩ 1 c news.toList hx (by simp [hl]) (fun j u hu => ?_) h1 (by unfold maxLen; omega) hby2 hT.hB fun v' w' h2 h3 h4 => h v' w' (hT.app h2 h3 h4) (ownsRow_slice h2)
  rw [addr_add, Nat.zero_add]
  have := cell_of_row w bx j _ _ _ hb
  rw [this]
  simpa using hu

/-- The slice value v holds the list xs, k cells an element. -/
def RdK {α : Type} (k : Nat) (f : α → List Value) (w : World) (S : Nat → Prop) (v : Value) (xs : List α) : Prop :=
  ∃ A cap, v = .slice A xs.length cap ∧ xs.length ≤ cap ∧ cap ≤ maxLen ∧
    (xs ≠ [] → ∃ b off, A = some ⟨b, off, none⟩ ∧ S b ∧ ∀ (i : Nat) (x : α), xs[i]? = some x → ∀ (j : Nat) (u : Value), (f x)[j]? = some u → w.cell? ⟨b, off + i * k + j, none⟩ = some u)
section
variable {α : Type} {k : Nat} {f : α → List Value} {w w' : World} {S S' : Nat → Prop} {v : Value} {xs : List α}
theorem RdK.keep (h : RdK k f w S v xs) (hk : Keep S w w') : RdK k f w' S v xs := by
  obtain ⟨A, cap, rfl, h1, h2, h3⟩ := h
  refine ⟨A, cap, rfl, h1, h2, fun hn => ?_⟩
  obtain ⟨b, off, rfl, hb, hc⟩ := h3 hn
  exact ⟨b, off, rfl, hb, fun i x hx j u hu => (hk.cell (p := ⟨b, _, none⟩) hb).trans (hc i x hx j u hu)⟩
theorem RdK.mono (h : RdK k f w S v xs) (hs : ∀ k, S k → S' k) : RdK k f w S' v xs := by
  obtain ⟨A, cap, rfl, h1, h2, h3⟩ := h
  refine ⟨A, cap, rfl, h1, h2, fun hn => ?_⟩
  obtain ⟨b, off, rfl, hb, hc⟩ := h3 hn
  exact ⟨b, off, rfl, hs b hb, hc⟩
theorem RdK.lt (h : RdK k f w S v xs) (hf : ∀ x, ∃ u, (f x)[0]? = some u) : RdK k f w (fun b => S b ∧ b < w.heap.size) v xs := by
  obtain ⟨A, cap, rfl, h1, h2, h3⟩ := h
  refine ⟨A, cap, rfl, h1, h2, fun hn => ?_⟩
  obtain ⟨b, off, rfl, hb, hc⟩ := h3 hn
  obtain ⟨x, l, rfl⟩ := List.exists_cons_of_ne_nil hn
  obtain ⟨u, hu⟩ := hf x
  exact ⟨b, off, rfl, ⟨hb, World.block_lt_of_cell? w ⟨b, _, none⟩ (hc 0 x rfl 0 u hu)⟩, hc⟩
theorem RdK.below (h : RdK k f w S v xs) (hf : ∀ x, ∃ u, (f x)[0]? = some u) (hb : Below w.heap.size w w') : RdK k f w' S v xs :=
  (((h.lt hf).mono (S' := fun b => b < w.heap.size ∧ S b) (fun _ hk => ⟨hk.2, hk.1⟩)).keep ((Keep.of_below hb).mono fun _ hk => hk.1)).mono fun _ hk => hk.2
theorem RdK.open_ (h : RdK k f w S v xs) : ∃ A n cap, v = .slice A n cap ∧ xs.length = n ∧ n ≤ cap ∧ n ≤ 9223372036854775807 ∧
    (∀ i, i < n → ∃ b off x, A = some ⟨b, off, none⟩ ∧ S b ∧ xs[i]? = some x ∧ ∀ (j : Nat) (u : Value), (f x)[j]? = some u → w.cell? ⟨b, off + i * k + j, none⟩ = some u) := by
  obtain ⟨A, cap, rfl, h1, h2, h3⟩ := h
  refine ⟨A, xs.length, cap, rfl, rfl, h1, by unfold maxLen at h2; omega, fun i hi => ?_⟩
  obtain ⟨b, off, rfl, hb, hc⟩ := h3 (fun e => by subst e; simp at hi)
  exact ⟨b, off, _, rfl, hb, List.getElem?_eq_getElem hi, hc i _ (List.getElem?_eq_getElem hi)⟩
theorem flat_len (hf : ∀ x, (f x).length = k) : ∀ (xs : List α), (xs.flatMap f).length = xs.length * k
  | [] => by simp
  | x :: xs => by rw [List.flatMap_cons, List.length_append, hf, flat_len hf xs, List.length_cons, Nat.add_mul]; omega
theorem flat_at (hf : ∀ x, (f x).length = k) : ∀ (xs : List α) (i : Nat) (x : α), xs[i]? = some x → ∀ (j : Nat) (u : Value), (f x)[j]? = some u → (xs.flatMap f)[i * k + j]? = some u
  | [], i, x, h, _, _, _ => by simp at h
  | y :: xs, 0, x, h, j, u, hu => by
    simp only [List.getElem?_cons_zero, Option.some.injEq] at h
    subst h
    rw [List.flatMap_cons, Nat.zero_mul, Nat.zero_add, List.getElem?_append_left (List.getElem?_eq_some_iff.1 hu).1, hu]
  | y :: xs, i + 1, x, h, j, u, hu => by
    simp only [List.getElem?_cons_succ] at h
    rw [List.flatMap_cons, List.getElem?_append_right (by rw [hf, Nat.add_mul]; omega), hf, show (i + 1) * k + j - k = i * k + j from by rw [Nat.add_mul]; omega]
    exact flat_at hf xs i x h j u hu
theorem RdK.of_own {base : Nat} {e : TypeId} {n : Nat} (hf : ∀ x, (f x).length = k) (h : w.ownsRow base e k v n (xs.flatMap f)) (hn : xs.length = n) : RdK k f w (base ≤ ·) v xs := by
  rcases h.2 with ⟨rfl, rfl⟩ | ⟨g, cap, cur, rfl, hb, hg, h1, h2, h3, h4⟩
  · exact ⟨none, 0, by rw [hn], by omega, by simp [maxLen], fun h0 => absurd (List.length_eq_zero_iff.1 hn) h0⟩
  · refine ⟨_, cap, by rw [hn], by omega, h2, fun _ => ⟨g, 0, rfl, hb, fun i x hx j u hu => ?_⟩⟩
    have hat := flat_at hf xs i x hx j u hu
    have hlt := (List.getElem?_eq_some_iff.1 hat).1
    have hc := h.cellAt (i * k + j) (by rw [flat_len hf] at hlt; rw [← hn]; exact hlt)
    rw [Nat.zero_add, hc, hat]
end
end Go.Proofs.Ytlanephpmoajiaa
