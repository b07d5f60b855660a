/- Slices of items as rows of cells: as sources of an append, and out of own rows. -/
import Derived.Test.YtlanephpmoajiaaItems
import Derived.Test.YtlanephpmoajiaaAppendRd
import Derived.Test.YtlanephpmoajiaaBookMid
namespace Go.Proofs.Ytlanephpmoajiaa
open Go.RowKit

/-- The slice value x leads to m rows of cells, or is nil. -/
def IsSrc (w : World) (x : Value) (m size : Nat) (news : List Value) : Prop :=
  (∃ c, x = .slice none 0 c ∧ m = 0 ∧ news = []) ∨ ∃ ad c, x = .slice (some ad) m c ∧ news.length = m * size ∧ ∀ j u, news[j]? = some u → w.cell? (ad.add j) = some u
theorem IsSrc.alloc {w : World} {x : Value} {m size : Nat} {news : List Value} (h : IsSrc w x m size news) (hn : ∀ ad c, x = .slice (some ad) m c → m = 0 ∨ ad.block < w.heap.size) (o : Obj) : IsSrc (w.alloc o) x m size news := by
  rcases h with h | ⟨ad, c, h1, h2, h3⟩
  · exact .inl h
  · refine .inr ⟨ad, c, h1, h2, fun j u hu => ?_⟩
    rcases hn ad c h1 with h | h
    · subst h
      have := (List.getElem?_eq_some_iff.1 hu).1
      omega
    · have hb : (ad.add j).block = ad.block := by unfold Addr.add; split <;> rfl
      rw [← h3 j u hu]
      exact World.cell?_of_block (by rw [hb]; exact Below.heap_alloc _ _ _ h)

theorem append_src (w : World) (base : Nat) (t ty e : TypeId) (i : TypeInfo) (z : Value) (size bytes : Nat) (ht : Try.prog.underlying t = some (.slice e)) (hi : Try.prog.info? e = some i) (hz : i.zero = some z)
    (hsize : i.size = size) (hby : i.bytes = bytes) (hzs : z.cells.size = size) (hsz : 0 < size)
    (v : Value) (n : Nat) (xs : List Value) (hown : w.ownsRow base e size v n xs) (x : Value) (m : Nat) (news : List Value) (hx : IsSrc w x m size news) (h1 : ∀ u ∈ news, u.oneCell' = true)
    (h63 : n + m ≤ maxLen) (hbytes : (n + m) * bytes ≤ 140737488355328) (hbase : base ≤ w.heap.size) :
    ∃ v' w', (Builtin.append_ #[t, t] ty #[v, x]).run Try.prog w = .ok v' w' ∧ w'.ownsRow base e size v' (n + m) (xs ++ news) ∧ w.grownBy w' v.ownBlock ∧
      (∀ b, v'.ownBlock = some b → v.ownBlock = some b ∨ w.heap.size ≤ b) := by
  rcases hx with ⟨c, rfl, rfl, rfl⟩ | ⟨ad, c, rfl, hl, hc⟩
  · obtain ⟨A', c', rfl⟩ : ∃ A c, v = .slice A n c := by
      rcases hown.2 with ⟨rfl, rfl⟩ | ⟨g, cap, cur, rfl, _⟩
      · exact ⟨_, _, rfl⟩
      · exact ⟨_, _, rfl⟩
    have hle : n ≤ c' := by
      rcases hown.2 with ⟨e1, e2⟩ | ⟨g, cap, cur, e1, _, _, e2, _⟩
      · omega
      · simp only [Value.slice.injEq] at e1; omega
    exact ⟨_, w, run_append_nothing w t t ty e i ht hi A' n c' hle _ (Src.ofNil w ht c), by simpa using hown, ⟨rfl, rfl, rfl, Nat.le_refl _, fun _ _ _ => rfl⟩, fun b hb => .inl hb⟩
  · exact append_fresh w base t ty e i z size bytes ht hi hz hsize hby hzs hsz v n xs hown ad m c news hl hc h1 h63 hbytes hbase
theorem wpList_append_src {w : World} {ops : Array Oper} {rest : List Oper} {o : Oper} {a : Act} {Q : Exit → Act → World → Prop} (hgd : o.guard = none) (s x : Operand) (t : TypeId)
    (ho : o.op = .call { callee := .builtin .append, args := #[s, x], argTypes := #[t, t] })
    (base : Nat) (e : TypeId) (i : TypeInfo) (z : Value) (size bytes : Nat) (ht : Try.prog.underlying t = some (.slice e)) (hi : Try.prog.info? e = some i) (hz : i.zero = some z)
    (hsize : i.size = size) (hby : i.bytes = bytes) (hzs : z.cells.size = size) (hsz : 0 < size)
    (v : Value) (n : Nat) (xs : List Value) (hs : a.eval s = v) (hown : w.ownsRow base e size v n xs) (xv : Value) (m : Nat) (news : List Value) (hx : a.eval x = xv) (hr : IsSrc w xv m size news) (h1 : ∀ u ∈ news, u.oneCell' = true)
    (h63 : n + m ≤ maxLen) (hbytes : (n + m) * bytes ≤ 140737488355328) (hbase : base ≤ w.heap.size)
    (h : ∀ v' w', w'.ownsRow base e size v' (n + m) (xs ++ news) → w.grownBy w' v.ownBlock → (∀ b, v'.ownBlock = some b → v.ownBlock = some b ∨ w.heap.size ≤ b) → wpList Try.prog ops Q rest (a.put o.dst v') w') : wpList Try.prog ops Q (o :: rest) a w := by
  refine wpList_plain hgd fun K hK => ?_
  obtain ⟨v', w', hrun, h2, h3, h4⟩ := append_src w base t o.type e i z size bytes ht hi hz hsize hby hzs hsz v n xs hown xv m news hr h1 h63 hbytes hbase
  unfold Oper.wp
  simp [execOp, ho, resolve, invoke, builtin, hs, hx, hrun, Result.andThen]
  exact hK _ _ (h v' w' h2 h3 h4)

theorem Rd2.slice {w : World} {S : Nat → Prop} {f : Value} {xss : List (List ByteArray)} (h : Rd2 w S f xss) : f.oneCell' = true := by
  obtain ⟨vs, ⟨A, cap, rfl, _⟩, _⟩ := h
  rfl
theorem cellsOf_one : ∀ (xs : List ItemD) (fs : List Value), (∀ f ∈ fs, f.oneCell' = true) → ∀ u ∈ cellsOf xs fs, u.oneCell' = true
  | [], _, _, u, h => by simp [cellsOf] at h
  | _ :: _, [], _, u, h => by simp [cellsOf] at h
  | x :: xs, f :: fs, hf, u, h => by
    simp only [cellsOf, List.mem_cons] at h
    rcases h with rfl | rfl | rfl | rfl | h
    · rfl
    · rfl
    · rfl
    · exact hf _ (List.mem_cons_self ..)
    · exact cellsOf_one xs fs (fun f h => hf f (List.mem_cons_of_mem _ h)) u h
/-- A slice of items as a source. -/
theorem RdI.src {w : World} {S : Nat → Prop} {v : Value} {xs : List ItemD} (h : RdI w S v xs) :
    ∃ fs, fs.length = xs.length ∧ (∀ (i : Nat) (x : ItemD), xs[i]? = some x → ∃ f, fs[i]? = some f ∧ Rd2 w S f x.frm) ∧ (∀ f ∈ fs, f.oneCell' = true) ∧ IsSrc w v xs.length 4 (cellsOf xs fs) := by
  obtain ⟨A, cap, rfl, h1, h2, h3⟩ := h
  by_cases hne : xs = []
  · subst hne
    refine ⟨[], rfl, fun i x h => by simp at h, fun f h => by simp at h, ?_⟩
    cases A with
    | none => exact .inl ⟨cap, rfl, rfl, rfl⟩
    | some ad => exact .inr ⟨ad, cap, rfl, rfl, fun j u h => by simp [cellsOf] at h⟩
  · obtain ⟨b, off, rfl, hb, hc⟩ := h3 hne
    obtain ⟨fs, hfl, hfs⟩ := list_of_lt (n := xs.length) (P := fun i (f : Value) => ∀ x, xs[i]? = some x → w.cell? ⟨b, off + i * 4 + 3, none⟩ = some f ∧ Rd2 w S f x.frm) fun i hi => by
      obtain ⟨_, _, _, f, c3, hf⟩ := hc i _ (List.getElem?_eq_getElem hi)
      exact ⟨f, fun x hx => by obtain rfl := Option.some.inj ((List.getElem?_eq_getElem hi).symm.trans hx); exact ⟨c3, hf⟩⟩
    refine ⟨fs, hfl, fun i x hx => ?_, fun f hf => ?_, .inr ⟨_, cap, rfl, cellsOf_len xs fs hfl, fun j u hu => ?_⟩⟩
    · have hi := (List.getElem?_eq_some_iff.1 hx).1
      exact ⟨fs[i]'(by omega), List.getElem?_eq_getElem (by omega), (hfs i _ (List.getElem?_eq_getElem (by omega)) x hx).2⟩
    · obtain ⟨i, hi, rfl⟩ := List.mem_iff_getElem.1 hf
      exact (hfs i _ (List.getElem?_eq_getElem hi) _ (List.getElem?_eq_getElem (by omega))).2.slice
    · have hj : j < xs.length * 4 := by have := (List.getElem?_eq_some_iff.1 hu).1; rwa [cellsOf_len xs fs hfl] at this
      have hi : j / 4 < xs.length := by omega
      obtain ⟨c0, c1, c2, f, c3, _⟩ := hc (j / 4) _ (List.getElem?_eq_getElem hi)
      have hf := (hfs (j / 4) (fs[j / 4]'(by omega)) (List.getElem?_eq_getElem (by omega)) _ (List.getElem?_eq_getElem hi)).1
      obtain ⟨e0, e1, e2, e3⟩ := cellsOf_at xs fs (j / 4) _ _ (List.getElem?_eq_getElem hi) (List.getElem?_eq_getElem (by omega))
      rw [addr_add]
      have hm : j % 4 = 0 ∨ j % 4 = 1 ∨ j % 4 = 2 ∨ j % 4 = 3 := by omega
      rcases hm with hm | hm | hm | hm
      · have e : j / 4 * 4 = j := by omega
        rw [e] at e0 c0
        rw [e0] at hu; rw [c0, hu]
      · have e : j / 4 * 4 + 1 = j := by omega
        rw [e] at e1
        rw [show off + j / 4 * 4 + 1 = off + j from by omega] at c1
        rw [e1] at hu; rw [c1, hu]
      · have e : j / 4 * 4 + 2 = j := by omega
        rw [e] at e2
        rw [show off + j / 4 * 4 + 2 = off + j from by omega] at c2
        rw [e2] at hu; rw [c2, hu]
      · have e : j / 4 * 4 + 3 = j := by omega
        rw [e] at e3
        rw [show off + j / 4 * 4 + 3 = off + j from by omega] at hf
        rw [e3] at hu; rw [hf, hu]
theorem RdI.of_own {w : World} {S : Nat → Prop} {base : Nat} {e : TypeId} {v : Value} {n : Nat} {xs : List ItemD} {fs : List Value} (h : w.ownsRow base e 4 v n (cellsOf xs fs)) (hn : n = xs.length) (hl : fs.length = xs.length)
    (hf : ∀ (i : Nat) (x : ItemD), xs[i]? = some x → ∃ f, fs[i]? = some f ∧ Rd2 w S f x.frm) (hS : ∀ k, base ≤ k → S k) : RdI w S v xs := by
  subst hn
  rcases h.2 with ⟨rfl, h0⟩ | ⟨g, cap, cur, rfl, hb, hg, h1, h2, h3, h4⟩
  · have : xs = [] := List.length_eq_zero_iff.1 h0
    subst this
    exact ⟨none, 0, rfl, Nat.le_refl _, by simp [maxLen], fun h => absurd rfl h⟩
  · refine ⟨_, cap, rfl, h1, h2, fun _ => ⟨g, 0, rfl, hS g hb, fun i x hx => ?_⟩⟩
    obtain ⟨f, hfi, hr⟩ := hf i x hx
    obtain ⟨e0, e1, e2, e3⟩ := cellsOf_at xs fs i x f hx hfi
    have hi := (List.getElem?_eq_some_iff.1 hx).1
    refine ⟨?_, ?_, ?_, f, ?_, hr⟩
    · rw [Nat.zero_add, h.cellAt _ (by omega), e0]
    · rw [Nat.zero_add, h.cellAt _ (by omega), e1]
    · rw [Nat.zero_add, h.cellAt _ (by omega), e2]
    · rw [Nat.zero_add, h.cellAt _ (by omega), e3]
theorem RdI.src_block {w : World} {S : Nat → Prop} {v : Value} {xs : List ItemD} (h : RdI w S v xs) : ∀ ad c, v = .slice (some ad) xs.length c → xs.length = 0 ∨ ad.block < w.heap.size := by
  rintro ad c rfl
  obtain ⟨A, cap, he, _, _, h3⟩ := h.lt
  by_cases hne : xs = []
  · exact .inl (by rw [hne]; rfl)
  · obtain ⟨b, off, rfl, hb, _⟩ := h3 hne
    simp only [Value.slice.injEq, Option.some.injEq] at he
    obtain ⟨rfl, _⟩ := he
    exact .inr hb.2
end Go.Proofs.Ytlanephpmoajiaa
