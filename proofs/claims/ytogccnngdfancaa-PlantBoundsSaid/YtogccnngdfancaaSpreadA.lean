/- The walks of Book.spread's closures. -/
import Derived.Test.YtogccnngdfancaaFind
import Derived.Test.YtogccnngdfancaaFuncs
import Derived.Shelf.Abstract
import Derived.Laws.EntriesVeiled
namespace Go.Proofs.Ytogccnngdfancaa
open Go.RowKit Go.Shelf

/-- What the closures of spread have captured: the book, the marks, the index, the first test, the item. -/
structure SpEnv (W : World) (B bb : Nat) (vi : Value) (r : Option Nat) (fs : List Value) (F : Nat → Prop) (xs : List ItemD) (b1 b2 b3 b4 b5 g : Nat) (m : List Bool) (i : Nat) (fid : FuncId) (fst cpt : Array Value) (x : ItemD) (vf : Value) : Prop where
  c1 : W.cell? ⟨b1, 0, none⟩ = some (.pointer (some ⟨bb, 0, none⟩))
  c2 : W.cell? ⟨b2, 0, none⟩ = some (.slice (some ⟨g, 0, none⟩) m.length m.length)
  c3 : W.cell? ⟨b3, 0, none⟩ = some (.int .i64 i)
  c4 : W.cell? ⟨b4, 0, none⟩ = some (.func (.func fid) fst cpt)
  c5 : W.heap[b5]? = some (.cells #[.string x.name, .int .i64 x.kind, .int .i64 x.at_, vf] 57 (0, 0))
  cm : ∀ j v, m[j]? = some v → W.cell? ⟨g, j, none⟩ = some (.bool v)
  bk : BkAt W B bb vi r fs F xs
theorem SpEnv.below {W W' : World} {B bb : Nat} {vi : Value} {r : Option Nat} {fs : List Value} {F : Nat → Prop} {xs : List ItemD} {b1 b2 b3 b4 b5 g : Nat} {m : List Bool} {i : Nat} {fid : FuncId} {fst cpt : Array Value} {x : ItemD} {vf : Value}
    (h : SpEnv W B bb vi r fs F xs b1 b2 b3 b4 b5 g m i fid fst cpt x vf) (hb : Below W.heap.size W W') : SpEnv W' B bb vi r fs F xs b1 b2 b3 b4 b5 g m i fid fst cpt x vf := by
  have cl : ∀ {p : Addr} {v : Value}, W.cell? p = some v → W'.cell? p = some v := fun {p v} hp => (hb.cell (World.block_lt_of_cell? W p hp)).trans hp
  exact ⟨cl h.c1, cl h.c2, cl h.c3, cl h.c4, (hb.block _ (Array.getElem?_eq_some_iff.1 h.c5).1).trans h.c5, fun j v hj => cl (h.cm j v hj), h.bk.below hb⟩

/-- The test of spread for one choice. -/
def spHit (xs : List ItemD) (m : List Bool) (i : Nat) (qx : Bool) (nm : ByteArray) : Bool := match idx xs nm with | some c => m.getD c false || (decide (c = i) && qx) | none => false

set_option maxRecDepth 100000 in
set_option maxHeartbeats 1000000 in
theorem spread99_any {B bb : Nat} {vi : Value} {r : Option Nat} {fs : List Value} {F : Nat → Prop} {xs : List ItemD} {b1 b2 b3 b4 b5 g : Nat} {m : List Bool} {i : Nat} {fid : FuncId} {fst cpt : Array Value} {x : ItemD} {vf : Value} (W : World)
    (hE : SpEnv W B bb vi r fs F xs b1 b2 b3 b4 b5 g m i fid fst cpt x vf) (eg : ∀ args w, (callFunc fid args).run Try.prog w = .ok (.enter fid args) w) (qx : Bool)
    (hq : ∀ w', Below W.heap.size W w' → Calls Try.prog fid (fst ++ #[.agg #[.string x.name, .int .i64 x.kind, .int .i64 x.at_, vf]] ++ cpt) w' fun e w'' => e = .returned (.bool qx) ∧ Below w'.heap.size w' w'')
    (nm : ByteArray) (hnm : nm.size ≤ maxLen) (c : Nat) (hc : idx xs nm = some c) (hm : m.length = xs.length) :
    Calls Try.prog 68 #[.string nm, .pointer (some ⟨b1, 0, none⟩), .pointer (some ⟨b2, 0, none⟩), .pointer (some ⟨b3, 0, none⟩), .pointer (some ⟨b4, 0, none⟩), .pointer (some ⟨b5, 0, none⟩)] W
      fun e w' => e = .returned (.bool (spHit xs m i qx nm)) ∧ Below W.heap.size W w' := by
  have hcl := idx_lt hc
  have hlk := MapV.look hE.bk.map hnm
  rw [show idxI xs nm = c from by simp [idxI, hc]] at hlk
  have e1 := hE.bk.cell1
  have c1 := hE.c1; have c2 := hE.c2; have c3 := hE.c3; have c4 := hE.c4
  have c50 := cell_of_row W b5 0 _ _ _ hE.c5
  have c51 := cell_of_row W b5 1 _ _ _ hE.c5
  have c52 := cell_of_row W b5 2 _ _ _ hE.c5
  have c53 := cell_of_row W b5 3 _ _ _ hE.c5
  have hcm : m[c]? = some (m[c]'(by omega)) := List.getElem?_eq_getElem (by omega)
  have hmc := hE.cm c _ hcm
  have HS : Hid (spHit xs m i qx nm = (m[c]'(by omega) || (decide (c = i) && qx))) := by unfold spHit Hid; simp only [hc, List.getD, hcm, Option.getD_some]
  obtain ⟨mv, hmv⟩ : ∃ mv, mv = m[c]'(by omega) := ⟨_, rfl⟩
  rw [← hmv] at hmc HS
  obtain ⟨n, hn⟩ : ∃ n, n = m.length := ⟨_, rfl⟩
  rw [← hn] at c2
  have hcn : c < n := by omega
  have HQ := Lib.hid hq
  clear hE hcm hmv hn hm hcl hc hq
  obtain ⟨xn, xk, xa, xf⟩ := x
  simp only at *
  cases mv with
  | true =>
    go_enter Try.func68, Try.ntmps68
    go_wp2_with fail
    go_ret
    exact ⟨ret_bool (by rw [HS.out]; rfl), Below.refl _ _⟩
  | false =>
    by_cases hci : c = i
    · have hb : ((c : Int) == (i : Int)) = true := by rw [beq_iff_eq]; omega
      have HS1 : Hid (spHit xs m i qx nm = qx) := by have := HS.out; unfold Hid; rw [this, decide_eq_true hci]; simp
      subst hci
      go_enter Try.func68, Try.ntmps68
      go_wp2_with fail
      refine (HQ.out _ (Below.refl _ _)).mono ?_
      rintro e w' ⟨rfl, hb1⟩
      cases qx with
      | true =>
        go_wp2_with fail
        go_ret
        exact ⟨ret_bool (by rw [HS1.out]), hb1⟩
      | false =>
        go_wp2_with fail
        go_ret
        exact ⟨ret_bool (by rw [HS1.out]), hb1⟩
    · have hb : ((c : Int) == (i : Int)) = false := by
        have : (c : Int) ≠ i := by omega
        simpa using this
      have HS1 : Hid (spHit xs m i qx nm = false) := by have := HS.out; unfold Hid; rw [this, decide_eq_false hci]; rfl
      clear hci
      go_enter Try.func68, Try.ntmps68
      go_wp2_with fail
      go_ret
      exact ⟨ret_bool (by rw [HS1.out]), Below.refl _ _⟩

theorem enters99 : ∀ args w, (callFunc 68 args).run Try.prog w = .ok (.enter 68 args) w := enters_of Try.func68 (by kernel_rfl) rfl
theorem enters97 : ∀ args w, (callFunc 66 args).run Try.prog w = .ok (.enter 66 args) w := enters_of Try.func66 (by kernel_rfl) rfl
theorem Rd.vals {α : Type} {f : α → Value} {w : World} {S : Nat → Prop} {v : Value} {xs : List α} (h : Rd f w S v xs) : Rd id w S v (xs.map f) := by
  obtain ⟨A, cap, rfl, h1, h2, h3⟩ := h
  refine ⟨A, cap, by simp, by simpa using h1, h2, fun hn => ?_⟩
  obtain ⟨b, off, rfl, hb, hc⟩ := h3 (by simpa using hn)
  exact ⟨b, off, rfl, hb, fun i hi => by rw [hc i (by simpa using hi)]; simp⟩
theorem anyIdx_any {α : Type} (d : α) (p : α → Bool) (l : List α) : anyIdx (fun i => p (l.getD i d)) l.length = l.any p := by
  unfold anyIdx
  rw [Bool.eq_iff_iff, List.any_eq_true, List.any_eq_true]
  constructor
  · rintro ⟨i, hi, h⟩
    have hi := List.mem_range.1 hi
    refine ⟨l[i], List.getElem_mem hi, ?_⟩
    simpa [List.getD, List.getElem?_eq_getElem hi] using h
  · rintro ⟨x, hx, h⟩
    obtain ⟨i, hi, rfl⟩ := List.mem_iff_getElem.1 hx
    exact ⟨i, List.mem_range.2 hi, by simpa [List.getD, List.getElem?_eq_getElem hi] using h⟩

set_option maxRecDepth 100000 in
set_option maxHeartbeats 1000000 in
theorem spread97_any {B bb : Nat} {vi : Value} {r : Option Nat} {fs : List Value} {F : Nat → Prop} {xs : List ItemD} {b1 b2 b3 b4 b5 g : Nat} {m : List Bool} {i : Nat} {fid : FuncId} {fst cpt : Array Value} {x : ItemD} {vf : Value} (W : World)
    (hE : SpEnv W B bb vi r fs F xs b1 b2 b3 b4 b5 g m i fid fst cpt x vf) (eg : ∀ args w, (callFunc fid args).run Try.prog w = .ok (.enter fid args) w) (qx : Bool)
    (hq : ∀ w', Below W.heap.size W w' → Calls Try.prog fid (fst ++ #[.agg #[.string x.name, .int .i64 x.kind, .int .i64 x.at_, vf]] ++ cpt) w' fun e w'' => e = .returned (.bool qx) ∧ Below w'.heap.size w' w'')
    (u : Value) (cs : List ByteArray) (S : Nat → Prop) (hu : Rd .string W S u cs) (hcs : ∀ nm ∈ cs, nm.size ≤ maxLen ∧ (idx xs nm).isSome = true) (hm : m.length = xs.length) :
    Calls Try.prog 66 #[u, .pointer (some ⟨b1, 0, none⟩), .pointer (some ⟨b2, 0, none⟩), .pointer (some ⟨b3, 0, none⟩), .pointer (some ⟨b4, 0, none⟩), .pointer (some ⟨b5, 0, none⟩)] W
      fun e w' => e = .returned (.bool (cs.any (spHit xs m i qx))) ∧ Below W.heap.size W w' := by
  have hcf := fun w1 (hb1 : Below W.heap.size W w1) => containsFunc98_any u (cs.map Value.string) S 68 #[.pointer (some ⟨b1, 0, none⟩), .pointer (some ⟨b2, 0, none⟩), .pointer (some ⟨b3, 0, none⟩), .pointer (some ⟨b4, 0, none⟩), .pointer (some ⟨b5, 0, none⟩)] enters99
    (fun j => spHit xs m i qx (cs.getD j ⟨#[]⟩)) w1 (hu.vals.below hb1) (fun j v hj w' hb' => by
      rw [List.getElem?_map, Option.map_eq_some_iff] at hj
      obtain ⟨nm, hnm, rfl⟩ := hj
      obtain ⟨hsz, hsome⟩ := hcs nm (mem_of_get? hnm)
      obtain ⟨c, hc⟩ := Option.isSome_iff_exists.1 hsome
      have hb2 := hb1.trans (hb'.mono hb1.size)
      have := spread99_any w' (hE.below hb2) eg qx (fun w3 h3 => hq w3 (hb2.trans (h3.mono hb2.size))) nm hsz c hc hm
      rw [show cs.getD j ⟨#[]⟩ = nm from by simp [List.getD, hnm]]
      exact this)
  rw [List.length_map, anyIdx_any] at hcf
  have HCF := Lib.hid hcf
  obtain ⟨rb, hrb⟩ : ∃ rb, rb = cs.any (spHit xs m i qx) := ⟨_, rfl⟩
  rw [← hrb] at HCF ⊢
  obtain ⟨A, cap, rfl, _⟩ := hu
  clear hcf hrb hE hq eg
  go_enter Try.func66, Try.ntmps66
  go_wp2_with fail
  refine (HCF.out _ (Below.refl _ _)).mono ?_
  rintro e w' ⟨rfl, hb1⟩
  go_wp2_with fail
  go_ret
  exact ⟨rfl, hb1⟩
end Go.Proofs.Ytogccnngdfancaa
