/- More of two rows that grow side by side: a store beside them, a store into one of them; a copy of a list of ints. -/
import Derived.Test.YtogccnngdfancaaOne
import Derived.Maps.AppendAt
namespace Go.Proofs.Ytogccnngdfancaa
open Go.RowKit
set_option linter.unusedVariables false
set_option linter.unusedSimpArgs false
theorem TwoO.poke {B : Nat} {e1 e2 : TypeId} {K1 K2 : Nat} {v1 : Value} {n1 : Nat} {c1 : List Value} {v2 : Value} {n2 : Nat} {c2 : List Value} {W0 W : World} (h : TwoO B e1 e2 K1 K2 v1 n1 c1 v2 n2 c2 (fun _ _ => False) W0 W) {g : Nat} (hg : B ≤ g) (h1 : v1.ownBlock ≠ some g) (h2 : v2.ownBlock ≠ some g) (i : Nat) (u : Value) :
    TwoO B e1 e2 K1 K2 v1 n1 c1 v2 n2 c2 (fun _ _ => False) W0 (W.setCell ⟨g, i, none⟩ u) := by
  have hk : Keep (· ≠ g) W (W.setCell ⟨g, i, none⟩ u) := (Keep.refl _ W).setCell (fun h => h rfl) _
  have hgr : W.grownBy (W.setCell ⟨g, i, none⟩ u) (some g) := ⟨hk.os, hk.tape, hk.output, hk.size, fun k _ hne => hk.block k (fun e => hne (by rw [e]))⟩
  exact ⟨h.a.kept hgr (.inr h1), h.b.kept hgr (.inr h2), h.ne, fun k o hp => hp.elim, h.bel.setCell hg _, by have := h.hB; simpa using this⟩
/-- An element of the first row is stored anew. -/
theorem TwoO.set1 {B : Nat} {e1 e2 : TypeId} {K2 : Nat} {g n1 cp : Nat} {c1 : List Value} {v2 : Value} {n2 : Nat} {c2 : List Value} {W0 W : World} (h : TwoO B e1 e2 1 K2 (.slice (some ⟨g, 0, none⟩) n1 cp) n1 c1 v2 n2 c2 (fun _ _ => False) W0 W) (i : Nat) (u : Value) :
    TwoO B e1 e2 1 K2 (.slice (some ⟨g, 0, none⟩) n1 cp) n1 (c1.set i u) v2 n2 c2 (fun _ _ => False) W0 (W.setCell ⟨g, i, none⟩ u) := by
  have hk : Keep (· ≠ g) W (W.setCell ⟨g, i, none⟩ u) := (Keep.refl _ W).setCell (fun h => h rfl) _
  have hgr : W.grownBy (W.setCell ⟨g, i, none⟩ u) (some g) := ⟨hk.os, hk.tape, hk.output, hk.size, fun k _ hne => hk.block k (fun e => hne (by rw [e]))⟩
  have h2 : v2.ownBlock ≠ some g := h.ne g rfl
  have hB : B ≤ g := (h.a.lt g rfl).1
  exact ⟨(h.a.stored i u).1, h.b.kept hgr (.inr h2), h.ne, fun k o hp => hp.elim, h.bel.setCell hB _, by have := h.hB; simpa using this⟩
theorem TwoO.weak {B : Nat} {e1 e2 : TypeId} {K1 K2 : Nat} {v1 : Value} {n1 : Nat} {c1 : List Value} {v2 : Value} {n2 : Nat} {c2 : List Value} {P : Nat → Obj → Prop} {W0 W : World} (h : TwoO B e1 e2 K1 K2 v1 n1 c1 v2 n2 c2 P W0 W) : TwoO B e1 e2 K1 K2 v1 n1 c1 v2 n2 c2 (fun _ _ => False) W0 W :=
  h.strike (fun k o hp => hp.elim)
set_option maxRecDepth 100000 in
set_option maxHeartbeats 400000 in
theorem cloneI_own (v : Value) (xs : List Int) (S : Nat → Prop) (w : World) (hv : Rd (Value.int .i64) w S v xs) (hl : xs.length ≤ 1000000) :
    Calls Try.prog 18 #[v] w fun e w' => (∃ v', e = .returned v' ∧ w'.ownsRow w.heap.size 3 1 v' xs.length (xs.map (Value.int .i64))) ∧ Below w.heap.size w w' := by
  obtain ⟨i0, hi, hz0, hz1, hz2⟩ := info_parts info3
  have hv0 := hv.lt
  obtain ⟨A, cap, rfl, hcap, hmax, _⟩ := hv
  have heq := fun (w : World) (A : Option Addr) (n c : Nat) => Lib.run_eql_slice_nil (P := Try.prog) w 22 3 A n c 0 0 Try.underlying22
  obtain ⟨n, hn⟩ : ∃ n, n = xs.length := ⟨_, rfl⟩
  rw [← hn] at hl hcap hv0 ⊢
  have HN := Lib.hid hn
  clear hn
  cases A with
  | none =>
    have HX := Lib.hid hv0.nil_of
    go_enter Try.func18, Try.ntmps18
    go_wp2_with fail
    go_ret
    exact ⟨⟨_, rfl, by rw [HN.out, HX.out]; exact World.ownsRow_nil _ _ _ _⟩, Below.refl _ _⟩
  | some ad =>
    have hc1 := (hv0.keep (((Keep.refl _ w).alloc (fun k hk => hk.2) (.cells #[] 3)))).cells
    have HC := Lib.hid hc1
    have HL : Hid ((xs.map (Value.int .i64)).length = n * 1) := by rw [List.length_map, HN.out]; show _ = _; omega
    clear hc1 hv0
    go_enter Try.func18, Try.ntmps18
    go_wp2_with (at_builtin; refine wpList_append_own _ rfl _ _ 22 rfl w.heap.size 3 i0 (.int .i64 0) 1 8 Try.underlying22 hi hz0 hz1 hz2 rfl (by decide) _ 0 [] rfl (World.ownsRow_made w #[] 0 (Nat.le_refl _) (by decide) rfl) ad n cap (xs.map (Value.int .i64)) rfl HL.out HC.out (fun u hu => by obtain ⟨x, _, rfl⟩ := List.mem_map.1 hu; rfl) (by unfold maxLen; omega) (by omega) (by simp) ?_; intro v' w1 hown' hgrow _)
    go_ret
    have hown'' : w1.ownsRow w.heap.size 3 1 v' n (xs.map (Value.int .i64)) := by simpa using hown'
    exact ⟨⟨_, rfl, hown''⟩, ((Below.refl _ w).alloc (Nat.le_refl _) _).grown hgrow (by simp) (fun k hk => by simp [Value.ownBlock, Act.eval] at hk; omega)⟩
end Go.Proofs.Ytogccnngdfancaa
