/- The walk of slices.Clone over tyres; rows of tyres of one's own. -/
import Derived.Test.YtfondpakbiagjaaGreatDoorHCure
namespace Go.Proofs.YtfondpakbiagjaaGreatDoor
open Go.RowKit Go.Lib
set_option linter.unusedVariables false
set_option linter.unusedSimpArgs false
set_option maxRecDepth 100000
set_option maxHeartbeats 4000000
/-- A row of tyres of one's own. -/
def OwnTy (w : World) (B : Nat) (v : Value) (T : List TyD) : Prop := w.ownsRow B 184 18 v T.length (T.flatMap tyC)
theorem OwnTy.slice {w : World} {B : Nat} {v : Value} {T : List TyD} (h : OwnTy w B v T) : ∃ A c, v = .slice A T.length c := ownsRow_slice h
theorem OwnTy.rd {w : World} {B : Nat} {v : Value} {T : List TyD} (h : OwnTy w B v T) : RdT w v T := (RdK.of_own tyC_len h rfl).mono fun _ _ => trivial
theorem OwnTy.stay {w w' : World} {B : Nat} {v : Value} {T : List TyD} (h : OwnTy w B v T) (hb : Below w.heap.size w w') : OwnTy w' B v T :=
  World.ownsRow.kept h ⟨hb.os, hb.tape, hb.output, hb.size, fun k hk _ => hb.block k hk⟩ (Classical.em _)
theorem tyC_one {T : List TyD} : ∀ u ∈ T.flatMap tyC, u.oneCell' = true := fun u hu => by
  obtain ⟨p, -, hp⟩ := List.mem_flatMap.1 hu
  unfold tyC at hp
  simp only [List.mem_cons, List.not_mem_nil, or_false] at hp
  rcases hp with rfl | rfl | rfl | rfl | rfl | rfl | rfl | rfl | rfl | rfl | rfl | rfl | rfl | rfl | rfl | rfl | rfl | rfl <;> rfl
theorem RdT.cells {w : World} {ad : Addr} {n cap : Nat} {T : List TyD} (h : RdT w (.slice (some ad) n cap) T) : ∀ j u, (T.flatMap tyC)[j]? = some u → w.cell? (ad.add j) = some u := by
  intro j u hu
  obtain ⟨A, c, he, _, _, h3⟩ := h
  have hne : T ≠ [] := fun e => by subst e; simp at hu
  obtain ⟨b, off, rfl, _, hc⟩ := h3 hne
  simp only [Value.slice.injEq, Option.some.injEq] at he
  obtain ⟨rfl, _, _⟩ := he
  have hj : j < T.length * 18 := by rw [← flat_len tyC_len]; exact (List.getElem?_eq_some_iff.1 hu).1
  have hi : j / 18 < T.length := by omega
  have hx : T[j / 18]? = some T[j / 18] := List.getElem?_eq_getElem hi
  have hlen : j % 18 < (tyC T[j / 18]).length := by rw [tyC_len]; omega
  have h4 := flat_at tyC_len T (j / 18) _ hx (j % 18) _ (List.getElem?_eq_getElem hlen)
  rw [show j / 18 * 18 + j % 18 = j by omega, hu] at h4
  injection h4 with h4
  rw [addr_add, h4, show off + j = off + j / 18 * 18 + j % 18 by omega]
  exact hc (j / 18) _ hx (j % 18) _ (List.getElem?_eq_getElem hlen)
theorem cloneT_own (v : Value) (T : List TyD) (w : World) (hv : RdT w v T) (hl : T.length ≤ 1000000) :
    Calls Tryz.prog 138 #[v] w fun e w' => (∃ v', e = .returned v' ∧ OwnTy w' w.heap.size v' T) ∧ Below w.heap.size w w' := by
  obtain ⟨i0, hi, hz0, hz1, hz2⟩ := info_parts infoT
  have HV := Lib.hid hv
  obtain ⟨A, cap, rfl, hmax, hat⟩ := hv.at
  have heq := fun (w : World) (A : Option Addr) (n c : Nat) => Lib.run_eql_slice_nil (P := Tryz.prog) w 119 184 A n c 0 0 Tryz.underlying119
  obtain ⟨n, hn⟩ : ∃ n, n = T.length := ⟨_, rfl⟩
  have HN := Lib.hid hn
  rw [← hn] at hl HV ⊢
  cases A with
  | none =>
    have HX : Hid (T = []) := by
      cases T with
      | nil => rfl
      | cons p T => obtain ⟨b, off, e, -⟩ := hat 0 p rfl; cases e
    clear hv hat hn hmax
    go_enter Tryz.func138, Tryz.ntmps138
    go_wp2_with fail
    go_ret
    exact ⟨⟨_, rfl, by rw [HX.out]; exact World.ownsRow_nil _ _ _ _⟩, Below.refl _ _⟩
  | some ad =>
    have HC : Hid (∀ j u, (T.flatMap tyC)[j]? = some u → (w.alloc (.cells #[] 184)).cell? (ad.add j) = some u) := (RdT.cells (HV.out.below ((Below.refl _ w).alloc (Nat.le_refl _) _)))
    have HL : Hid ((T.flatMap tyC).length = n * 18) := by show _ = _; rw [flat_len tyC_len, HN.out]
    clear hv hat hn hmax
    go_enter Tryz.func138, Tryz.ntmps138
    go_wp2_with (at_builtin; refine wpList_append_own _ rfl _ _ 119 rfl w.heap.size 184 i0 _ 18 144 Tryz.underlying119 hi hz0 hz1 hz2 rfl (by decide) _ 0 [] rfl (World.ownsRow_made w #[] 0 (Nat.le_refl _) (by decide) rfl) ad n cap (T.flatMap tyC) rfl HL.out HC.out tyC_one (by unfold maxLen; omega) (by omega) (by simp) ?_; intro v' w1 hown' hgrow hnil)
    go_ret
    have hown'' : OwnTy w1 w.heap.size v' T := by unfold OwnTy; rw [← HN.out]; simpa using hown'
    exact ⟨⟨_, rfl, hown''⟩, ((Below.refl _ w).alloc (Nat.le_refl _) _).grown hgrow (by simp) (fun k hk => by simp [Value.ownBlock, Act.eval] at hk; omega)⟩
end Go.Proofs.YtfondpakbiagjaaGreatDoor
