/- The steps of the reference, copied one by one; the place of a name among those returned. -/
import Derived.Test.YtodckaioeomccaaGreatPart09
import Derived.RangeFuncBox
namespace Go.Proofs.YtodckaioeomccaaGreat
open Go.RowKit Go.Proofs.OrdS
set_option linter.unusedVariables false
set_option linter.unusedSimpArgs false
theorem info102 : (Tryz.prog.info? 102).map (fun i => (i.zero, i.size, i.bytes)) = some (some (.agg #[.string ⟨#[]⟩, .slice none 0 0]), 2, 40) := by kernel_rfl
def stC (p : StepD × Value) : List Value := [.string p.1.name, p.2]
theorem flat_st {ps : List (StepD × Value)} : ∀ {i : Nat} {p : StepD × Value}, ps[i]? = some p → (ps.flatMap stC)[i * 2]? = some (.string p.1.name) ∧ (ps.flatMap stC)[i * 2 + 1]? = some p.2 := by
  induction ps with
  | nil => intro i p h; simp at h
  | cons q ps ih =>
    intro i p h
    cases i with
    | zero =>
      obtain rfl : q = p := by simpa using h
      exact ⟨rfl, rfl⟩
    | succ i =>
      have h' : ps[i]? = some p := by simpa using h
      obtain ⟨h1, h2⟩ := ih h'
      rw [List.flatMap_cons, show (i + 1) * 2 = i * 2 + 2 by omega]
      exact ⟨h1, h2⟩
/-- A row of steps of one's own; what each comes after lies in the first world. -/
def OwnT (w0 w : World) (v : Value) (xs : List StepD) : Prop :=
  ∃ ps : List (StepD × Value), ps.map (·.1) = xs ∧ w.ownsRow w0.heap.size 102 2 v xs.length (ps.flatMap stC) ∧ ∀ p ∈ ps, RdB w0 p.2 p.1.after
theorem OwnT.nil (w0 w : World) : OwnT w0 w (.slice none 0 0) [] := ⟨[], rfl, World.ownsRow_nil _ _ _ _, by simp⟩
theorem OwnT.slice {w0 w : World} {v : Value} {xs : List StepD} (h : OwnT w0 w v xs) : ∃ A c, v = .slice A xs.length c := let ⟨_, _, h, _⟩ := h; ownsRow_slice h
theorem OwnT.stay {w0 w w' : World} {v : Value} {xs : List StepD} (h : OwnT w0 w v xs) (hb : Below w.heap.size w w') : OwnT w0 w' v xs :=
  let ⟨ps, h1, h2, h3⟩ := h
  ⟨ps, h1, World.ownsRow.kept (row := none) h2 ⟨hb.os, hb.tape, hb.output, hb.size, fun j hj _ => hb.block j hj⟩ (by cases hv : v.ownBlock <;> simp), h3⟩
theorem OwnT.low {w0 w : World} {v : Value} {xs : List StepD} (h : OwnT w0 w v xs) : ∀ k, v.ownBlock = some k → w0.heap.size ≤ k := let ⟨_, _, h, _⟩ := h; fun k hk => (World.ownsRow.lt h k hk).1
theorem OwnT.rd {w0 w : World} {v : Value} {xs : List StepD} (h : OwnT w0 w v xs) (hb : Below w0.heap.size w0 w) : RdT w v xs := by
  obtain ⟨ps, rfl, h1, h2⟩ := h
  rcases h1.2 with ⟨rfl, hn⟩ | ⟨g, cap, cur, rfl, hbg, hgc, hnc, hcm, hcs, htake⟩
  · refine ⟨none, 0, by rw [hn], by rw [hn]; exact Nat.le_refl _, by simp [maxLen], fun hne => ?_⟩
    exact absurd (List.eq_nil_of_length_eq_zero hn) hne
  · refine ⟨_, _, rfl, hnc, hcm, fun hne => ⟨g, 0, rfl, fun i x hx => ?_⟩⟩
    have hi := (List.getElem?_eq_some_iff.1 hx).1
    rw [List.getElem?_map] at hx
    obtain ⟨p, hp, rfl⟩ := Option.map_eq_some_iff.1 hx
    obtain ⟨f1, f2⟩ := flat_st hp
    have c1 := World.ownsRow.cellAt h1 (i * 2) (by omega)
    have c2 := World.ownsRow.cellAt h1 (i * 2 + 1) (by omega)
    rw [f1] at c1
    rw [f2] at c2
    rw [Nat.zero_add]
    exact ⟨c1, _, c2, (h2 p (List.mem_of_getElem? hp)).below hb⟩
/-- One more step. -/
theorem wpList_pushT {w w0 w1 : World} {ops : Array Oper} {rest : List Oper} {o : Oper} {a : Act} {Q : Exit → Act → World → Prop} {v : Value} {xs : List StepD} {x : StepD} {A : Option Addr} {k c : Nat} (hgd : o.guard = none) (s y : Operand)
    (ho : o.op = .call { callee := .builtin .append, args := #[s, y], argTypes := #[98, 98] }) (hs : a.eval s = v) (hw : w = w1.alloc (.cells #[.string x.name, .slice A k c] 102)) {p : Nat} (hy : a.eval y = .slice (some ⟨p, 0, none⟩) 1 1) (hp : p = w1.heap.size)
    (hown : OwnT w0 w1 v xs) (hl : xs.length ≤ 1000) (hB : w0.heap.size ≤ w1.heap.size) (hf : RdB w0 (.slice A k c) x.after)
    (h : ∀ v' w', OwnT w0 w' v' (xs ++ [x]) → w.grownBy w' v.ownBlock → wpList Tryz.prog ops Q rest (a.put o.dst v') w') : wpList Tryz.prog ops Q (o :: rest) a w := by
  subst hw hp
  obtain ⟨ps, rfl, h1, h2⟩ := hown
  obtain ⟨i0, hi0, hz0, hz1, hz2⟩ := info_parts info102
  have hown1 := World.ownsRow.alloc h1 (.cells #[.string x.name, .slice A k c] 102)
  refine wpList_plain hgd fun K hK => ?_
  obtain ⟨v', w', hrun, h4, h3, _⟩ := append_fresh (P := Tryz.prog) (w1.alloc (.cells #[.string x.name, .slice A k c] 102)) w0.heap.size 98 o.type 102 i0 (.agg #[.string ⟨#[]⟩, .slice none 0 0]) 2 40 Tryz.underlying98 hi0 hz0 hz1 hz2 rfl (by decide) v _ _ hown1 ⟨w1.heap.size, 0, none⟩ 1 1 [.string x.name, .slice A k c] rfl
    (cells_new w1 #[.string x.name, .slice A k c] 102 (0, 0)) (fun u hu => by
      rcases List.mem_cons.1 hu with rfl | hu
      · rfl
      · rw [List.mem_singleton.1 hu]; rfl) (by unfold maxLen; omega) (by omega) (by simp; omega)
  unfold Oper.wp
  simp [execOp, ho, resolve, invoke, builtin, hs, hy, hrun, Result.andThen]
  refine hK _ _ (h v' w' ⟨ps ++ [(x, .slice A k c)], by simp, ?_, fun p hp => ?_⟩ h3)
  · rw [List.flatMap_append, List.length_append]
    simpa [stC] using h4
  · rcases List.mem_append.1 hp with hp | hp
    · exact h2 p hp
    · rw [List.mem_singleton.1 hp]; exact hf
set_option maxRecDepth 100000 in
set_option maxHeartbeats 1000000 in
theorem at_any (v : Value) (l : List ByteArray) (nm : ByteArray) (gb : Nat) (w : World) (h : RdB w v l) (hb : w.cell? ⟨gb, 0, none⟩ = some v) :
    Calls Tryz.prog 51 #[.string nm, .pointer (some ⟨gb, 0, none⟩)] w fun e w' => e = .returned (.int .i64 (atI l nm)) ∧ w' = w := by
  obtain ⟨A, cap, rfl, hcap, hmax, hcm, hc⟩ := h.at_
  have HC := Lib.hid hc
  have HA := Lib.hid (fun k => @atI_hit l nm k)
  have HN := Lib.hid (@atI_none l nm)
  obtain ⟨r, hr⟩ : ∃ r, r = atI l nm := ⟨_, rfl⟩
  rw [← hr] at HA HN ⊢
  obtain ⟨n, hn⟩ : ∃ n, n = l.length := ⟨_, rfl⟩
  rw [← hn] at HC HN hcap hmax hb
  clear h hc hcm hr hn
  go_enter Tryz.func51, Tryz.ntmps51
  go_wp2_with fail
  go_loop [7] (fun iv => ∃ k : Nat, k ≤ n ∧ iv = .int .i64 (k : Int) ∧ Hid (∀ j, j < k → l[j]? ≠ some nm)) (fun iv => n - (intOf iv).toNat)
  case atStart => exact ⟨0, by omega, rfl, fun j hj => absurd hj (by omega)⟩
  case round =>
    obtain ⟨k, hk, rfl, HK⟩ := hrel
    by_cases hlt : k < n
    · obtain ⟨b, off, u, rfl, _, hu, hcell⟩ := HC.out k hlt
      have heq := strEq u nm
      have HU := Lib.hid hu
      clear hu
      by_cases he : u = nm
      · subst he
        have hb : (u.toList == u.toList) = true := by simp
        have HE : Hid (r = (k : Int)) := HA.out k HU.out HK.out
        clear heq
        go_wp2_with fail
        go_ret
        exact ⟨ret_int HE.out.symm, rfl⟩
      · have hb : (u.toList == nm.toList) = false := by rw [heq]; exact decide_eq_false he
        have HK1 : Hid (∀ j, j < k + 1 → l[j]? ≠ some nm) := fun j hj => by
          rcases Nat.lt_or_ge j k with h | h
          · exact HK.out j h
          · obtain rfl : j = k := by omega
            rw [HU.out]; exact fun e => he (Option.some.inj e)
        clear heq he
        go_wp2_with fail
        go_round
        case rel => exact ⟨k + 1, by omega, by go_num, HK1⟩
        case measure => simp [intOf]; omega
    · obtain rfl : n = k := by omega
      have HE : Hid (r = -1) := HN.out HK.out
      go_wp2_with fail
      go_ret
      exact ⟨ret_int HE.out.symm, rfl⟩
end Go.Proofs.YtodckaioeomccaaGreat
