/- The walks of fits. -/
import Derived.Test.YtogccnngdfancaaFits1
import Derived.Test.YtogccnngdfancaaOne
namespace Go.Proofs.Ytogccnngdfancaa
open Go.RowKit
set_option linter.unusedVariables false
set_option linter.unusedSimpArgs false
def atB {α : Type} (P : α → Bool) (l : List α) (i : Nat) : Bool := match l[i]? with | some x => P x | none => false
theorem atB_hit {α : Type} {P : α → Bool} {l : List α} {i : Nat} {x : α} (h : l[i]? = some x) : atB P l i = P x := by unfold atB; rw [h]
theorem anyIdx_atB {α : Type} (P : α → Bool) (l : List α) : anyIdx (atB P l) l.length = l.any P := by
  unfold anyIdx
  rw [Bool.eq_iff_iff, List.any_eq_true, List.any_eq_true]
  constructor
  · rintro ⟨i, hi, h⟩
    have hi := List.mem_range.1 hi
    rw [atB_hit (List.getElem?_eq_getElem hi)] at h
    exact ⟨_, List.getElem_mem hi, h⟩
  · rintro ⟨x, hx, h⟩
    obtain ⟨i, hi, rfl⟩ := List.mem_iff_getElem.1 hx
    exact ⟨i, List.mem_range.2 hi, by rw [atB_hit (List.getElem?_eq_getElem hi)]; exact h⟩
set_option maxHeartbeats 400000 in
theorem indexFuncJ_any (v : Value) (l : List JobD) (S : Nat → Prop) (fid : FuncId) (cpt : Array Value) (eg : ∀ args w, (callFunc fid args).run Try.prog w = .ok (.enter fid args) w) (P : JobD → Bool) (w : World) (hv : RdK 3 jobC w S v l)
    (hf : ∀ x ∈ l, ∀ w', Below w.heap.size w w' → Calls Try.prog fid (#[JobV x] ++ cpt) w' fun e w'' => e = .returned (.bool (P x)) ∧ Below w'.heap.size w' w'') :
    Calls Try.prog 80 #[v, .func (.func fid) #[] cpt] w fun e w' => e = .returned (.int .i64 (firstIdx (atB P l) l.length)) ∧ Below w.heap.size w w' := by
  obtain ⟨A, n, cap, rfl, hn, hcap, hmax, hc⟩ := (hv.lt jobC_0).open_
  rw [hn]
  obtain ⟨p, hp⟩ : ∃ p, p = atB P l := ⟨_, rfl⟩
  have HF : Hid (∀ k x, l[k]? = some x → ∀ w', Below w.heap.size w w' → Calls Try.prog fid (#[JobV x] ++ cpt) w' fun e w'' => e = .returned (.bool (p k)) ∧ Below w'.heap.size w' w'') := fun k x hx => by
    rw [hp, atB_hit hx]
    exact hf x (mem_of_get? hx)
  rw [← hp]
  have HN := Lib.hid hn
  have HC := Lib.hid hc
  clear hn hf hp hc hv
  go_enter Try.func80, Try.ntmps80
  go_wp2_with fail
  go_loopw [8] (fun i wr => ∃ k : Nat, k ≤ n ∧ i = .int .i64 k ∧ Hid (∀ j, j < k → p j = false) ∧ Below w.heap.size w wr) (fun i _ => n - (intOf i).toNat)
  case atStart => exact ⟨0, by omega, rfl, fun j hj => absurd hj (by omega), Below.refl _ _⟩
  case round =>
    obtain ⟨k, hk, rfl, HK, hbl⟩ := hrel
    by_cases hlt : k < n
    · obtain ⟨b, off, x, rfl, ⟨_, hbw⟩, hu, hcell⟩ := HC.out k hlt
      have d0 : wr.cell? ⟨b, off + k * 3, none⟩ = some (.int .i64 x.press) := (hbl.cell (p := ⟨b, _, none⟩) hbw).trans (hcell 0 _ rfl)
      have d1 : wr.cell? ⟨b, off + k * 3 + 1, none⟩ = some (.int .i64 x.kind) := (hbl.cell (p := ⟨b, _, none⟩) hbw).trans (hcell 1 _ rfl)
      have d2 : wr.cell? ⟨b, off + k * 3 + 2, none⟩ = some (.int .i64 x.start) := (hbl.cell (p := ⟨b, _, none⟩) hbw).trans (hcell 2 _ rfl)
      have HCO := Lib.hid (HF.out k x hu wr hbl)
      have HBL := Lib.hid hbl
      obtain ⟨xp, xk, xs⟩ := x
      simp only [JobV] at HCO d0 d1 d2
      clear hcell hu hbl
      cases hp : p k with
      | true =>
        have HR := Lib.hid (firstIdx_hit hlt hp HK.out)
        rw [hp] at HCO
        clear hp
        go_wp2_with fail
        refine HCO.out.mono ?_
        rintro e w1 ⟨rfl, hb1⟩
        go_wp2_with fail
        go_ret
        exact ⟨ret_int HR.out.symm, HBL.out.trans (hb1.mono HBL.out.size)⟩
      | false =>
        have HK1 : Hid (∀ j, j < k + 1 → p j = false) := fun j hj => by
          rcases Nat.lt_or_ge j k with h | h
          · exact HK.out j h
          · obtain rfl : j = k := by omega
            exact hp
        rw [hp] at HCO
        clear hp
        go_wp2_with fail
        refine HCO.out.mono ?_
        rintro e w1 ⟨rfl, hb1⟩
        go_wp2_with fail
        go_roundw
        case rel => exact ⟨k + 1, by omega, by go_num, HK1, HBL.out.trans (hb1.mono HBL.out.size)⟩
        case measure => simp [intOf]; omega
    · have HR := Lib.hid (firstIdx_miss (n := n) (fun j hj => HK.out j (by omega)))
      go_wp2_with fail
      go_ret
      exact ⟨ret_int HR.out.symm, hbl⟩
set_option maxHeartbeats 400000 in
theorem containsFuncJ_any (v : Value) (l : List JobD) (S : Nat → Prop) (fid : FuncId) (cpt : Array Value) (eg : ∀ args w, (callFunc fid args).run Try.prog w = .ok (.enter fid args) w) (P : JobD → Bool) (w : World) (hv : RdK 3 jobC w S v l)
    (hf : ∀ x ∈ l, ∀ w', Below w.heap.size w w' → Calls Try.prog fid (#[JobV x] ++ cpt) w' fun e w'' => e = .returned (.bool (P x)) ∧ Below w'.heap.size w' w'') :
    Calls Try.prog 58 #[v, .func (.func fid) #[] cpt] w fun e w' => e = .returned (.bool (l.any P)) ∧ Below w.heap.size w w' := by
  have HC := Lib.hid (indexFuncJ_any v l S fid cpt eg P w hv hf)
  have HA := Lib.hid (anyIdx_first (atB P l) l.length)
  rw [anyIdx_atB] at HA
  obtain ⟨q, hq⟩ : ∃ q, q = firstIdx (atB P l) l.length := ⟨_, rfl⟩
  rw [← hq] at HC HA
  clear hf hv eg hq
  go_enter Try.func58, Try.ntmps58
  go_wp2_with (go_at_call 80; refine HC.out.mono ?_; rintro e w1 ⟨rfl, hb1⟩)
  go_ret
  exact ⟨ret_bool HA.out, hb1⟩
theorem jobC_nil {w : World} {S : Nat → Prop} {n c : Nat} {l : List JobD} (h : RdK 3 jobC w S (.slice none n c) l) : l = [] := by
  obtain ⟨A, c', he, _, _, h3⟩ := h
  by_cases h0 : l = []
  · exact h0
  · obtain ⟨b, off, rfl, _⟩ := h3 h0
    simp at he
set_option maxRecDepth 100000 in
set_option maxHeartbeats 400000 in
theorem cloneJ_own (v : Value) (l : List JobD) (S : Nat → Prop) (w : World) (hv : RdK 3 jobC w S v l) (hll : l.length ≤ 1000000) :
    Calls Try.prog 41 #[v] w fun e w' => (∃ v', e = .returned v' ∧ w'.ownsRow w.heap.size 38 3 v' l.length (l.flatMap jobC)) ∧ Below w.heap.size w w' := by
  obtain ⟨i0, hi, hz0, hz1, hz2⟩ := info_parts info38
  have hv0 := hv.lt jobC_0
  obtain ⟨A, cap, rfl, hcap, hmax, _⟩ := hv
  have heq := fun (w : World) (A : Option Addr) (n c : Nat) => Lib.run_eql_slice_nil (P := Try.prog) w 27 38 A n c 0 0 Try.underlying27
  obtain ⟨n, hn⟩ : ∃ n, n = l.length := ⟨_, rfl⟩
  rw [← hn] at hll hcap hv0 ⊢
  have HN := Lib.hid hn
  clear hn
  cases A with
  | none =>
    have HX := Lib.hid (jobC_nil hv0)
    go_enter Try.func41, Try.ntmps41
    go_wp2_with fail
    go_ret
    exact ⟨⟨_, rfl, by rw [HN.out, HX.out]; exact World.ownsRow_nil _ _ _ _⟩, Below.refl _ _⟩
  | some ad =>
    have hc1 := (hv0.keep (((Keep.refl _ w).alloc (fun k hk => hk.2) (.cells #[] 38)))).cells (fun _ => rfl) (by decide)
    have HC := Lib.hid hc1
    have HL : Hid ((l.flatMap jobC).length = n * 3) := by rw [flat_len (k := 3) (fun _ => rfl), HN.out]; exact rfl
    clear hc1 hv0
    go_enter Try.func41, Try.ntmps41
    go_wp2_with (at_builtin; refine wpList_append_own _ rfl _ _ 27 rfl w.heap.size 38 i0 (.agg #[.int .i64 0, .int .i64 0, .int .i64 0]) 3 24 Try.underlying27 hi hz0 hz1 hz2 rfl (by decide) _ 0 [] rfl (World.ownsRow_made w #[] 0 (Nat.le_refl _) (by decide) rfl) ad n cap (l.flatMap jobC) rfl HL.out HC.out (jobC_one l) (by unfold maxLen; omega) (by omega) (by simp) ?_; intro v' w1 hown' hgrow _)
    go_ret
    have hown'' : w1.ownsRow w.heap.size 38 3 v' n (l.flatMap jobC) := by simpa using hown'
    exact ⟨⟨_, rfl, hown''⟩, ((Below.refl _ w).alloc (Nat.le_refl _) _).grown hgrow (by simp) (fun k hk => by simp [Value.ownBlock, Act.eval] at hk; omega)⟩
end Go.Proofs.Ytogccnngdfancaa
