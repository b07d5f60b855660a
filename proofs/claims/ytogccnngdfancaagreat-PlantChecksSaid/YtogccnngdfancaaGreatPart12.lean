/- slices.Equal of ints. What Check reckons, in plain words; it is 0 exactly at a schedule that is valid; the order of the jobs does not matter. Plain law: the reference's Check says what the program's says. Plain law: the energy of a schedule is a sum over its jobs, in any order. Plain law: the program's test of a turn, over sorted jobs. -/
import Derived.Test.YtogccnngdfancaaGreatPart11
import Derived.Test.YtogccnngdfancaaGreatPart07
import Derived.Test.YtogccnngdfancaaGreatPart04
import Derived.Test.YtogccnngdfancaaGreatPart06
namespace Go.Proofs.YtogccnngdfancaaGreat
open Go.RowKit
set_option linter.unusedVariables false
set_option linter.unusedSimpArgs false
def eqZ (xs ys : List Int) : Bool := decide (xs = ys)
theorem eqZ_no {xs ys : List Int} {i : Nat} {x y : Int} (hx : xs[i]? = some x) (hy : ys[i]? = some y) (h : x ≠ y) : eqZ xs ys = false := decide_eq_false fun e => by
  subst e; rw [hx] at hy; exact h (Option.some.inj hy)
set_option maxRecDepth 100000 in
set_option maxHeartbeats 1000000 in
theorem equal_any (va vb : Value) (xs ys : List Int) (S T : Nat → Prop) (w : World) (ha : Rd (Value.int .i64) w S va xs) (hb : Rd (Value.int .i64) w T vb ys) :
    Calls Tryz.prog 30 #[va, vb] w fun e w' => e = .returned (.bool (eqZ xs ys)) ∧ Below w.heap.size w w' := by
  obtain ⟨A1, n, c1, rfl, hn, -, hm1, hc1⟩ := ha.lt.open_
  obtain ⟨A2, m, c2, rfl, hm, -, hm2, hc2⟩ := hb.lt.open_
  obtain ⟨r, hr⟩ : ∃ r, r = eqZ xs ys := ⟨_, rfl⟩
  rw [← hr]
  have HR := Lib.hid hr
  have HC1 := Lib.hid hc1
  have HC2 := Lib.hid hc2
  have HN := Lib.hid hn
  have HM := Lib.hid hm
  clear ha hb hr hc1 hc2 hn hm
  by_cases hnm : n = m
  · subst hnm
    go_enter Tryz.func30, Tryz.ntmps30
    go_wp2_with fail
    go_loopw [5, 13] (fun _ iv wr => ∃ i : Nat, i ≤ n ∧ iv = .int .i64 (i : Int) ∧ Hid (∀ k, k < i → xs[k]? = ys[k]?) ∧ Below w.heap.size w wr) (fun _ iv _ => n - (intOf iv).toNat)
    case atStart => exact ⟨0, Nat.zero_le _, rfl, (fun k h => absurd h (by omega)), Below.refl _ _⟩
    case round =>
      obtain ⟨i, hi, rfl, HI, hbel⟩ := hrel
      have HBEL := Lib.hid hbel
      have HBD := Lib.hid hbel.drew
      clear hbel
      by_cases hlt : i < n
      · obtain ⟨b1, f1, x, rfl, ⟨_, hl1⟩, hx, hcx⟩ := HC1.out i hlt
        obtain ⟨b2, f2, y, rfl, ⟨_, hl2⟩, hy, hcy⟩ := HC2.out i hlt
        have HX := Lib.hid hx
        have HY := Lib.hid hy
        have k1 := (HBEL.out.cell (p := ⟨b1, _, none⟩) hl1).trans hcx
        have k2 := (HBEL.out.cell (p := ⟨b2, _, none⟩) hl2).trans hcy
        have k1' := (HBD.out.cell (p := ⟨b1, _, none⟩) hl1).trans hcx
        have k2' := (HBD.out.cell (p := ⟨b2, _, none⟩) hl2).trans hcy
        have hlti : (i : Int) < (n : Int) := by omega
        have hi0 : (0 : Int) ≤ (i : Int) := by omega
        clear hx hy hcx hcy
        by_cases hxy : x = y
        · have hb : (x != y) = false := by simp [hxy]
          have HXY := Lib.hid hxy
          clear hxy
          go_wp2_with fail
          refine seq_start (S := fun w' => w'.cell? ⟨b1, f1 + i, none⟩ = some (.int .i64 x) ∧ w'.cell? ⟨b2, f2 + i, none⟩ = some (.int .i64 y)) (by kernel_rfl) (by kernel_rfl) (by exact ⟨k1', k2'⟩) ?_
          repeat (first
            | (refine seq_take0 (v := ?_) ?_ (fun _ _ _ h => h) (by kernel_rfl) ?_ ?_; rotate_left; (focus rfl); (focus (intro w' hSw; (try dsimp only at hSw); go_simp; (try with_reducible rfl); done)); (try simp only [Act.put, List.setIfInBounds_toArray, List.set_cons_zero, List.set_cons_succ]))
            | (refine seq_takeG (v := ?_) (g := ?_) (d := ?_) (b := ?_) (u := ?_) ?_ ?_ ?_ ?_ (fun _ _ _ h => h) (by kernel_rfl) ?_ ?_; rotate_left 5; (focus rfl); (focus rfl); (focus rfl); (focus (first | rfl | (go_simp; done))); (focus (intro w' hSw; (try dsimp only at hSw); go_simp; (try with_reducible rfl); done)); (try simp only [Act.put, List.setIfInBounds_toArray, List.set_cons_zero, List.set_cons_succ]))
            | (refine seq_skipG (g := ?_) (d := ?_) (b := ?_) (u := ?_) ?_ ?_ ?_ ?_ (fun _ _ _ h => h) (by kernel_rfl) ?_; rotate_left 4; (focus rfl); (focus rfl); (focus rfl); (focus (first | rfl | (go_simp; done))); (try simp only [Act.put, List.setIfInBounds_toArray, List.set_cons_zero, List.set_cons_succ])))
          refine seq_done (by kernel_rfl) ?_
          go_wp2_with fail
          go_roundw
          case rel =>
            refine ⟨i + 1, by omega, by go_num, fun k hk => ?_, HBD.out⟩
            by_cases e : k = i
            · subst e; rw [HX.out, HY.out, HXY.out]
            · exact HI.out k (by omega)
          case measure => simp [intOf]; omega
        · have hb : (x != y) = true := by simp [hxy]
          have HF := Lib.hid (eqZ_no HX.out HY.out hxy)
          clear hxy
          go_wp2_with fail
          refine seq_start (S := fun w' => w'.cell? ⟨b1, f1 + i, none⟩ = some (.int .i64 x) ∧ w'.cell? ⟨b2, f2 + i, none⟩ = some (.int .i64 y)) (by kernel_rfl) (by kernel_rfl) (by exact ⟨k1', k2'⟩) ?_
          repeat (first
            | (refine seq_take0 (v := ?_) ?_ (fun _ _ _ h => h) (by kernel_rfl) ?_ ?_; rotate_left; (focus rfl); (focus (intro w' hSw; (try dsimp only at hSw); go_simp; (try with_reducible rfl); done)); (try simp only [Act.put, List.setIfInBounds_toArray, List.set_cons_zero, List.set_cons_succ]))
            | (refine seq_takeG (v := ?_) (g := ?_) (d := ?_) (b := ?_) (u := ?_) ?_ ?_ ?_ ?_ (fun _ _ _ h => h) (by kernel_rfl) ?_ ?_; rotate_left 5; (focus rfl); (focus rfl); (focus rfl); (focus (first | rfl | (go_simp; done))); (focus (intro w' hSw; (try dsimp only at hSw); go_simp; (try with_reducible rfl); done)); (try simp only [Act.put, List.setIfInBounds_toArray, List.set_cons_zero, List.set_cons_succ]))
            | (refine seq_skipG (g := ?_) (d := ?_) (b := ?_) (u := ?_) ?_ ?_ ?_ ?_ (fun _ _ _ h => h) (by kernel_rfl) ?_; rotate_left 4; (focus rfl); (focus rfl); (focus rfl); (focus (first | rfl | (go_simp; done))); (try simp only [Act.put, List.setIfInBounds_toArray, List.set_cons_zero, List.set_cons_succ])))
          refine seq_done (by kernel_rfl) ?_
          go_wp2_with fail
          go_ret
          exact ⟨by rw [HR.out, HF.out]; rfl, HBD.out⟩
      · have hlti : ¬ ((i : Int) < (n : Int)) := by omega
        have HE : Hid (eqZ xs ys = true) := decide_eq_true (List.ext_getElem? fun k => by
          by_cases hk : k < i
          · exact HI.out k hk
          · rw [List.getElem?_eq_none (by have := HN.out; omega), List.getElem?_eq_none (by have := HM.out; omega)])
        go_wp2_with fail
        go_ret
        exact ⟨by rw [HR.out, HE.out]; rfl, HBEL.out⟩
  · have hnb : ((n : Int) != (m : Int)) = true := by simp; omega
    have HF : Hid (eqZ xs ys = false) := decide_eq_false fun e => by have := HN.out; have := HM.out; rw [e] at *; omega
    go_enter Tryz.func30, Tryz.ntmps30
    go_wp2_with fail
    go_ret
    exact ⟨by rw [HR.out, HF.out]; rfl, Below.refl _ _⟩
end Go.Proofs.YtogccnngdfancaaGreat

namespace Go.Proofs.YtogccnngdfancaaGreat
set_option linter.unusedVariables false
set_option linter.unusedSimpArgs false
def inRB (d : WorksD) (j : JobD) : Bool := decide (0 ≤ j.press ∧ j.press < d.presses ∧ 0 ≤ j.kind ∧ j.kind < d.cure.length ∧ 0 ≤ j.start ∧ j.start ≤ 1000000)
theorem inRB_iff {d : WorksD} {j : JobD} : inRB d j = true ↔ InRange d j := by
  unfold inRB
  rw [decide_eq_true_eq]
  exact ⟨fun ⟨a, b, c, e, f, g⟩ => ⟨a, b, c, e, f, g⟩, fun h => ⟨h.p0, h.p1, h.k0, h.k1, h.s0, h.s1⟩⟩
def cntL (d : WorksD) (l : List JobD) : List Int := (List.range d.cure.length).map fun k => (kindN l (k : Nat) : Int)
theorem cntL_len (d : WorksD) (l : List JobD) : (cntL d l).length = d.cure.length := by simp [cntL]
theorem cntL_get {d : WorksD} (l : List JobD) {k : Nat} (h : k < d.cure.length) : (cntL d l)[k]? = some ((kindN l k : Nat) : Int) := by
  unfold cntL; rw [List.getElem?_map, List.getElem?_range h]; rfl
theorem cntL_nil (d : WorksD) : cntL d [] = List.replicate d.cure.length 0 := by
  refine List.ext_getElem? fun k => ?_
  by_cases h : k < d.cure.length
  · rw [cntL_get [] h, List.getElem?_replicate, if_pos h]; rfl
  · rw [List.getElem?_eq_none (by rw [cntL_len]; omega), List.getElem?_eq_none (by simp; omega)]
theorem kindN_snoc (l : List JobD) (x : JobD) (k : Int) : kindN (l ++ [x]) k = kindN l k + if x.kind = k then 1 else 0 := by
  unfold kindN; rw [List.countP_append, List.countP_cons, List.countP_nil]; simp
theorem cntL_snoc {d : WorksD} (l : List JobD) {x : JobD} {k : Nat} (hk : x.kind = k) : cntL d (l ++ [x]) = (cntL d l).set k (((kindN l k : Nat) : Int) + 1) := by
  refine List.ext_getElem? fun i => ?_
  rw [List.getElem?_set, cntL_len]
  by_cases h : i < d.cure.length
  · rw [cntL_get _ h, kindN_snoc]
    by_cases e : k = i
    · subst e; rw [if_pos rfl, if_pos h, if_pos hk]; simp
    · rw [if_neg e, if_neg (by rw [hk]; omega), cntL_get _ h]; simp
  · rw [List.getElem?_eq_none (by rw [cntL_len]; omega)]
    by_cases e : k = i
    · rw [if_pos e, if_neg (by omega)]
    · rw [if_neg e, List.getElem?_eq_none (by rw [cntL_len]; omega)]
theorem cnt_need {d : WorksD} (hg : WGood d) (l : List JobD) : cntL d l = d.need ↔ ∀ k : Nat, k < d.cure.length → (kindN l k : Int) = needOf d k := by
  have hn := hg.ok.n1
  constructor
  · intro h k hk
    have h1 := cntL_get l hk
    rw [h] at h1
    unfold needOf
    rw [Int.toNat_natCast, List.getD_eq_getElem?_getD, h1]; rfl
  · intro h
    refine List.ext_getElem? fun i => ?_
    by_cases hi : i < d.cure.length
    · rw [cntL_get l hi, h i hi]
      unfold needOf
      rw [Int.toNat_natCast, List.getD_eq_getElem?_getD, List.getElem?_eq_getElem (by omega)]; rfl
    · rw [List.getElem?_eq_none (by rw [cntL_len]; omega), List.getElem?_eq_none (by omega)]
/-! Neighbours. -/
def adjB (d : WorksD) (a b : JobD) : Bool := decide (a.press = b.press → endJ d a + chg d a b ≤ b.start)
def adjAt (d : WorksD) (s : List JobD) (i : Nat) : Bool := match s[i - 1]?, s[i]? with
  | some a, some b => adjB d a b
  | _, _ => true
def adjUp (d : WorksD) (s : List JobD) (n : Nat) : Bool := (List.range n).all fun i => decide (i = 0) || adjAt d s i
theorem adjUp_succ (d : WorksD) (s : List JobD) (n : Nat) : adjUp d s (n + 1) = (adjUp d s n && (decide (n = 0) || adjAt d s n)) := by
  unfold adjUp; rw [List.range_succ, List.all_append]; simp
theorem adjAt_of {d : WorksD} {s : List JobD} {i : Nat} {a b : JobD} (ha : s[i - 1]? = some a) (hb : s[i]? = some b) : adjAt d s i = adjB d a b := by
  unfold adjAt; rw [ha, hb]
theorem adjUp_no {d : WorksD} {s : List JobD} {i : Nat} (h0 : 1 ≤ i) (h : adjAt d s i = false) : ∀ {n : Nat}, i < n → adjUp d s n = false
  | 0, hk => absurd hk (by omega)
  | n + 1, hk => by
    rw [adjUp_succ]
    by_cases e : i = n
    · subst e; rw [h, decide_eq_false (by omega)]; simp
    · rw [adjUp_no h0 h (by omega)]; rfl
def overM (d : WorksD) (l : List JobD) : Bool := l.any fun j => decide (mouldOf d j.kind < (runN d l j.kind j.start : Nat))
def chkS (d : WorksD) (l s : List JobD) : Int :=
  if wErr d ≠ 0 then wErr d else if 64 < l.length then 4 else if l.all (inRB d) = false then 1 else if adjUp d s s.length = false then 91 else if overM d l = true then 91 else if cntL d l = d.need then 0 else 5
instance (w : WorksD) (a b : JobD) : Decidable (PairOk w a b) := by unfold PairOk Sep; infer_instance
def chkE (d : WorksD) (l : List JobD) : Int :=
  if wErr d ≠ 0 then wErr d else if 64 < l.length then 4 else if l.all (inRB d) = false then 1 else if ¬ l.Pairwise (PairOk d) then 91 else if overM d l = true then 91 else if cntL d l = d.need then 0 else 5
theorem cure_in {d : WorksD} (hg : WGood d) {j : JobD} (h : InRange d j) : 1 ≤ cureOf d j.kind ∧ cureOf d j.kind ≤ 1000 := by
  have h0 := h.k0
  have h1 := h.k1
  have := hg.ok.cure j.kind.toNat (by omega)
  rwa [show ((j.kind.toNat : Nat) : Int) = j.kind by omega] at this
theorem sep_trans {d : WorksD} (hg : WGood d) {a b c : JobD} (hb : InRange d b) (h1 : Sep d a b) (h2 : Sep d b c) : Sep d a c := by
  have := cure_in hg hb
  have := hg.ok.c0
  have e : endJ d b = b.start + cureOf d b.kind := rfl
  unfold Sep at *
  have : chg d a c ≤ chg d a b + chg d b c := by
    unfold chg
    by_cases e1 : a.kind = b.kind
    · rw [if_pos e1, e1]; omega
    · rw [if_neg e1]
      split <;> split <;> omega
  omega
theorem adj_pairs {d : WorksD} (hg : WGood d) : ∀ (s : List JobD), (∀ j ∈ s, InRange d j) → SortedJ s → (∀ i : Nat, 1 ≤ i → i < s.length → adjAt d s i = true) → s.Pairwise (fun a b => a.press = b.press → Sep d a b)
  | [], _, _, _ => List.Pairwise.nil
  | [a], _, _, _ => List.pairwise_singleton _ _
  | a :: b :: s, hr, hs, ha => by
    have ih := adj_pairs hg (b :: s) (fun j hj => hr j (List.mem_cons_of_mem _ hj)) (List.pairwise_cons.1 hs).2 fun i h1 h2 => by
      have := ha (i + 1) (by omega) (by simp at h2 ⊢; omega)
      obtain ⟨i', rfl⟩ : ∃ i', i = i' + 1 := ⟨i - 1, by omega⟩
      unfold adjAt at this ⊢
      simpa using this
    have hab : a.press = b.press → Sep d a b := by
      have := ha 1 (Nat.le_refl _) (by simp)
      rw [adjAt_of (a := a) (b := b) rfl rfl] at this
      exact of_decide_eq_true (p := a.press = b.press → endJ d a + chg d a b ≤ b.start) this
    refine List.pairwise_cons.2 ⟨fun c hc => ?_, ih⟩
    rcases List.mem_cons.1 hc with rfl | hc
    · exact hab
    · intro he
      have h1 := (List.pairwise_cons.1 hs).1 b (List.mem_cons_self ..)
      have h2 := (List.pairwise_cons.1 (List.pairwise_cons.1 hs).2).1 c hc
      have hp : a.press = b.press := by unfold LeJ at h1 h2; omega
      exact sep_trans hg (hr b (by simp)) (hab hp) ((List.pairwise_cons.1 ih).1 c hc (by omega))
theorem pairOk_symm {d : WorksD} {a b : JobD} (h : PairOk d a b) : PairOk d b a := fun e => (h e.symm).symm
theorem pairs_perm {d : WorksD} {l s : List JobD} (h : s.Perm l) : s.Pairwise (PairOk d) ↔ l.Pairwise (PairOk d) := h.pairwise_iff fun {a b} hab => pairOk_symm hab
theorem adj_iff {d : WorksD} (hg : WGood d) {l s : List JobD} (hr : ∀ j ∈ l, InRange d j) (hp : s.Perm l) (hs : SortedJ s) : adjUp d s s.length = true ↔ l.Pairwise (PairOk d) := by
  have hrs : ∀ j ∈ s, InRange d j := fun j hj => hr j (hp.mem_iff.1 hj)
  rw [← pairs_perm hp]
  constructor
  · intro h
    refine (adj_pairs hg s hrs hs fun i h1 h2 => ?_).imp fun {a b} hab e => .inl (hab e)
    unfold adjUp at h
    have := List.all_eq_true.1 h i (List.mem_range.2 h2)
    rw [decide_eq_false (by omega)] at this
    simpa using this
  · intro h
    unfold adjUp
    rw [List.all_eq_true]
    intro i hi
    rw [List.mem_range] at hi
    by_cases e : i = 0
    · rw [decide_eq_true e]; rfl
    · have ha : s[i - 1]? = some (s[i - 1]'(by omega)) := List.getElem?_eq_getElem _
      have hb : s[i]? = some (s[i]'hi) := List.getElem?_eq_getElem _
      rw [adjAt_of ha hb]
      have h1 := List.pairwise_iff_getElem.1 h (i - 1) i (by omega) hi (by omega)
      have h2 := List.pairwise_iff_getElem.1 hs (i - 1) i (by omega) hi (by omega)
      have c1 := cure_in hg (hrs _ (List.getElem_mem (l := s) (n := i) hi))
      have c0 := hg.ok.c0
      generalize s[i - 1]'(by omega) = a at h1 h2
      generalize s[i]'hi = b at h1 h2 c1
      have : adjB d a b = true := by
        unfold adjB
        refine decide_eq_true fun he => ?_
        rcases h1 he with h1 | h1
        · exact h1
        · unfold Sep at h1
          have e1 : endJ d b = b.start + cureOf d b.kind := rfl
          have : 0 ≤ chg d b a := by unfold chg; split <;> omega
          unfold LeJ at h2
          omega
      rw [this]; simp
theorem chkS_eq {d : WorksD} {l s : List JobD} (hp : s.Perm l) (hs : SortedJ s) : chkS d l s = chkE d l := by
  unfold chkS chkE
  by_cases h1 : wErr d ≠ 0
  · rw [if_pos h1, if_pos h1]
  · rw [if_neg h1, if_neg h1]
    by_cases h2 : 64 < l.length
    · rw [if_pos h2, if_pos h2]
    · rw [if_neg h2, if_neg h2]
      by_cases h3 : l.all (inRB d) = false
      · rw [if_pos h3, if_pos h3]
      · rw [if_neg h3, if_neg h3]
        have hr : ∀ j ∈ l, InRange d j := by
          have : l.all (inRB d) = true := by simpa using h3
          exact fun j hj => inRB_iff.1 (List.all_eq_true.1 this j hj)
        have hg := wgood_of (Classical.not_not.1 h1)
        have hi := adj_iff hg hr hp hs
        by_cases h4 : adjUp d s s.length = true
        · rw [if_neg (by rw [h4]; decide), if_neg (c := ¬ l.Pairwise (PairOk d)) (fun h => h (hi.1 h4))]
        · rw [if_pos (by simpa using h4), if_pos (fun h => h4 (hi.2 h))]
theorem overM_iff {d : WorksD} {l : List JobD} : overM d l = false ↔ ∀ j ∈ l, (runN d l j.kind j.start : Int) ≤ mouldOf d j.kind := by
  unfold overM
  rw [List.any_eq_false]
  simp [Int.not_lt]
theorem chkE_zero {d : WorksD} {l : List JobD} : chkE d l = 0 ↔ wErr d = 0 ∧ l.length ≤ 64 ∧ Valid d l := by
  unfold chkE
  by_cases h1 : wErr d ≠ 0
  · rw [if_pos h1]; exact ⟨fun h => absurd h h1, fun h => absurd h.1 h1⟩
  · rw [if_neg h1]
    have hz : wErr d = 0 := Classical.not_not.1 h1
    have hg := wgood_of hz
    by_cases h2 : 64 < l.length
    · rw [if_pos h2]; exact ⟨fun h => absurd h (by decide), fun h => absurd h.2.1 (by omega)⟩
    · rw [if_neg h2]
      by_cases h3 : l.all (inRB d) = false
      · rw [if_pos h3]
        refine ⟨fun h => absurd h (by decide), fun h => ?_⟩
        have : l.all (inRB d) = true := List.all_eq_true.2 fun j hj => inRB_iff.2 (h.2.2.rng j hj)
        rw [this] at h3; cases h3
      · rw [if_neg h3]
        have hr : ∀ j ∈ l, InRange d j := by
          have : l.all (inRB d) = true := by simpa using h3
          exact fun j hj => inRB_iff.1 (List.all_eq_true.1 this j hj)
        by_cases h4 : l.Pairwise (PairOk d)
        · rw [if_neg (fun h => h h4)]
          by_cases h5 : overM d l = true
          · rw [if_pos h5]
            refine ⟨fun h => absurd h (by decide), fun h => ?_⟩
            rw [overM_iff.2 h.2.2.mould] at h5; cases h5
          · rw [if_neg h5]
            have h5' : overM d l = false := by simpa using h5
            by_cases h6 : cntL d l = d.need
            · rw [if_pos h6]
              exact ⟨fun _ => ⟨hz, by omega, hr, h4, overM_iff.1 h5', (cnt_need hg l).1 h6⟩, fun _ => rfl⟩
            · rw [if_neg h6]
              exact ⟨fun h => absurd h (by decide), fun h => absurd ((cnt_need hg l).2 h.2.2.need) h6⟩
        · rw [if_pos h4]; exact ⟨fun h => absurd h (by decide), fun h => absurd h.2.2.pair h4⟩
end Go.Proofs.YtogccnngdfancaaGreat
namespace Go.Proofs.YtogccnngdfancaaGreat
set_option linter.unusedVariables false
theorem ahdN_spec (l : List JobD) (i : Nat) : ∀ n : Nat, (ahdN l i n < 0 ∧ ∀ k : Nat, k < n → ¬ ((jobAt l k).press = (jobAt l i).press ∧ (jobAt l k).start < (jobAt l i).start)) ∨
    (∃ m : Nat, ahdN l i n = (m : Int) ∧ m < n ∧ (jobAt l m).press = (jobAt l i).press ∧ (jobAt l m).start < (jobAt l i).start ∧ ∀ k : Nat, k < n → (jobAt l k).press = (jobAt l i).press → (jobAt l k).start < (jobAt l i).start → (jobAt l k).start ≤ (jobAt l m).start)
  | 0 => .inl ⟨by simp [ahdN], fun k hk => by omega⟩
  | n + 1 => by
    have ih := ahdN_spec l i n
    simp only [ahdN]
    by_cases hq : (jobAt l n).press = (jobAt l i).press ∧ (jobAt l n).start < (jobAt l i).start
    · right
      rcases ih with ⟨h1, h2⟩ | ⟨m, h1, h2, h3, h4, h5⟩
      · refine ⟨n, ?_, by omega, hq.1, hq.2, fun k hk hp hs => ?_⟩
        · unfold ahdS; rw [if_pos ⟨hq.1, hq.2, .inl h1⟩]
        · by_cases e : k = n
          · rw [e]; exact Int.le_refl _
          · exact absurd ⟨hp, hs⟩ (h2 k (by omega))
      · rw [h1]
        by_cases hc : (jobAt l (m : Int)).start < (jobAt l n).start
        · refine ⟨n, ?_, by omega, hq.1, hq.2, fun k hk hp hs => ?_⟩
          · unfold ahdS; rw [if_pos ⟨hq.1, hq.2, .inr hc⟩]
          · by_cases e : k = n
            · rw [e]; exact Int.le_refl _
            · have := h5 k (by omega) hp hs; omega
        · refine ⟨m, ?_, by omega, h3, h4, fun k hk hp hs => ?_⟩
          · unfold ahdS; rw [if_neg]
            rintro ⟨_, _, h | h⟩
            · omega
            · exact hc h
          · by_cases e : k = n
            · rw [e]; omega
            · exact h5 k (by omega) hp hs
    · have hs : ahdS l i (ahdN l i n) n = ahdN l i n := by
        unfold ahdS; rw [if_neg]
        rintro ⟨a, b, _⟩; exact hq ⟨a, b⟩
      rw [hs]
      rcases ih with ⟨h1, h2⟩ | ⟨m, h1, h2, h3, h4, h5⟩
      · left
        refine ⟨h1, fun k hk => ?_⟩
        by_cases e : k = n
        · rw [e]; exact hq
        · exact h2 k (by omega)
      · right
        refine ⟨m, h1, by omega, h3, h4, fun k hk hp hs => ?_⟩
        by_cases e : k = n
        · exact absurd ⟨e ▸ hp, e ▸ hs⟩ hq
        · exact h5 k (by omega) hp hs
def NoOv (d : WorksD) (l : List JobD) : Prop := ∀ i k : Nat, k < i → i < l.length → ¬ ((jobAt l i).press = (jobAt l k).press ∧ (jobAt l i).start < endJ d (jobAt l k) ∧ (jobAt l k).start < endJ d (jobAt l i))
def NoAh (d : WorksD) (l : List JobD) : Prop := ∀ i : Nat, i < l.length → ¬ (0 ≤ ahdN l i l.length ∧ (jobAt l (ahdN l i l.length)).kind ≠ (jobAt l i).kind ∧ (jobAt l i).start - endJ d (jobAt l (ahdN l i l.length)) < d.change)
theorem jobAt_mem {l : List JobD} {i : Nat} (h : i < l.length) : jobAt l i ∈ l := by
  have : l[i]? = some l[i] := List.getElem?_eq_getElem h
  rw [jobAt_of this]; exact List.getElem_mem h
theorem pairs_iff {d : WorksD} (hg : WGood d) {l : List JobD} (hr : ∀ j ∈ l, InRange d j) : l.Pairwise (PairOk d) ↔ NoOv d l ∧ NoAh d l := by
  have hend : ∀ i : Nat, i < l.length → (jobAt l i).start < endJ d (jobAt l i) := fun i hi => by
    have := (cure_in hg (hr _ (jobAt_mem hi))).1
    unfold endJ; omega
  have hc0 := hg.ok.c0
  have hchg : ∀ a b : JobD, 0 ≤ chg d a b := fun a b => by unfold chg; split <;> omega
  have hpw : l.Pairwise (PairOk d) ↔ ∀ i k : Nat, k < i → i < l.length → PairOk d (jobAt l k) (jobAt l i) := by
    rw [List.pairwise_iff_getElem]
    constructor
    · intro h i k hk hi
      have := h k i (by omega) hi hk
      rwa [jobAt_of (List.getElem?_eq_getElem (show k < l.length by omega)), jobAt_of (List.getElem?_eq_getElem hi)]
    · intro h k i hk hi hki
      have := h i k hki hi
      rwa [jobAt_of (List.getElem?_eq_getElem hk), jobAt_of (List.getElem?_eq_getElem hi)] at this
  rw [hpw]
  constructor
  · intro h
    have hsym : ∀ i k : Nat, i < l.length → k < l.length → i ≠ k → PairOk d (jobAt l k) (jobAt l i) := fun i k hi hk hne => by
      rcases Nat.lt_or_gt_of_ne hne with h1 | h1
      · exact pairOk_symm (h k i h1 hk)
      · exact h i k h1 hi
    refine ⟨fun i k hki hi ⟨hp, h1, h2⟩ => ?_, fun i hi ⟨h0, hk, hlt⟩ => ?_⟩
    · rcases h i k hki hi hp.symm with hs | hs
      · unfold Sep at hs; have := hchg (jobAt l k) (jobAt l i); omega
      · unfold Sep at hs; have := hchg (jobAt l i) (jobAt l k); omega
    · rcases ahdN_spec l i l.length with ⟨h1, _⟩ | ⟨m, h1, h2, h3, h4, _⟩
      · omega
      · rw [h1] at hk hlt
        have hne : i ≠ m := fun e => by rw [e] at h4; omega
        rcases hsym i m hi h2 hne h3 with hs | hs
        · unfold Sep chg at hs; rw [if_neg hk] at hs; omega
        · unfold Sep at hs; have := hchg (jobAt l i) (jobAt l m); have := hend i hi; omega
  · rintro ⟨hov, hah⟩
    -- a job that ends before another begins is far enough from it
    have key : ∀ N : Nat, ∀ i k : Nat, i < l.length → k < l.length → (jobAt l k).press = (jobAt l i).press → endJ d (jobAt l k) ≤ (jobAt l i).start → (jobAt l i).start < N → Sep d (jobAt l k) (jobAt l i) := by
      intro N
      induction N with
      | zero => intro i k hi _ _ _ hN; have := (hr _ (jobAt_mem hi)).s0; omega
      | succ N ih =>
        intro i k hi hk hp he hN
        unfold Sep chg
        by_cases hkk : (jobAt l k).kind = (jobAt l i).kind
        · rw [if_pos hkk]; omega
        · rw [if_neg hkk]
          rcases ahdN_spec l i l.length with ⟨h1, h2⟩ | ⟨m, h1, h2, h3, h4, h5⟩
          · exact absurd ⟨hp, by have := hend k hk; omega⟩ (h2 k hk)
          · have hkm := h5 k hk hp (by have := hend k hk; omega)
            have hem : k = m ∨ endJ d (jobAt l k) ≤ (jobAt l m).start := by
              by_cases e : k = m
              · exact .inl e
              · right
                refine Int.not_lt.1 fun hlt => ?_
                have hkm2 : (jobAt l k).start < endJ d (jobAt l m) := by have := hend m h2; omega
                rcases Nat.lt_or_gt_of_ne e with h6 | h6
                · exact hov m k h6 h2 ⟨h3.trans hp.symm, hlt, hkm2⟩
                · exact hov k m h6 hk ⟨hp.trans h3.symm, hkm2, hlt⟩
            by_cases hmk : (jobAt l m).kind = (jobAt l i).kind
            · rcases hem with e | e
              · rw [e] at hkk; exact absurd hmk hkk
              · have := ih m k h2 hk (hp.trans h3.symm) e (by omega)
                unfold Sep chg at this
                rw [if_neg (fun h => hkk (h.trans hmk))] at this
                omega
            · have h7 := hah i hi
              rw [h1] at h7
              have h8 : ¬ ((jobAt l i).start - endJ d (jobAt l m) < d.change) := fun h => h7 ⟨by omega, hmk, h⟩
              rcases hem with e | e
              · rw [e]; omega
              · have := hend m h2; omega
    intro i k hki hi hp
    have hk : k < l.length := by omega
    have hn := hov i k hki hi
    by_cases h1 : (jobAt l i).start < endJ d (jobAt l k)
    · right
      have h2 : endJ d (jobAt l i) ≤ (jobAt l k).start := Int.not_lt.1 fun h => hn ⟨hp.symm, h1, h⟩
      exact key ((jobAt l k).start.toNat + 1) k i hk hi hp.symm h2 (by omega)
    · left
      exact key ((jobAt l i).start.toNat + 1) i k hi hk hp (by omega) (by omega)
end Go.Proofs.YtogccnngdfancaaGreat
namespace Go.Proofs.YtogccnngdfancaaGreat
set_option linter.unusedVariables false
/-- A sum of fractions over jobs. -/
def eSum (f : JobD → Rat) (l : List JobD) : Rat := l.foldl (fun s j => s + f j) 0
theorem eSum_from (f : JobD → Rat) : ∀ (l : List JobD) (s : Rat), l.foldl (fun s j => s + f j) s = s + eSum f l
  | [], s => by unfold eSum; simp [Rat.add_zero]
  | x :: l, s => by
    unfold eSum
    rw [List.foldl_cons, List.foldl_cons, eSum_from f l, eSum_from f l (0 + f x), Rat.zero_add, Rat.add_assoc]
theorem eSum_cons (f : JobD → Rat) (x : JobD) (l : List JobD) : eSum f (x :: l) = f x + eSum f l := by
  unfold eSum; rw [List.foldl_cons, eSum_from, Rat.zero_add]; rfl
theorem eSum_perm (f : JobD → Rat) {l s : List JobD} (h : s.Perm l) : eSum f s = eSum f l := by
  induction h with
  | nil => rfl
  | cons x _ ih => rw [eSum_cons, eSum_cons, ih]
  | swap x y l => rw [eSum_cons, eSum_cons, eSum_cons, eSum_cons, ← Rat.add_assoc, ← Rat.add_assoc, Rat.add_comm (f y)]
  | trans _ _ h1 h2 => exact h1.trans h2
/-- Before a job, its press cures a tyre of another kind. -/
def Turns (l : List JobD) (j : JobD) : Prop := ∃ x ∈ l, x.press = j.press ∧ x.start < j.start ∧ x.kind ≠ j.kind ∧ ∀ y ∈ l, y.press = j.press → y.start < j.start → y.start ≤ x.start
theorem turns_perm {l s : List JobD} (h : s.Perm l) (j : JobD) : Turns s j ↔ Turns l j := by
  unfold Turns
  constructor
  · rintro ⟨x, hx, a, b, c, e⟩
    exact ⟨x, h.mem_iff.1 hx, a, b, c, fun y hy => e y (h.mem_iff.2 hy)⟩
  · rintro ⟨x, hx, a, b, c, e⟩
    exact ⟨x, h.mem_iff.2 hx, a, b, c, fun y hy => e y (h.mem_iff.1 hy)⟩
/-- Jobs of one press that begin at one time are one. -/
def OneAt (l : List JobD) : Prop := ∀ i k : Nat, i < l.length → k < l.length → (jobAt l i).press = (jobAt l k).press → (jobAt l i).start = (jobAt l k).start → i = k
/-- The reference's test. -/
theorem turns_ahead {l : List JobD} (h1 : OneAt l) {i : Nat} (hi : i < l.length) : Turns l (jobAt l i) ↔ 0 ≤ ahdN l i l.length ∧ (jobAt l (ahdN l i l.length)).kind ≠ (jobAt l i).kind := by
  rcases ahdN_spec l i l.length with ⟨h2, h3⟩ | ⟨m, h2, h3, h4, h5, h6⟩
  · constructor
    · rintro ⟨x, hx, a, b, _, _⟩
      obtain ⟨k, hk, rfl⟩ := List.getElem_of_mem hx
      refine absurd ⟨?_, ?_⟩ (h3 k hk)
      · rw [jobAt_of (List.getElem?_eq_getElem hk)]; exact a
      · rw [jobAt_of (List.getElem?_eq_getElem hk)]; exact b
    · rintro ⟨h, _⟩; omega
  · rw [h2]
    constructor
    · rintro ⟨x, hx, a, b, c, e⟩
      obtain ⟨k, hk, rfl⟩ := List.getElem_of_mem hx
      have hkj : jobAt l k = l[k] := jobAt_of (List.getElem?_eq_getElem hk)
      rw [← hkj] at a b c e
      have e1 := h6 k hk a b
      have e2 := e _ (jobAt_mem h3) h4 h5
      have : k = m := h1 k m hk h3 (a.trans h4.symm) (by omega)
      rw [this] at c
      exact ⟨by omega, c⟩
    · rintro ⟨_, h⟩
      refine ⟨jobAt l m, jobAt_mem h3, h4, h5, h, fun y hy hp hs => ?_⟩
      obtain ⟨k, hk, rfl⟩ := List.getElem_of_mem hy
      have hkj : jobAt l k = l[k] := jobAt_of (List.getElem?_eq_getElem hk)
      rw [← hkj] at hp hs ⊢
      exact h6 k hk hp hs
end Go.Proofs.YtogccnngdfancaaGreat
namespace Go.Proofs.YtogccnngdfancaaGreat
set_option linter.unusedVariables false
theorem oneAt_of {d : WorksD} (hg : WGood d) {l : List JobD} (hr : ∀ j ∈ l, InRange d j) (hp : l.Pairwise (PairOk d)) : OneAt l := by
  obtain ⟨hov, _⟩ := (pairs_iff hg hr).1 hp
  have hend : ∀ i : Nat, i < l.length → (jobAt l i).start < endJ d (jobAt l i) := fun i hi => by
    have := (cure_in hg (hr _ (jobAt_mem hi))).1
    unfold endJ; omega
  intro i k hi hk h1 h2
  have e1 := hend i hi
  have e2 := hend k hk
  refine Classical.byContradiction fun hne => ?_
  rcases Nat.lt_or_gt_of_ne hne with h | h
  · exact hov k i h hk ⟨h1.symm, by omega, by omega⟩
  · exact hov i k h hi ⟨h1, by omega, by omega⟩
/-- A job by its place. -/
def jobN (l : List JobD) (i : Nat) : JobD := jobAt l (i : Int)
theorem sorted_at {s : List JobD} (h : SortedJ s) {i k : Nat} (hik : i < k) (hk : k < s.length) : LeJ (jobN s i) (jobN s k) := by
  have := List.pairwise_iff_getElem.1 h i k (by omega) hk hik
  unfold jobN
  rwa [jobAt_of (List.getElem?_eq_getElem (show i < s.length by omega)), jobAt_of (List.getElem?_eq_getElem hk)]
theorem turns_first {s : List JobD} (h : SortedJ s) (h0 : 0 < s.length) : ¬ Turns s (jobN s 0) := by
  rintro ⟨x, hx, a, b, _, _⟩
  obtain ⟨k, hk, rfl⟩ := List.getElem_of_mem hx
  have hkj : jobN s k = s[k] := jobAt_of (List.getElem?_eq_getElem hk)
  rw [← hkj] at a b
  rcases Nat.eq_zero_or_pos k with e | e
  · rw [e] at b; omega
  · have := sorted_at h e hk
    unfold LeJ at this
    omega
theorem turns_next {s : List JobD} (h : SortedJ s) (h1' : OneAt s) {i : Nat} (hi : i + 1 < s.length) : Turns s (jobN s (i + 1)) ↔ (jobN s i).press = (jobN s (i + 1)).press ∧ (jobN s i).kind ≠ (jobN s (i + 1)).kind := by
  have h1 : ∀ i k : Nat, i < s.length → k < s.length → (jobN s i).press = (jobN s k).press → (jobN s i).start = (jobN s k).start → i = k := h1'
  have hle : LeJ (jobN s i) (jobN s (i + 1)) := sorted_at h (show i < i + 1 by omega) hi
  have hlow : ∀ k : Nat, k < s.length → (jobN s k).press = (jobN s (i + 1)).press → (jobN s k).start < (jobN s (i + 1)).start → k ≤ i := fun k hk a b => by
    refine Nat.not_lt.1 fun hgt => ?_
    rcases Nat.eq_or_lt_of_le (show i + 1 ≤ k by omega) with e | e
    · rw [← e] at b; omega
    · have := sorted_at h e hk
      unfold LeJ at this
      omega
  constructor
  · rintro ⟨x, hx, a, b, c, e⟩
    obtain ⟨k, hk, rfl⟩ := List.getElem_of_mem hx
    have hkj : jobN s k = s[k] := jobAt_of (List.getElem?_eq_getElem hk)
    rw [← hkj] at a b c e
    have hki := hlow k hk a b
    rcases Nat.eq_or_lt_of_le hki with e1 | e1
    · rw [e1] at a c; exact ⟨a, c⟩
    · have h3 := sorted_at h e1 (by omega)
      unfold LeJ at h3 hle
      have hpr : (jobN s i).press = (jobN s (i + 1)).press := by omega
      have hst : (jobN s i).start ≤ (jobN s (i + 1)).start := by omega
      have hne : (jobN s i).start ≠ (jobN s (i + 1)).start := fun he => by
        have := h1 i (i + 1) (by omega) hi hpr he; omega
      have h4 : (jobN s i).start ≤ (jobN s k).start := e _ (jobAt_mem (show i < s.length by omega)) hpr (show (jobN s i).start < (jobN s (i + 1)).start by omega)
      have h5 : (jobN s k).start = (jobN s i).start := by omega
      have := h1 k i hk (by omega) (a.trans hpr.symm) h5
      omega
  · rintro ⟨a, c⟩
    unfold LeJ at hle
    have hne : (jobN s i).start ≠ (jobN s (i + 1)).start := fun he => by
      have := h1 i (i + 1) (by omega) hi a he; omega
    refine ⟨jobN s i, jobAt_mem (by omega), a, by omega, c, fun y hy hp hs => ?_⟩
    obtain ⟨k, hk, rfl⟩ := List.getElem_of_mem hy
    have hkj : jobN s k = s[k] := jobAt_of (List.getElem?_eq_getElem hk)
    rw [← hkj] at hp hs ⊢
    have hki := hlow k hk hp hs
    rcases Nat.eq_or_lt_of_le hki with e1 | e1
    · rw [e1]; exact Int.le_refl _
    · have h3 := sorted_at h e1 (by omega)
      unfold LeJ at h3
      omega
end Go.Proofs.YtogccnngdfancaaGreat
