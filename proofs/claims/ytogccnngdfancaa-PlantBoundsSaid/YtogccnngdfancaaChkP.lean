/- slices.Equal of ints. What Check reckons, in plain words; it is 0 exactly at a schedule that is valid; the order of the jobs does not matter. -/
import Derived.Test.YtogccnngdfancaaStabS
import Derived.Test.YtogccnngdfancaaStabP
import Derived.Test.YtogccnngdfancaaBd
namespace Go.Proofs.Ytogccnngdfancaa
open Go.RowKit
set_option linter.unusedVariables false
set_option linter.unusedSimpArgs false
def eqZ (xs ys : List Int) : Bool := decide (xs = ys)
theorem eqZ_no {xs ys : List Int} {i : Nat} {x y : Int} (hx : xs[i]? = some x) (hy : ys[i]? = some y) (h : x ≠ y) : eqZ xs ys = false := decide_eq_false fun e => by
  subst e; rw [hx] at hy; exact h (Option.some.inj hy)
set_option maxRecDepth 100000 in
set_option maxHeartbeats 1000000 in
theorem equal_any (va vb : Value) (xs ys : List Int) (S T : Nat → Prop) (w : World) (ha : Rd (Value.int .i64) w S va xs) (hb : Rd (Value.int .i64) w T vb ys) :
    Calls Try.prog 27 #[va, vb] w fun e w' => e = .returned (.bool (eqZ xs ys)) ∧ Below w.heap.size w w' := by
  obtain ⟨A1, n, c1, rfl, hn, -, hm1, hc1⟩ := ha.lt.open_
  obtain ⟨A2, m, c2, rfl, hm, -, hm2, hc2⟩ := hb.lt.open_
  obtain ⟨r, hr⟩ : ∃ r, r = eqZ xs ys := ⟨_, rfl⟩
  rw [← hr]
  have HR := Lib.hid hr
  have HC1 := Lib.hid hc1
  have HC2 := Lib.hid hc2
  have HN := Lib.hid hn
  have HM := Lib.hid hm
  clear ha hb hr hc1 hc2 hn hm
  by_cases hnm : n = m
  · subst hnm
    go_enter Try.func27, Try.ntmps27
    go_wp2_with fail
    go_loopw [5, 13] (fun _ iv wr => ∃ i : Nat, i ≤ n ∧ iv = .int .i64 (i : Int) ∧ Hid (∀ k, k < i → xs[k]? = ys[k]?) ∧ Below w.heap.size w wr) (fun _ iv _ => n - (intOf iv).toNat)
    case atStart => exact ⟨0, Nat.zero_le _, rfl, (fun k h => absurd h (by omega)), Below.refl _ _⟩
    case round =>
      obtain ⟨i, hi, rfl, HI, hbel⟩ := hrel
      have HBEL := Lib.hid hbel
      have HBD := Lib.hid hbel.drew
      clear hbel
      by_cases hlt : i < n
      · obtain ⟨b1, f1, x, rfl, ⟨_, hl1⟩, hx, hcx⟩ := HC1.out i hlt
        obtain ⟨b2, f2, y, rfl, ⟨_, hl2⟩, hy, hcy⟩ := HC2.out i hlt
        have HX := Lib.hid hx
        have HY := Lib.hid hy
        have k1 := (HBEL.out.cell (p := ⟨b1, _, none⟩) hl1).trans hcx
        have k2 := (HBEL.out.cell (p := ⟨b2, _, none⟩) hl2).trans hcy
        have k1' := (HBD.out.cell (p := ⟨b1, _, none⟩) hl1).trans hcx
        have k2' := (HBD.out.cell (p := ⟨b2, _, none⟩) hl2).trans hcy
        have hlti : (i : Int) < (n : Int) := by omega
        have hi0 : (0 : Int) ≤ (i : Int) := by omega
        clear hx hy hcx hcy
        by_cases hxy : x = y
        · have hb : (x != y) = false := by simp [hxy]
          have HXY := Lib.hid hxy
          clear hxy
          go_wp2_with fail
          refine seq_start (S := fun w' => w'.cell? ⟨b1, f1 + i, none⟩ = some (.int .i64 x) ∧ w'.cell? ⟨b2, f2 + i, none⟩ = some (.int .i64 y)) (by kernel_rfl) (by kernel_rfl) (by exact ⟨k1', k2'⟩) ?_
          repeat (first
            | (refine seq_take0 (v := ?_) ?_ (fun _ _ _ h => h) (by kernel_rfl) ?_ ?_; rotate_left; (focus rfl); (focus (intro w' hSw; (try dsimp only at hSw); go_simp; (try with_reducible rfl); done)); (try simp only [Act.put, List.setIfInBounds_toArray, List.set_cons_zero, List.set_cons_succ]))
            | (refine seq_takeG (v := ?_) (g := ?_) (d := ?_) (b := ?_) (u := ?_) ?_ ?_ ?_ ?_ (fun _ _ _ h => h) (by kernel_rfl) ?_ ?_; rotate_left 5; (focus rfl); (focus rfl); (focus rfl); (focus (first | rfl | (go_simp; done))); (focus (intro w' hSw; (try dsimp only at hSw); go_simp; (try with_reducible rfl); done)); (try simp only [Act.put, List.setIfInBounds_toArray, List.set_cons_zero, List.set_cons_succ]))
            | (refine seq_skipG (g := ?_) (d := ?_) (b := ?_) (u := ?_) ?_ ?_ ?_ ?_ (fun _ _ _ h => h) (by kernel_rfl) ?_; rotate_left 4; (focus rfl); (focus rfl); (focus rfl); (focus (first | rfl | (go_simp; done))); (try simp only [Act.put, List.setIfInBounds_toArray, List.set_cons_zero, List.set_cons_succ])))
          refine seq_done (by kernel_rfl) ?_
          go_wp2_with fail
          go_roundw
          case rel =>
            refine ⟨i + 1, by omega, by go_num, fun k hk => ?_, HBD.out⟩
            by_cases e : k = i
            · subst e; rw [HX.out, HY.out, HXY.out]
            · exact HI.out k (by omega)
          case measure => simp [intOf]; omega
        · have hb : (x != y) = true := by simp [hxy]
          have HF := Lib.hid (eqZ_no HX.out HY.out hxy)
          clear hxy
          go_wp2_with fail
          refine seq_start (S := fun w' => w'.cell? ⟨b1, f1 + i, none⟩ = some (.int .i64 x) ∧ w'.cell? ⟨b2, f2 + i, none⟩ = some (.int .i64 y)) (by kernel_rfl) (by kernel_rfl) (by exact ⟨k1', k2'⟩) ?_
          repeat (first
            | (refine seq_take0 (v := ?_) ?_ (fun _ _ _ h => h) (by kernel_rfl) ?_ ?_; rotate_left; (focus rfl); (focus (intro w' hSw; (try dsimp only at hSw); go_simp; (try with_reducible rfl); done)); (try simp only [Act.put, List.setIfInBounds_toArray, List.set_cons_zero, List.set_cons_succ]))
            | (refine seq_takeG (v := ?_) (g := ?_) (d := ?_) (b := ?_) (u := ?_) ?_ ?_ ?_ ?_ (fun _ _ _ h => h) (by kernel_rfl) ?_ ?_; rotate_left 5; (focus rfl); (focus rfl); (focus rfl); (focus (first | rfl | (go_simp; done))); (focus (intro w' hSw; (try dsimp only at hSw); go_simp; (try with_reducible rfl); done)); (try simp only [Act.put, List.setIfInBounds_toArray, List.set_cons_zero, List.set_cons_succ]))
            | (refine seq_skipG (g := ?_) (d := ?_) (b := ?_) (u := ?_) ?_ ?_ ?_ ?_ (fun _ _ _ h => h) (by kernel_rfl) ?_; rotate_left 4; (focus rfl); (focus rfl); (focus rfl); (focus (first | rfl | (go_simp; done))); (try simp only [Act.put, List.setIfInBounds_toArray, List.set_cons_zero, List.set_cons_succ])))
          refine seq_done (by kernel_rfl) ?_
          go_wp2_with fail
          go_ret
          exact ⟨by rw [HR.out, HF.out]; rfl, HBD.out⟩
      · have hlti : ¬ ((i : Int) < (n : Int)) := by omega
        have HE : Hid (eqZ xs ys = true) := decide_eq_true (List.ext_getElem? fun k => by
          by_cases hk : k < i
          · exact HI.out k hk
          · rw [List.getElem?_eq_none (by have := HN.out; omega), List.getElem?_eq_none (by have := HM.out; omega)])
        go_wp2_with fail
        go_ret
        exact ⟨by rw [HR.out, HE.out]; rfl, HBEL.out⟩
  · have hnb : ((n : Int) != (m : Int)) = true := by simp; omega
    have HF : Hid (eqZ xs ys = false) := decide_eq_false fun e => by have := HN.out; have := HM.out; rw [e] at *; omega
    go_enter Try.func27, Try.ntmps27
    go_wp2_with fail
    go_ret
    exact ⟨by rw [HR.out, HF.out]; rfl, Below.refl _ _⟩
end Go.Proofs.Ytogccnngdfancaa

namespace Go.Proofs.Ytogccnngdfancaa
set_option linter.unusedVariables false
set_option linter.unusedSimpArgs false
def inRB (d : WorksD) (j : JobD) : Bool := decide (0 ≤ j.press ∧ j.press < d.presses ∧ 0 ≤ j.kind ∧ j.kind < d.cure.length ∧ 0 ≤ j.start ∧ j.start ≤ 1000000)
theorem inRB_iff {d : WorksD} {j : JobD} : inRB d j = true ↔ InRange d j := by
  unfold inRB
  rw [decide_eq_true_eq]
  exact ⟨fun ⟨a, b, c, e, f, g⟩ => ⟨a, b, c, e, f, g⟩, fun h => ⟨h.p0, h.p1, h.k0, h.k1, h.s0, h.s1⟩⟩
theorem inRB_no {d : WorksD} {j : JobD} (h : ¬ InRange d j) : inRB d j = false := by
  cases e : inRB d j with
  | false => rfl
  | true => exact absurd (inRB_iff.1 e) h
def cntL (d : WorksD) (l : List JobD) : List Int := (List.range d.cure.length).map fun k => (kindN l (k : Nat) : Int)
theorem cntL_len (d : WorksD) (l : List JobD) : (cntL d l).length = d.cure.length := by simp [cntL]
theorem cntL_get {d : WorksD} (l : List JobD) {k : Nat} (h : k < d.cure.length) : (cntL d l)[k]? = some ((kindN l k : Nat) : Int) := by
  unfold cntL; rw [List.getElem?_map, List.getElem?_range h]; rfl
theorem cntL_nil (d : WorksD) : cntL d [] = List.replicate d.cure.length 0 := by
  refine List.ext_getElem? fun k => ?_
  by_cases h : k < d.cure.length
  · rw [cntL_get [] h, List.getElem?_replicate, if_pos h]; rfl
  · rw [List.getElem?_eq_none (by rw [cntL_len]; omega), List.getElem?_eq_none (by simp; omega)]
theorem kindN_snoc (l : List JobD) (x : JobD) (k : Int) : kindN (l ++ [x]) k = kindN l k + if x.kind = k then 1 else 0 := by
  unfold kindN; rw [List.countP_append, List.countP_cons, List.countP_nil]; simp
theorem cntL_snoc {d : WorksD} (l : List JobD) {x : JobD} {k : Nat} (hk : x.kind = k) : cntL d (l ++ [x]) = (cntL d l).set k (((kindN l k : Nat) : Int) + 1) := by
  refine List.ext_getElem? fun i => ?_
  rw [List.getElem?_set, cntL_len]
  by_cases h : i < d.cure.length
  · rw [cntL_get _ h, kindN_snoc]
    by_cases e : k = i
    · subst e; rw [if_pos rfl, if_pos h, if_pos hk]; simp
    · rw [if_neg e, if_neg (by rw [hk]; omega), cntL_get _ h]; simp
  · rw [List.getElem?_eq_none (by rw [cntL_len]; omega)]
    by_cases e : k = i
    · rw [if_pos e, if_neg (by omega)]
    · rw [if_neg e, List.getElem?_eq_none (by rw [cntL_len]; omega)]
theorem cnt_need {d : WorksD} (hg : WGood d) (l : List JobD) : cntL d l = d.need ↔ ∀ k : Nat, k < d.cure.length → (kindN l k : Int) = needOf d k := by
  have hn := hg.ok.n1
  constructor
  · intro h k hk
    have h1 := cntL_get l hk
    rw [h] at h1
    unfold needOf
    rw [Int.toNat_natCast, List.getD_eq_getElem?_getD, h1]; rfl
  · intro h
    refine List.ext_getElem? fun i => ?_
    by_cases hi : i < d.cure.length
    · rw [cntL_get l hi, h i hi]
      unfold needOf
      rw [Int.toNat_natCast, List.getD_eq_getElem?_getD, List.getElem?_eq_getElem (by omega)]; rfl
    · rw [List.getElem?_eq_none (by rw [cntL_len]; omega), List.getElem?_eq_none (by omega)]
/-! Neighbours. -/
def adjB (d : WorksD) (a b : JobD) : Bool := decide (a.press = b.press → endJ d a + chg d a b ≤ b.start)
def adjAt (d : WorksD) (s : List JobD) (i : Nat) : Bool := match s[i - 1]?, s[i]? with
  | some a, some b => adjB d a b
  | _, _ => true
def adjUp (d : WorksD) (s : List JobD) (n : Nat) : Bool := (List.range n).all fun i => decide (i = 0) || adjAt d s i
theorem adjUp_succ (d : WorksD) (s : List JobD) (n : Nat) : adjUp d s (n + 1) = (adjUp d s n && (decide (n = 0) || adjAt d s n)) := by
  unfold adjUp; rw [List.range_succ, List.all_append]; simp
theorem adjAt_of {d : WorksD} {s : List JobD} {i : Nat} {a b : JobD} (ha : s[i - 1]? = some a) (hb : s[i]? = some b) : adjAt d s i = adjB d a b := by
  unfold adjAt; rw [ha, hb]
theorem adjUp_no {d : WorksD} {s : List JobD} {i : Nat} (h0 : 1 ≤ i) (h : adjAt d s i = false) : ∀ {n : Nat}, i < n → adjUp d s n = false
  | 0, hk => absurd hk (by omega)
  | n + 1, hk => by
    rw [adjUp_succ]
    by_cases e : i = n
    · subst e; rw [h, decide_eq_false (by omega)]; simp
    · rw [adjUp_no h0 h (by omega)]; rfl
def overM (d : WorksD) (l : List JobD) : Bool := l.any fun j => decide (mouldOf d j.kind < (runN d l j.kind j.start : Nat))
def chkS (d : WorksD) (l s : List JobD) : Int :=
  if wErr d ≠ 0 then wErr d else if 64 < l.length then 4 else if l.all (inRB d) = false then 1 else if adjUp d s s.length = false then 91 else if overM d l = true then 91 else if cntL d l = d.need then 0 else 5
instance (w : WorksD) (a b : JobD) : Decidable (PairOk w a b) := by unfold PairOk Sep; infer_instance
def chkE (d : WorksD) (l : List JobD) : Int :=
  if wErr d ≠ 0 then wErr d else if 64 < l.length then 4 else if l.all (inRB d) = false then 1 else if ¬ l.Pairwise (PairOk d) then 91 else if overM d l = true then 91 else if cntL d l = d.need then 0 else 5
theorem cure_in {d : WorksD} (hg : WGood d) {j : JobD} (h : InRange d j) : 1 ≤ cureOf d j.kind ∧ cureOf d j.kind ≤ 1000 := by
  have h0 := h.k0
  have h1 := h.k1
  have := hg.ok.cure j.kind.toNat (by omega)
  rwa [show ((j.kind.toNat : Nat) : Int) = j.kind by omega] at this
theorem sep_trans {d : WorksD} (hg : WGood d) {a b c : JobD} (hb : InRange d b) (h1 : Sep d a b) (h2 : Sep d b c) : Sep d a c := by
  have := cure_in hg hb
  have := hg.ok.c0
  have e : endJ d b = b.start + cureOf d b.kind := rfl
  unfold Sep at *
  have : chg d a c ≤ chg d a b + chg d b c := by
    unfold chg
    by_cases e1 : a.kind = b.kind
    · rw [if_pos e1, e1]; omega
    · rw [if_neg e1]
      split <;> split <;> omega
  omega
theorem adj_pairs {d : WorksD} (hg : WGood d) : ∀ (s : List JobD), (∀ j ∈ s, InRange d j) → SortedJ s → (∀ i : Nat, 1 ≤ i → i < s.length → adjAt d s i = true) → s.Pairwise (fun a b => a.press = b.press → Sep d a b)
  | [], _, _, _ => List.Pairwise.nil
  | [a], _, _, _ => List.pairwise_singleton _ _
  | a :: b :: s, hr, hs, ha => by
    have ih := adj_pairs hg (b :: s) (fun j hj => hr j (List.mem_cons_of_mem _ hj)) (List.pairwise_cons.1 hs).2 fun i h1 h2 => by
      have := ha (i + 1) (by omega) (by simp at h2 ⊢; omega)
      obtain ⟨i', rfl⟩ : ∃ i', i = i' + 1 := ⟨i - 1, by omega⟩
      unfold adjAt at this ⊢
      simpa using this
    have hab : a.press = b.press → Sep d a b := by
      have := ha 1 (Nat.le_refl _) (by simp)
      rw [adjAt_of (a := a) (b := b) rfl rfl] at this
      exact of_decide_eq_true (p := a.press = b.press → endJ d a + chg d a b ≤ b.start) this
    refine List.pairwise_cons.2 ⟨fun c hc => ?_, ih⟩
    rcases List.mem_cons.1 hc with rfl | hc
    · exact hab
    · intro he
      have h1 := (List.pairwise_cons.1 hs).1 b (List.mem_cons_self ..)
      have h2 := (List.pairwise_cons.1 (List.pairwise_cons.1 hs).2).1 c hc
      have hp : a.press = b.press := by unfold LeJ at h1 h2; omega
      exact sep_trans hg (hr b (by simp)) (hab hp) ((List.pairwise_cons.1 ih).1 c hc (by omega))
theorem pairOk_symm {d : WorksD} {a b : JobD} (h : PairOk d a b) : PairOk d b a := fun e => (h e.symm).symm
theorem pairs_perm {d : WorksD} {l s : List JobD} (h : s.Perm l) : s.Pairwise (PairOk d) ↔ l.Pairwise (PairOk d) := h.pairwise_iff fun {a b} hab => pairOk_symm hab
theorem adj_iff {d : WorksD} (hg : WGood d) {l s : List JobD} (hr : ∀ j ∈ l, InRange d j) (hp : s.Perm l) (hs : SortedJ s) : adjUp d s s.length = true ↔ l.Pairwise (PairOk d) := by
  have hrs : ∀ j ∈ s, InRange d j := fun j hj => hr j (hp.mem_iff.1 hj)
  rw [← pairs_perm hp]
  constructor
  · intro h
    refine (adj_pairs hg s hrs hs fun i h1 h2 => ?_).imp fun {a b} hab e => .inl (hab e)
    unfold adjUp at h
    have := List.all_eq_true.1 h i (List.mem_range.2 h2)
    rw [decide_eq_false (by omega)] at this
    simpa using this
  · intro h
    unfold adjUp
    rw [List.all_eq_true]
    intro i hi
    rw [List.mem_range] at hi
    by_cases e : i = 0
    · rw [decide_eq_true e]; rfl
    · have ha : s[i - 1]? = some (s[i - 1]'(by omega)) := List.getElem?_eq_getElem _
      have hb : s[i]? = some (s[i]'hi) := List.getElem?_eq_getElem _
      rw [adjAt_of ha hb]
      have h1 := List.pairwise_iff_getElem.1 h (i - 1) i (by omega) hi (by omega)
      have h2 := List.pairwise_iff_getElem.1 hs (i - 1) i (by omega) hi (by omega)
      have c1 := cure_in hg (hrs _ (List.getElem_mem (l := s) (n := i) hi))
      have c0 := hg.ok.c0
      generalize s[i - 1]'(by omega) = a at h1 h2
      generalize s[i]'hi = b at h1 h2 c1
      have : adjB d a b = true := by
        unfold adjB
        refine decide_eq_true fun he => ?_
        rcases h1 he with h1 | h1
        · exact h1
        · unfold Sep at h1
          have e1 : endJ d b = b.start + cureOf d b.kind := rfl
          have : 0 ≤ chg d b a := by unfold chg; split <;> omega
          unfold LeJ at h2
          omega
      rw [this]; simp
theorem chkS_eq {d : WorksD} {l s : List JobD} (hp : s.Perm l) (hs : SortedJ s) : chkS d l s = chkE d l := by
  unfold chkS chkE
  by_cases h1 : wErr d ≠ 0
  · rw [if_pos h1, if_pos h1]
  · rw [if_neg h1, if_neg h1]
    by_cases h2 : 64 < l.length
    · rw [if_pos h2, if_pos h2]
    · rw [if_neg h2, if_neg h2]
      by_cases h3 : l.all (inRB d) = false
      · rw [if_pos h3, if_pos h3]
      · rw [if_neg h3, if_neg h3]
        have hr : ∀ j ∈ l, InRange d j := by
          have : l.all (inRB d) = true := by simpa using h3
          exact fun j hj => inRB_iff.1 (List.all_eq_true.1 this j hj)
        have hg := wgood_of (Classical.not_not.1 h1)
        have hi := adj_iff hg hr hp hs
        by_cases h4 : adjUp d s s.length = true
        · rw [if_neg (by rw [h4]; decide), if_neg (c := ¬ l.Pairwise (PairOk d)) (fun h => h (hi.1 h4))]
        · rw [if_pos (by simpa using h4), if_pos (fun h => h4 (hi.2 h))]
theorem overM_iff {d : WorksD} {l : List JobD} : overM d l = false ↔ ∀ j ∈ l, (runN d l j.kind j.start : Int) ≤ mouldOf d j.kind := by
  unfold overM
  rw [List.any_eq_false]
  simp [Int.not_lt]
theorem chkE_zero {d : WorksD} {l : List JobD} : chkE d l = 0 ↔ wErr d = 0 ∧ l.length ≤ 64 ∧ Valid d l := by
  unfold chkE
  by_cases h1 : wErr d ≠ 0
  · rw [if_pos h1]; exact ⟨fun h => absurd h h1, fun h => absurd h.1 h1⟩
  · rw [if_neg h1]
    have hz : wErr d = 0 := Classical.not_not.1 h1
    have hg := wgood_of hz
    by_cases h2 : 64 < l.length
    · rw [if_pos h2]; exact ⟨fun h => absurd h (by decide), fun h => absurd h.2.1 (by omega)⟩
    · rw [if_neg h2]
      by_cases h3 : l.all (inRB d) = false
      · rw [if_pos h3]
        refine ⟨fun h => absurd h (by decide), fun h => ?_⟩
        have : l.all (inRB d) = true := List.all_eq_true.2 fun j hj => inRB_iff.2 (h.2.2.rng j hj)
        rw [this] at h3; cases h3
      · rw [if_neg h3]
        have hr : ∀ j ∈ l, InRange d j := by
          have : l.all (inRB d) = true := by simpa using h3
          exact fun j hj => inRB_iff.1 (List.all_eq_true.1 this j hj)
        by_cases h4 : l.Pairwise (PairOk d)
        · rw [if_neg (fun h => h h4)]
          by_cases h5 : overM d l = true
          · rw [if_pos h5]
            refine ⟨fun h => absurd h (by decide), fun h => ?_⟩
            rw [overM_iff.2 h.2.2.mould] at h5; cases h5
          · rw [if_neg h5]
            have h5' : overM d l = false := by simpa using h5
            by_cases h6 : cntL d l = d.need
            · rw [if_pos h6]
              exact ⟨fun _ => ⟨hz, by omega, hr, h4, overM_iff.1 h5', (cnt_need hg l).1 h6⟩, fun _ => rfl⟩
            · rw [if_neg h6]
              exact ⟨fun h => absurd h (by decide), fun h => absurd ((cnt_need hg l).2 h.2.2.need) h6⟩
        · rw [if_pos h4]; exact ⟨fun h => absurd h (by decide), fun h => absurd h.2.2.pair h4⟩
end Go.Proofs.Ytogccnngdfancaa

