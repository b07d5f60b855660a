/- Walks of pitches: pitched, correlation, noise. -/
import Derived.Test.YtodckaioeomccaaGreatPart02
import Derived.Shelf.Abstract
namespace Go.Proofs.YtodckaioeomccaaGreat
open Go.RowKit Go.Shelf
set_option linter.unusedVariables false
set_option linter.unusedSimpArgs false
def intV (i : Int) : Value := .int .i64 i
def RdL (w : World) (v : Value) (l : List Int) : Prop := Rd intV w (fun _ => True) v l
theorem RdL.below {w w' : World} {v : Value} {l : List Int} (h : RdL w v l) (hb : Below w.heap.size w w') : RdL w' v l := Rd.below h hb
theorem RdL.open_ {w : World} {v : Value} {l : List Int} (h : RdL w v l) : ∃ A n cap, v = .slice A n cap ∧ l.length = n ∧ n ≤ cap ∧ n ≤ 9223372036854775807 ∧ cap ≤ maxLen ∧
  (∀ k, k < n → ∃ b off x, A = some ⟨b, off, none⟩ ∧ b < w.heap.size ∧ l[k]? = some x ∧ w.cell? ⟨b, off + k, none⟩ = some (.int .i64 x)) := by
 have h0 := Rd.lt h
 obtain ⟨A, cap, rfl, h1, h2, h3⟩ := h0
 refine ⟨A, l.length, cap, rfl, rfl, h1, by unfold maxLen at h2; omega, h2, fun k hk => ?_⟩
 obtain ⟨b, off, rfl, hb, hc⟩ := h3 (fun e => by subst e; simp at hk)
 exact ⟨b, off, l[k], rfl, hb.2, List.getElem?_eq_getElem hk, hc k hk⟩
theorem RdL.id {w : World} {v : Value} {l : List Int} (h : RdL w v l) : Rd id w (fun _ => True) v (l.map intV) := by
 obtain ⟨A, cap, rfl, h1, h2, h3⟩ := h
 refine ⟨A, cap, by simp, by simpa using h1, h2, fun hn => ?_⟩
 obtain ⟨b, off, rfl, hb, hc⟩ := h3 (fun e => hn (by rw [e]; rfl))
 exact ⟨b, off, rfl, hb, fun i hi => by simpa using hc i (by simpa using hi)⟩
def atL (l : List Int) (i : Nat) : Int := l.getD i 0
theorem atL_of {l : List Int} {k : Nat} {x : Int} (h : l[k]? = some x) : atL l k = x := by unfold atL; rw [List.getD_eq_getElem?_getD, h]; rfl
def SmallP (l : List Int) : Prop := ∀ x ∈ l, 1 ≤ x ∧ x ≤ 100
theorem sumN_bound {g : Nat → Int} {c : Int} : ∀ {n : Nat}, (∀ i, i < n → 0 ≤ g i ∧ g i ≤ c) → 0 ≤ Cyc.sumN n g ∧ Cyc.sumN n g ≤ n * c
 | 0, _ => by simp [Cyc.sumN]
 | n + 1, h => by
  have h1 := sumN_bound (n := n) fun i hi => h i (by omega)
  have h2 := h n (by omega)
  show 0 ≤ Cyc.sumN n g + g n ∧ Cyc.sumN n g + g n ≤ _
  rw [show ((n + 1 : Nat) : Int) * c = n * c + c by rw [Int.natCast_add, Int.add_mul]; omega]
  omega
def pitchE (l : List Int) : Int := if l.length = 0 ∨ 12 < l.length then 4 else if ∀ x ∈ l, 1 ≤ x ∧ x ≤ 100 then 0 else 1
theorem enters_pitch1 : ∀ args w, (callFunc 192 args).run Tryz.prog w = .ok (.enter 192 args) w := enters_of Tryz.func192 (by kernel_rfl) rfl
theorem pitch1_any (p : Int) (w : World) : Calls Tryz.prog 192 #[.int .i64 p] w fun e w' => e = .returned (.bool (decide (p < 1 ∨ 100 < p))) ∧ Below w.heap.size w w' := by
 by_cases h1 : p < 1
 ·rw [decide_eq_true (.inl h1)]
  go_enter Tryz.func192, Tryz.ntmps192
  go_wp2_with fail
  go_ret
  exact ⟨rfl, Below.refl _ _⟩
 ·by_cases h2 : 100 < p
  ·rw [decide_eq_true (.inr h2)]
   go_enter Tryz.func192, Tryz.ntmps192
   go_wp2_with fail
   go_ret
   exact ⟨rfl, Below.refl _ _⟩
  ·rw [decide_eq_false (fun h => h.elim h1 h2)]
   go_enter Tryz.func192, Tryz.ntmps192
   go_wp2_with fail
   go_ret
   exact ⟨rfl, Below.refl _ _⟩
theorem anyP (l : List Int) : anyIdx (fun i => decide (atL l i < 1 ∨ 100 < atL l i)) l.length = !decide (∀ x ∈ l, 1 ≤ x ∧ x ≤ 100) := by
 unfold anyIdx
 rw [Bool.eq_iff_iff, List.any_eq_true]
 simp only [List.mem_range, decide_eq_true_eq, Bool.not_eq_true', decide_eq_false_iff_not]
 constructor
 ·rintro ⟨i, hi, h⟩ hall
  have hx := List.getElem?_eq_getElem hi
  rw [atL_of hx] at h
  have := hall _ (List.getElem_mem hi)
  omega
 ·intro h
  refine Classical.byContradiction fun hn => h fun x hx => ?_
  obtain ⟨i, hi, rfl⟩ := List.getElem_of_mem hx
  refine Classical.byContradiction fun hx2 => hn ⟨i, hi, ?_⟩
  rw [atL_of (List.getElem?_eq_getElem hi)]
  omega
theorem pitchE_size {l : List Int} (h : l.length = 0 ∨ 12 < l.length) : pitchE l = 4 := if_pos h
theorem pitchE_ok {l : List Int} (h : ¬ (l.length = 0 ∨ 12 < l.length)) (h2 : ∀ x ∈ l, 1 ≤ x ∧ x ≤ 100) : pitchE l = 0 := by unfold pitchE; rw [if_neg h, if_pos h2]
theorem pitchE_arg {l : List Int} (h : ¬ (l.length = 0 ∨ 12 < l.length)) (h2 : ¬ ∀ x ∈ l, 1 ≤ x ∧ x ≤ 100) : pitchE l = 1 := by unfold pitchE; rw [if_neg h, if_neg h2]
set_option maxHeartbeats 1000000 in
theorem pitched_any (v : Value) (l : List Int) (w : World) (h : RdL w v l) : Calls Tryz.prog 107 #[v] w fun e w' => e = .returned (.int .i64 (pitchE l)) ∧ Below w.heap.size w w' := by
 have HC := h0d (containsFuncI_any v (l.map intV) _ 192 #[] enters_pitch1 (fun i => decide (atL l i < 1 ∨ 100 < atL l i)) w h.id (fun i u hu w' hb => by
  rw [List.getElem?_map] at hu
  rcases hx : l[i]? with _ | x
  ·rw [hx] at hu; cases hu
  ·rw [hx] at hu
   obtain rfl : intV x = u := by simpa using hu
   rw [atL_of hx]; exact pitch1_any x w'))
 rw [List.length_map, anyP] at HC
 have HE1 := h0d (@pitchE_size l)
 have HE2 := h0d (@pitchE_ok l)
 have HE3 := h0d (@pitchE_arg l)
 obtain ⟨A, n, cap, rfl, hn, hcap, hmax, hcm, _⟩ := h.open_
 rw [hn] at HE1 HE2 HE3
 clear hn h hcm
 obtain ⟨pe, hpe⟩ : ∃ p, p = pitchE l := ⟨_, rfl⟩
 rw [← hpe] at HE1 HE2 HE3 ⊢
 clear hpe
 by_cases h0 : n = 0
 ·have he := HE1.out (.inl h0)
  subst he; subst h0
  go_enter Tryz.func107, Tryz.ntmps107
  go_wp2_with fail
  go_ret
  exact ⟨rfl, Below.refl _ _⟩
 ·by_cases h12 : 12 < n
  ·have he := HE1.out (.inr h12)
   subst he
   have hb0 : ((n : Int) == 0) = false := beq_false_of_ne (by omega)
   have hb1 : (12 : Int) < (n : Int) := by omega
   go_enter Tryz.func107, Tryz.ntmps107
   go_wp2_with fail
   go_ret
   exact ⟨rfl, Below.refl _ _⟩
  ·have hn12 : ¬ (n = 0 ∨ 12 < n) := by omega
   have hb0 : ((n : Int) == 0) = false := beq_false_of_ne (by omega)
   have hb1 : ¬ (12 : Int) < (n : Int) := by omega
   by_cases hall : ∀ x ∈ l, 1 ≤ x ∧ x ≤ 100
   ·have he := HE2.out hn12 hall
    rw [decide_eq_true hall] at HC
    subst he
    clear hall
    go_enter Tryz.func107, Tryz.ntmps107
    go_wp2_with (go_at_call 91; refine HC.out.mono ?_; rintro e w1 ⟨rfl, hbw⟩)
    go_ret
    exact ⟨rfl, hbw⟩
   ·have he := HE3.out hn12 hall
    rw [decide_eq_false hall] at HC
    subst he
    clear hall
    go_enter Tryz.func107, Tryz.ntmps107
    go_wp2_with (go_at_call 91; refine HC.out.mono ?_; rintro e w1 ⟨rfl, hbw⟩)
    go_ret
    exact ⟨rfl, hbw⟩
set_option maxHeartbeats 1000000 in
theorem corr_any (v : Value) (l : List Int) (d : Nat) (w : World) (h : RdL w v l) (hl : l.length ≤ 12) (hs : SmallP l) (hd : d ≤ 12) :
  Calls Tryz.prog 115 #[v, .int .i64 (d : Int)] w fun e w' => e = .returned (.int .i64 (Cyc.cor (atL l) l.length d)) ∧ w' = w := by
 obtain ⟨A, n, cap, rfl, hn, hcap, hmax, hcm, hc⟩ := h.open_
 rw [hn] at hl ⊢
 obtain ⟨r, hr⟩ : ∃ r, r = Cyc.cor (atL l) n d := ⟨_, rfl⟩
 rw [← hr]
 have HR := h0d hr
 have HC := h0d hc
 have HS : Hid (∀ (k : Nat) (x : Int), l[k]? = some x → 1 ≤ x ∧ x ≤ 100) := fun k x hx => hs x (List.mem_of_getElem? hx)
 obtain ⟨g, hg⟩ : ∃ g : Nat → Int, g = fun i => atL l i * atL l ((i + d) % n) := ⟨_, rfl⟩
 have HG := h0d hg
 have HGB : Hid (∀ i, i < n → 0 ≤ g i ∧ g i ≤ 10000) := fun i hi => by
  obtain ⟨_, _, x, _, _, hx, _⟩ := hc i hi
  obtain ⟨_, _, y, _, _, hy, _⟩ := hc ((i + d) % n) (Nat.mod_lt _ (by omega))
  rw [hg]
  simp only [atL_of hx, atL_of hy]
  have a := HS.out _ _ hx
  have b := HS.out _ _ hy
  constructor
  ·exact Int.mul_nonneg (by omega) (by omega)
  ·exact Int.mul_le_mul a.2 b.2 (by omega) (by omega)
 clear hr hc hn h hs hg hcm
 go_enter Tryz.func115, Tryz.ntmps115
 go_wp2_with fail
 go_loop [5, 6, 7, 10] (fun sv _ _ iv => ∃ (k : Nat) (s : Int), k ≤ n ∧ iv = .int .i64 (k : Int) ∧ sv = .int .i64 s ∧ Hid (s = Cyc.sumN k g)) (fun _ _ _ iv => n - (intOf iv).toNat)
 case atStart => exact ⟨0, 0, Nat.zero_le _, rfl, rfl, rfl⟩
 case round =>
  obtain ⟨k, s, hk, rfl, rfl, HSU⟩ := hrel
  by_cases hlt : k < n
  ·obtain ⟨b, off, x, rfl, hb, hx, hcx⟩ := HC.out k hlt
   obtain ⟨t, ht⟩ : ∃ t, t = (k + d) % n := ⟨_, rfl⟩
   have htn : t < n := by rw [ht]; exact Nat.mod_lt _ (by omega)
   obtain ⟨b', off', y, e, hb', hy, hcy⟩ := HC.out t htn
   simp only [Option.some.injEq, Addr.mk.injEq] at e
   obtain ⟨rfl, rfl, _⟩ := e
   have hgb := HGB.out k hlt
   have hgk : g k = x * y := by rw [HG.out]; simp only [← ht, atL_of hx, atL_of hy]
   have hsb := sumN_bound (n := k) (g := g) (c := 10000) fun i hi => HGB.out i (by omega)
   rw [← HSU.out] at hsb
   obtain ⟨p, hp⟩ : ∃ p, p = x * y := ⟨_, rfl⟩
   rw [hgk, ← hp] at hgb
   obtain ⟨q, hq⟩ : ∃ q : Nat, q = k + d := ⟨_, rfl⟩
   have hw1 : IntKind.i64.wrap ((k : Int) + (d : Int)) = (q : Int) := by rw [IntWalk.i64_in _ (by omega), hq]; omega
   have hrem : ((q : Int)).tmod (n : Int) = (t : Int) := by rw [ht, ← hq, Int.tmod_eq_emod_of_nonneg (by omega), Int.natCast_emod]
   have hw0 : IntKind.i64.wrap (t : Int) = (t : Int) := IntWalk.i64_in _ (by omega)
   have hw2 : IntKind.i64.wrap (x * y) = p := by rw [← hp]; exact IntWalk.i64_in _ (by omega)
   obtain ⟨s', hs'⟩ : ∃ s', s' = s + p := ⟨_, rfl⟩
   have hw3 : IntKind.i64.wrap (s + p) = s' := by rw [hs']; exact IntWalk.i64_in _ (by omega)
   have hn0 : ((n : Int) == 0) = false := beq_false_of_ne (by omega)
   have HS' : Hid (s' = Cyc.sumN (k + 1) g) := by
    show _ = Cyc.sumN k g + g k
    rw [hs', HSU.out, hgk, hp]
   clear ht hx hy hgb hgk hsb hp hq hs' hb hb' hd
   go_wp2_with fail
   go_round
   case rel => exact ⟨k + 1, s', by omega, by go_num, rfl, HS'⟩
   case measure => simp [intOf]; omega
  ·obtain rfl : k = n := by omega
   have HE : Hid (s = r) := by show _ = _; rw [HSU.out, HR.out, HG.out]; rfl
   go_wp2_with fail
   go_ret
   exact ⟨ret_int HE.out, rfl⟩
end Go.Proofs.YtodckaioeomccaaGreat
