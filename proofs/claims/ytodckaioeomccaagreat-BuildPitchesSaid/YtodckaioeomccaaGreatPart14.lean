/- Walks of pitches: noise, Noise, starts; places: apart. The walk of arranged. -/
import Derived.Test.YtodckaioeomccaaGreatPart05
import Derived.Test.YtodckaioeomccaaGreatPart06
import Derived.Test.YtodckaioeomccaaGreatPart09
namespace Go.Proofs.YtodckaioeomccaaGreat
open Go.RowKit Go.Shelf
set_option linter.unusedVariables false
set_option linter.unusedSimpArgs false
set_option maxHeartbeats 1000000 in
theorem noise_any (v : Value) (l : List Int) (w : World) (h : RdL w v l) (hl : l.length ≤ 12) (hs : SmallP l) :
  Calls Tryz.prog 112 #[v] w fun e w' => e = .returned (.int .i64 (Cyc.noise (atL l) l.length)) ∧ w' = w := by
 have HCO := h0d (fun d (hd : d ≤ 12) => corr_any v l d w h hl hs hd)
 obtain ⟨A, n, cap, rfl, hn, hcap, hmax, hcm, hc⟩ := h.open_
 rw [hn] at hl HCO ⊢
 obtain ⟨g, hg⟩ : ∃ g : Nat → Int, g = fun d => Cyc.cor (atL l) n d := ⟨_, rfl⟩
 have HCG : Hid (∀ d : Nat, d ≤ 12 → Calls Tryz.prog 115 #[.slice A n cap, .int .i64 (d : Int)] w fun e w' => e = .returned (.int .i64 (g d)) ∧ w' = w) := by rw [hg]; exact HCO.out
 obtain ⟨f, hf⟩ : ∃ f : Nat → Int, f = fun k => Cyc.noiseN (atL l) n k := ⟨_, rfl⟩
 have HF1 : Hid (f 1 = 0) := by rw [hf]; rfl
 have HFS : Hid (∀ k, 1 ≤ k → f (k + 1) = max (f k) (g k)) := fun k hk => by
  rw [hf, hg]; show (if k = 0 then _ else _) = _; rw [if_neg (by omega)]
 have HFN : Hid (Cyc.noise (atL l) n = f n) := by rw [hf]; rfl
 have HF0 : Hid (f 0 = 0) := by rw [hf]; rfl
 rw [HFN.out]
 clear hc hcm h hs hg hf HCO hn
 go_enter Tryz.func112, Tryz.ntmps112
 go_wp2_with fail
 go_loop [3, 4] (fun sv dv => ∃ (k : Nat) (s : Int), 1 ≤ k ∧ (k ≤ n ∨ k = 1) ∧ dv = .int .i64 (k : Int) ∧ sv = .int .i64 s ∧ Hid (s = f k)) (fun _ dv => n - (intOf dv).toNat)
 case atStart => exact ⟨1, 0, Nat.le_refl _, .inr rfl, rfl, rfl, HF1.out.symm⟩
 case round =>
  obtain ⟨k, s, hk1, hk, rfl, rfl, HS⟩ := hrel
  by_cases hlt : k < n
  ·have HCK := h0d (HCG.out k (by omega))
   obtain ⟨x, hx⟩ : ∃ x, x = g k := ⟨_, rfl⟩
   rw [← hx] at HCK
   have HS1 : Hid ((if s < x then x else s) = f (k + 1)) := by
    show _ = _
    rw [HFS.out k hk1, ← HS.out, ← hx]
    split <;> omega
   clear hx
   go_wp2_with (go_at_call 115; refine HCK.out.mono ?_; rintro e w1 ⟨rfl, hwx⟩; obtain rfl := hwx.symm)
   go_round
   case rel => exact ⟨k + 1, _, by omega, by omega, by go_num, rfl, by first | exact HS1 | exact (show Hid (max s x = f (k + 1)) from (by have h9 := HS1.out; show _ = _; rw [← h9]; split <;> omega))⟩
   case measure => simp [intOf]; omega
  ·have HE : Hid (s = f n) := by
    show _ = _
    rcases hk with h | h
    ·obtain rfl : k = n := by omega
     exact HS.out
    ·subst h
     rw [HS.out, HF1.out]
     rcases Nat.lt_or_ge 0 n with h2 | h2
     ·obtain rfl : n = 1 := by omega
      exact HF1.out.symm
     ·obtain rfl : n = 0 := by omega
      exact HF0.out.symm
   go_wp2_with fail
   go_ret
   exact ⟨ret_int HE.out, rfl⟩
def apartN (p q : Int) : Int := min ((p - q + 24) % 24) ((24 - (p - q + 24) % 24) % 24)
theorem apart_any (p q : Int) (w : World) (hp : 0 ≤ p ∧ p < 24) (hq : 0 ≤ q ∧ q < 24) :
  Calls Tryz.prog 129 #[.int .i64 p, .int .i64 q] w fun e w' => e = .returned (.int .i64 (apartN p q)) ∧ w' = w := by
 obtain ⟨d, hd⟩ : ∃ d, d = (p - q + 24) % 24 := ⟨_, rfl⟩
 obtain ⟨u, hu⟩ : ∃ u, u = (24 - d) % 24 := ⟨_, rfl⟩
 have HR : Hid (apartN p q = min d u) := by show _ = _; unfold apartN; rw [← hd, ← hu]
 rw [HR.out]
 obtain ⟨a, ha⟩ : ∃ a, a = p - q := ⟨_, rfl⟩
 have hw1 : IntKind.i64.wrap (p - q) = a := by rw [ha]; exact IntWalk.i64_in _ (by omega)
 obtain ⟨b, hb⟩ : ∃ b, b = a + 24 := ⟨_, rfl⟩
 have hw2 : IntKind.i64.wrap (a + 24) = b := by rw [hb]; exact IntWalk.i64_in _ (by omega)
 have hr1 : b.tmod 24 = d := by rw [hd, Int.tmod_eq_emod_of_nonneg (by omega), hb, ha]
 have hw3 : IntKind.i64.wrap d = d := IntWalk.i64_in _ (by omega)
 obtain ⟨c, hc⟩ : ∃ c, c = 24 - d := ⟨_, rfl⟩
 have hw4 : IntKind.i64.wrap (24 - d) = c := by rw [hc]; exact IntWalk.i64_in _ (by omega)
 have hr2 : c.tmod 24 = u := by rw [hu, Int.tmod_eq_emod_of_nonneg (by omega), hc]
 have hw5 : IntKind.i64.wrap u = u := IntWalk.i64_in _ (by omega)
 clear hd hu ha hb hc hp hq
 go_enter Tryz.func129, Tryz.ntmps129
 go_wp2_with fail
 all_goals (go_ret; refine ⟨ret_int ?_, rfl⟩; omega)
def OwnL (w : World) (B : Nat) (v : Value) (l : List Int) : Prop := w.ownsRow B 3 1 v l.length (l.map intV)
theorem OwnL.rd {w : World} {B : Nat} {v : Value} {l : List Int} (h : OwnL w B v l) : RdL w v l := (Rd.of_own (f := intV) (xs := l) h).mono fun _ _ => trivial
theorem OwnL.nil (w : World) (B : Nat) : OwnL w B (.slice none 0 0) [] := World.ownsRow_nil w B 3 1
theorem OwnL.slice {w : World} {B : Nat} {v : Value} {l : List Int} (h : OwnL w B v l) : ∃ A c, v = .slice A l.length c := ownsRow_slice h
theorem sum_take {l : List Int} {k : Nat} {x : Int} (h : l[k]? = some x) : (l.take (k + 1)).sum = (l.take k).sum + x := by
 rw [take_snoc? h, List.sum_append]; simp
def startsL (l : List Int) : List Int := (List.range l.length).map fun k => (l.take k).sum
theorem starts_take (l : List Int) (k : Nat) (hk : k < l.length) : (startsL l).take (k + 1) = (startsL l).take k ++ [(l.take k).sum] := by
 refine take_snoc? ?_
 unfold startsL
 rw [List.getElem?_map, List.getElem?_range hk]; rfl
theorem sum_small {l : List Int} (hs : SmallP l) (hl : l.length ≤ 12) (k : Nat) : 0 ≤ (l.take k).sum ∧ (l.take k).sum ≤ 1200 := by
 have key : ∀ l : List Int, SmallP l → 0 ≤ l.sum ∧ l.sum ≤ 100 * l.length := fun l => by
  induction l with
  | nil => intro _; simp
  | cons a l ih =>
   intro h
   have h1 := ih fun x hx => h x (List.mem_cons_of_mem _ hx)
   have h2 := h a (List.mem_cons_self ..)
   simp only [List.sum_cons, List.length_cons]
   omega
 have := key (l.take k) fun x hx => hs x (List.mem_of_mem_take hx)
 have h2 : (l.take k).length ≤ 12 := by rw [List.length_take]; omega
 omega
set_option maxRecDepth 100000 in
set_option maxHeartbeats 2000000 in
theorem starts_any (v : Value) (l : List Int) (w : World) (h : RdL w v l) (hl : l.length ≤ 12) (hs : SmallP l) :
  Calls Tryz.prog 114 #[v] w fun e w' => (∃ v', e = .returned (.tuple #[v', .int .i64 l.sum]) ∧ OwnL w' w.heap.size v' (startsL l)) ∧ Below w.heap.size w w' := by
 obtain ⟨i0, hi0, hz0, hz1, hz2⟩ := info_parts info3
 have HSB := h0d (sum_small hs hl)
 have HST := h0d (starts_take l)
 have HFN : Hid ((startsL l).take l.length = startsL l) := List.take_of_length_le (by unfold startsL; simp)
 have HFS : Hid ((l.take l.length).sum = l.sum) := by show _ = _; rw [List.take_length]
 obtain ⟨A, n, cap, rfl, hn, hcap, hmax, hcm, hc⟩ := h.open_
 rw [hn] at hl HST HFN HFS
 have HC := h0d hc
 have HSM : Hid (∀ (k : Nat) (x : Int), l[k]? = some x → (l.take (k + 1)).sum = (l.take k).sum + x) := fun k x h => sum_take h
 clear hc hn h hs hcm
 go_enter Tryz.func114, Tryz.ntmps114
 go_wp2_with fail
 go_loopw [4, 5, 7, 10] (fun ov sv _ iv wr => ∃ (k : Nat), k ≤ n ∧ iv = .int .i64 (k : Int) ∧ sv = .int .i64 (l.take k).sum ∧ Hid (((startsL l).take k).length = k) ∧ Hid (OwnL wr w.heap.size ov ((startsL l).take k)) ∧ Hid (Below w.heap.size w wr)) (fun _ _ _ iv _ => n - (intOf iv).toNat)
 case atStart => exact ⟨0, Nat.zero_le _, rfl, rfl, rfl, OwnL.nil _ _, Below.refl _ _⟩
 case round =>
  obtain ⟨k, hk, rfl, rfl, HLN, HOW, HBE⟩ := hrel
  obtain ⟨s, hs⟩ : ∃ s, s = (l.take k).sum := ⟨_, rfl⟩
  rw [← hs]
  by_cases hlt : k < n
  ·obtain ⟨b, off, x, rfl, hb, hx, hcx⟩ := HC.out k hlt
   have hcx' := (HBE.out.cell (p := ⟨b, off + k, none⟩) hb).trans hcx
   obtain ⟨A5, c5, rfl⟩ := HOW.out.slice
   have HO1 := h0d (World.ownsRow.alloc HOW.out (.cells #[.int .i64 s] 3))
   rw [HLN.out] at HO1 ⊢
   have HBE1 : Hid (Below w.heap.size w (wr.alloc (.cells #[.int .i64 s] 3))) := HBE.out.alloc HBE.out.size _
   obtain ⟨s', hs'⟩ : ∃ s', s' = (l.take (k + 1)).sum := ⟨_, rfl⟩
   have hw : IntKind.i64.wrap (s + x) = s' := by
    have h1 := HSB.out (k + 1)
    rw [hs', HSM.out k x hx, ← hs]; rw [HSM.out k x hx, ← hs] at h1
    exact IntWalk.i64_in _ (by omega)
   have HS' := h0d hs'
   have HT := h0d (HST.out k hlt)
   rw [← hs] at HT
   clear hs hs' hx hcx hb
   go_wp2_with (at_builtin; refine wpList_append_own _ rfl _ _ 22 rfl w.heap.size 3 i0 (.int .i64 0) 1 8 Tryz.underlying22 hi0 hz0 hz1 hz2 rfl (by decide) _ k _ rfl HO1.out ⟨wr.heap.size, 0, none⟩ 1 1 [.int .i64 s] rfl rfl (cells_new wr #[.int .i64 s] 3 (0, 0)) (fun u hu => by rw [List.mem_singleton.1 hu]; rfl) (by unfold maxLen; omega) (by omega) (by have := HBE.out.size; simp; omega) ?_; intro v' w1 hown1 hgrow1 _; have HW1 := h0d hown1; have HG1 := h0d hgrow1; clear hown1 hgrow1)
   go_roundw
   case rel =>
    refine ⟨k + 1, by omega, by go_num, by rw [← HS'.out], by show _ = _; rw [HT.out, List.length_append, HLN.out]; rfl, ?_, HBE1.out.grown HG1.out (by have := HBE.out.size; simp; omega) (fun g hg => (HO1.out.lt g hg).1)⟩
    have h := HW1.out
    unfold OwnL
    show World.ownsRow _ _ _ _ _ _ _
    rw [HT.out, List.length_append, HLN.out, List.map_append]; exact h
   case measure => simp [intOf]; omega
  ·obtain rfl : k = n := by omega
   go_wp2_with fail
   go_ret2
   refine ⟨⟨_, congrArg (fun z => Ending.returned (.tuple #[_, .int .i64 z])) (hs.trans HFS.out), ?_⟩, HBE.out⟩
   have h := HOW.out
   rw [HFN.out] at h; exact h
end Go.Proofs.YtodckaioeomccaaGreat
namespace Go.Proofs.YtodckaioeomccaaGreat
open Go.RowKit Go.Shelf
set_option linter.unusedVariables false
set_option linter.unusedSimpArgs false
def runN (f : Nat → Int) : Nat → Nat
 | 0 => 0
 | k + 1 => if 0 < k ∧ f k ≠ f (k - 1) then 1 else runN f k + 1
def cntA (f : Nat → Int) : Nat → Nat
 | 0 => 1
 | k + 1 => cntA f k * (k + 1) / runN f (k + 1)
theorem runN_pos (f : Nat → Int) (k : Nat) : 1 ≤ runN f (k + 1) := by unfold runN; split <;> omega
theorem runN_le (f : Nat → Int) : ∀ k, runN f k ≤ k
 | 0 => Nat.le_refl _
 | k + 1 => by have := runN_le f k; unfold runN; split <;> omega
theorem cntA_le (f : Nat → Int) : ∀ k, k ≤ 12 → cntA f k ≤ 12 ^ k
 | 0, _ => Nat.le_refl _
 | k + 1, h => by
  have h1 := cntA_le f k (by omega)
  show cntA f k * (k + 1) / runN f (k + 1) ≤ _
  refine Nat.le_trans (Nat.div_le_self _ _) ?_
  rw [Nat.pow_succ]
  exact Nat.mul_le_mul h1 (by omega)
theorem cntA_small (f : Nat → Int) (k : Nat) (h : k ≤ 12) : cntA f k ≤ 8916100448256 :=
 Nat.le_trans (cntA_le f k h) (Nat.le_trans (Nat.pow_le_pow_right (by decide) h) (by decide))
set_option maxRecDepth 100000 in
set_option maxHeartbeats 2000000 in
theorem arranged_any (v : Value) (l : List Int) (w : World) (h : RdL w v l) (hl : l.length ≤ 12) :
  Calls Tryz.prog 110 #[v] w fun e w' => e = .returned (.int .i64 (cntA (atL l) l.length : Int)) ∧ w' = w := by
 obtain ⟨A, n, cap, rfl, hn, hcap, hmax, hcm, hc⟩ := h.open_
 rw [hn] at hl ⊢
 obtain ⟨f, hf⟩ : ∃ f, f = atL l := ⟨_, rfl⟩
 rw [← hf]
 have HC : Hid (∀ k, k < n → ∃ b off, A = some ⟨b, off, none⟩ ∧ w.cell? ⟨b, off + k, none⟩ = some (.int .i64 (f k))) := fun k hk => by
  obtain ⟨b, off, x, h1, _, h2, h3⟩ := hc k hk
  exact ⟨b, off, h1, by rw [hf, atL_of h2]; exact h3⟩
 have HSM := h0d (fun k hk => cntA_small f k hk)
 have HRL := h0d (runN_le f)
 have HRP := h0d (runN_pos f)
 clear hc hcm h hf hn
 go_enter Tryz.func110, Tryz.ntmps110
 go_wp2_with fail
 go_loop [3, 4, 5, 6, 9] (fun cv rv _ _ iv => ∃ (k c r : Nat), k ≤ n ∧ iv = .int .i64 (k : Int) ∧ cv = .int .i64 (c : Int) ∧ rv = .int .i64 (r : Int) ∧ Hid (c = cntA f k) ∧ Hid (r = runN f k)) (fun _ _ _ _ iv => n - (intOf iv).toNat)
 case atStart => exact ⟨0, 1, 0, Nat.zero_le _, rfl, rfl, rfl, rfl, rfl⟩
 case round =>
  obtain ⟨k, c, r, hk, rfl, rfl, rfl, HCN, HRN⟩ := hrel
  by_cases hlt : k < n
  ·obtain ⟨b, off, rfl, hcx⟩ := HC.out k hlt
   obtain ⟨x, hx⟩ : ∃ x, x = f k := ⟨_, rfl⟩
   rw [← hx] at hcx
   have hr12 : r ≤ 12 := by rw [HRN.out]; have := HRL.out k; omega
   have hcb : c ≤ 8916100448256 := by rw [HCN.out]; exact HSM.out k (by omega)
   obtain ⟨r1, hr1⟩ : ∃ q : Nat, q = r + 1 := ⟨_, rfl⟩
   have hw1 : IntKind.i64.wrap ((r : Int) + 1) = (r1 : Int) := by rw [IntWalk.i64_in _ (by omega), hr1]; omega
   obtain ⟨k1, hk1⟩ : ∃ q : Nat, q = k + 1 := ⟨_, rfl⟩
   have hw2 : IntKind.i64.wrap ((k : Int) + 1) = (k1 : Int) := by rw [IntWalk.i64_in _ (by omega), hk1]; omega
   obtain ⟨m, hm⟩ : ∃ q : Nat, q = c * k1 := ⟨_, rfl⟩
   have hmb : m ≤ 8916100448256 * 13 := by rw [hm]; exact Nat.mul_le_mul hcb (by omega)
   have hw3 : IntKind.i64.wrap ((c : Int) * (k1 : Int)) = (m : Int) := by rw [hm, Int.natCast_mul]; rw [← Int.natCast_mul, ← hm]; exact IntWalk.i64_in _ (by omega)
   have step : ∀ R : Nat, R = runN f k1 → 1 ≤ R → Hid ((((R : Int) == 0) = false ∧ (R : Int) ≠ 0 ∧ R ≠ 0) ∧ ((m : Int)).tdiv (R : Int) = ((m / R : Nat) : Int) ∧ IntKind.i64.wrap (((m / R : Nat) : Int)) = ((m / R : Nat) : Int) ∧ m / R = cntA f k1) := fun R h1 h2 => by
    have hd : m / R ≤ m := Nat.div_le_self _ _
    refine ⟨⟨beq_false_of_ne (by omega), by omega, by omega⟩, by rw [Int.tdiv_eq_ediv_of_nonneg (by omega)]; rfl, ?_, ?_⟩
    ·obtain ⟨q, hq⟩ : ∃ q, q = m / R := ⟨_, rfl⟩
     rw [← hq] at hd ⊢
     exact IntWalk.i64_in _ (by omega)
    ·rw [hm, HCN.out, h1, hk1]; rfl
   have HST := h0d step
   have HK1 := h0d hk1
   have fin : ∀ (q R : Nat), q = cntA f k1 → R = runN f k1 → Hid (∃ (k' c' r' : Nat), k' ≤ n ∧ Value.int .i64 (k1 : Int) = .int .i64 (k' : Int) ∧ Value.int .i64 (q : Int) = .int .i64 (c' : Int) ∧ Value.int .i64 (R : Int) = .int .i64 (r' : Int) ∧ Hid (c' = cntA f k') ∧ Hid (r' = runN f k')) := fun q R h1 h2 => ⟨k1, q, R, by omega, rfl, rfl, rfl, h1, h2⟩
   have HFIN := h0d fin
   clear step fin hm hmb hcb hr12
   by_cases hk0 : k = 0
   ·have hR : r1 = runN f k1 := by rw [hr1, hk1, hk0, HRN.out, hk0]; rfl
    obtain ⟨⟨s1, s5, s6⟩, s2, s3, s4⟩ := (HST.out r1 hR (by omega)).out
    obtain ⟨q, hq⟩ : ∃ q, q = m / r1 := ⟨_, rfl⟩
    rw [← hq] at s2 s3 s4
    have HF := h0d (HFIN.out q r1 s4 hR).out
    have hk0' : ¬ (0 : Int) < (k : Int) := by omega
    clear hr1 hk1 hx hq s4 hR hk0
    go_wp2_with fail
    go_round
    case rel => exact HF.out
    case measure => simp [intOf]; have := HK1.out; omega
   ·obtain ⟨b', off', e, hcy⟩ := HC.out (k - 1) (by omega)
    simp only [Option.some.injEq, Addr.mk.injEq] at e
    obtain ⟨rfl, rfl, _⟩ := e
    obtain ⟨y, hy⟩ : ∃ y, y = f (k - 1) := ⟨_, rfl⟩
    rw [← hy] at hcy
    obtain ⟨j, hj⟩ : ∃ j, j = k - 1 := ⟨_, rfl⟩
    rw [← hj] at hcy
    have hw4 : IntKind.i64.wrap ((k : Int) - 1) = (j : Int) := by rw [IntWalk.i64_in _ (by omega), hj]; omega
    have hk0' : (0 : Int) < (k : Int) := by omega
    have hjn : j < n := by omega
    by_cases hxy : x = y
    ·have hR : r1 = runN f k1 := by
      rw [hr1, hk1, HRN.out]
      show _ = if 0 < k ∧ f k ≠ f (k - 1) then 1 else _
      rw [if_neg (fun h => h.2 (by rw [← hx, ← hy, hxy]))]
     obtain ⟨⟨s1, s5, s6⟩, s2, s3, s4⟩ := (HST.out r1 hR (by omega)).out
     obtain ⟨q, hq⟩ : ∃ q, q = m / r1 := ⟨_, rfl⟩
     rw [← hq] at s2 s3 s4
     have HF := h0d (HFIN.out q r1 s4 hR).out
     have hb1 : (x != y) = false := by simp [hxy]
     clear hr1 hk1 hx hy hq s4 hR hj hxy
     go_wp2_with fail
     go_round
     case rel => exact HF.out
     case measure => simp [intOf]; have := HK1.out; omega
    ·have hR : 1 = runN f k1 := by
      rw [hk1]
      show _ = if 0 < k ∧ f k ≠ f (k - 1) then 1 else _
      rw [if_pos ⟨by omega, by rw [← hx, ← hy]; exact hxy⟩]
     obtain ⟨⟨s1, s5, s6⟩, s2, s3, s4⟩ := (HST.out 1 hR (by omega)).out
     obtain ⟨q, hq⟩ : ∃ q, q = m / 1 := ⟨_, rfl⟩
     rw [← hq] at s2 s3 s4
     have HF := h0d (HFIN.out q 1 s4 hR).out
     have hw6 : wrap64 (m : Int) = (q : Int) := by
      rw [← IntWalk.i64_left]
      rw [← s3, ← s2]
      simp
     have hb1 : (x != y) = true := by simp [hxy]
     clear hr1 hk1 hx hy hq s4 hR hj hxy s1 s5 s6
     go_wp2_with fail
     go_round
     case rel => rw [hw6]; exact HF.out
     case measure => simp [intOf]; have := HK1.out; omega
  ·obtain rfl : k = n := by omega
   go_wp2_with fail
   go_ret
   exact ⟨ret_int (by rw [HCN.out]), rfl⟩
end Go.Proofs.YtodckaioeomccaaGreat
