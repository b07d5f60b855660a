/- What the example of layer 5 asks: Place of two splices, texts of numbers, the best of four pitches. -/
import Derived.Test.YtodckaioeomccaaGreatPart52
import Derived.Test.YtodckaioeomccaaGreatPart46
import Derived.Test.YtodckaioeomccaaGreatPart44
import Derived.Test.YtodckaioeomccaaGreatPart39
namespace Go.Proofs.YtodckaioeomccaaGreat
open Go.RowKit Go.Proofs.Plc Go.Proofs.S4P
set_option linter.unusedVariables false
def ltC (x y : Qd) : Bool := (lessC x y).getD false
def nq (k : Nat) : Qd := ⟨200 + 50 * (cosT k).a, 50 * (cosT k).b, 50 * (cosT k).c, 50 * (cosT k).d⟩
theorem less_nq : ∀ k : Fin 13, ∀ m : Fin 13, (lessC (nq k.1) (nq m.1)).isSome = true := by decide +kernel
theorem nq_fold : ∀ k : Fin 24, nq k.1 = nq (if 12 < k.1 then 24 - k.1 else k.1) := by decide +kernel
def QN (x : Qd) : Prop := ∃ k, k < 13 ∧ x = nq k
theorem nq_ok (k : Nat) (hk : k < 24) : QN (nq k) := by
 rw [nq_fold ⟨k, hk⟩]
 exact ⟨_, by dsimp only; split <;> omega, rfl⟩
theorem norm_nq (ps : List Int) (j : Int) : normN [5, 5] ps j 2 = nq (plc (j * (at0 ps 1 - at0 ps 0))) := by
 have h : ∀ c : Qd, addQ ⟨((Qd.zero.a + 4 * 5 * 5) + 4 * 5 * 5), Qd.zero.b, Qd.zero.c, Qd.zero.d⟩ (2 * 5 * 5) c = ⟨200 + 50 * c.a, 50 * c.b, 50 * c.c, 50 * c.d⟩ := fun c => by
  simp only [addQ, Qd.zero, Qd.mk.injEq]
  omega
 exact h _
theorem less_any5 (x y : Qd) (w : World) (hx : QN x) (hy : QN y) : Calls Tryz.prog 181 #[quadV x, quadV y] w fun e w' => e = .returned (.bool (ltC x y)) ∧ Below w.heap.size w w' := by
 obtain ⟨k, hk, rfl⟩ := hx
 obtain ⟨m, hm, rfl⟩ := hy
 have h := less_nq ⟨k, hk⟩ ⟨m, hm⟩
 refine less_c _ _ _ w ?_
 unfold ltC
 cases hq : lessC (nq k) (nq m) with
 | none => rw [hq] at h; cases h
 | some r => rfl
theorem place5_st : extS 0 (updS ltC [5, 5] 2) 2 [] none = some ([0, 8], ⟨100, 0, 0, 0⟩) := by kernel_rfl
theorem place5 (v : Value) (w : World) (hv : RdL w v [5, 5]) : Calls Tryz.prog 19 #[v, .int .i64 2, .int .i64 0] w (PlacedAt [0, 8] ⟨100, 0, 0, 0⟩ 0 w) :=
 place_ok ltC QN v 2 0 [5, 5] [0, 8] ⟨100, 0, 0, 0⟩ w hv (by decide) (by simp) (by decide) (by decide) (by decide) (by decide) (by decide) less_any5
  (fun ps hl hps j hj => by rw [hl]; show QN (normN [5, 5] ps _ 2); rw [norm_nq]; exact nq_ok _ (plc_lt _)) place5_st ⟨by decide, by decide, by decide, by decide⟩
theorem dec_one {n : Nat} (h0 : n ≠ 0) (h : n < 10) : decS n = [UInt8.ofNat (48 + n)] := by
 unfold decS
 rw [if_neg h0, dec_pos h0, Nat.div_eq_of_lt h, dec_zero, Nat.mod_eq_of_lt h]
 rfl
theorem text25 : strV (surS ⟨((100 : Int) : Rat) / ((4 : Int) : Rat), ((0 : Int) : Rat) / ((4 : Int) : Rat), ((0 : Int) : Rat) / ((4 : Int) : Rat), ((0 : Int) : Rat) / ((4 : Int) : Rat)⟩) = .string ⟨#[50, 53]⟩ := by
 have h0 : ((0 : Int) : Rat) / ((4 : Int) : Rat) = 0 := by decide +kernel
 have h1 : ((100 : Int) : Rat) / ((4 : Int) : Rat) = 25 := by decide +kernel
 have h2 : decS 25 = [50, 53] := by
  unfold decS
  rw [if_neg (by decide), dec_pos (by decide), dec_pos (by decide), show 25 / 10 / 10 = 0 from rfl, dec_zero]
  rfl
 have h3 : ratS 25 = [50, 53] := by
  unfold ratS
  rw [if_neg (by decide +kernel), if_pos (by decide +kernel), show (25 : Rat).num.natAbs = 25 from by decide +kernel, h2]
  rfl
 rw [h0, h1]
 have t1 : txtN ⟨25, 0, 0, 0⟩ 1 = [50, 53] := by
  show (if (25 : Rat) = 0 then _ else _) = _
  rw [if_neg (by decide +kernel)]
  show _ ++ (_ ++ (ratS 25 ++ _)) = _
  rw [h3]; rfl
 have t4 : txtN ⟨25, 0, 0, 0⟩ 4 = [50, 53] := by
  rw [txt_skip (k := 3) (x := ⟨25, 0, 0, 0⟩) rfl, txt_skip (k := 2) (x := ⟨25, 0, 0, 0⟩) rfl, txt_skip (k := 1) (x := ⟨25, 0, 0, 0⟩) rfl, t1]
 unfold surS
 rw [t4]
 rfl
theorem ratS_div (a b : Nat) (x : Rat) (hn : x.num = (a : Int)) (hd : x.den = b) (ha : a ≠ 0 ∧ a < 10) (hb : 1 < b ∧ b < 10) : ratS x = [UInt8.ofNat (48 + a), 47, UInt8.ofNat (48 + b)] := by
 unfold ratS
 rw [hn, hd, if_neg (by omega), if_neg (by omega), Int.natAbs_natCast, dec_one ha.1 ha.2, dec_one (by omega) hb.2]
 rfl
theorem half_is : ofRatio 1 2 = 1 / 2 := by decide +kernel
theorem seq4 : pitchE [2, 1, 2, 1] = 0 ∧ bestA [2, 1, 2, 1] (arrN [2, 1, 2, 1] - 1) = [1, 1, 2, 2] ∧ noiseL (bestA [2, 1, 2, 1] (arrN [2, 1, 2, 1] - 1)) = 9 ∧ boundL [2, 1, 2, 1] = 9 := by decide +kernel
theorem sort4 : ¬ 50000 < cntA (atL (sortL [2, 1, 2, 1])) ([2, 1, 2, 1] : List Int).length := by
 have h : sortL [2, 1, 2, 1] = [1, 1, 2, 2] := by
  rw [← (arr_zero (l := [2, 1, 2, 1]) (by unfold SmallP; decide)).1]
  decide +kernel
 rw [h]
 decide +kernel
theorem qs_half : QS 10000 ((1 : Rat) / 2) := ⟨Nat.le_trans (dl_small (n := ((1 : Rat) / 2).num.natAbs) (by decide +kernel)) (by decide), Nat.le_trans (dl_small (n := ((1 : Rat) / 2).den) (by decide +kernel)) (by decide)⟩
theorem text35 : strV (ratS ((1 - (1 : Rat) / 2 * (1 / 2)) / (1 + 1 / 2 * (1 / 2)))) = .string ⟨#[51, 47, 53]⟩ := by
 rw [ratS_div 3 5 _ (by decide +kernel) (by decide +kernel) (by decide) (by decide)]; rfl
theorem text45 : strV (ratS (((1 : Rat) / 2 + 1 / 2) / (1 + 1 / 2 * (1 / 2)))) = .string ⟨#[52, 47, 53]⟩ := by
 rw [ratS_div 4 5 _ (by decide +kernel) (by decide +kernel) (by decide) (by decide)]; rfl
theorem qs_35 : QS 900000 ((1 - (1 : Rat) / 2 * (1 / 2)) / (1 + 1 / 2 * (1 / 2))) := ⟨Nat.le_trans (dl_small (n := ((1 - (1 : Rat) / 2 * (1 / 2)) / (1 + 1 / 2 * (1 / 2))).num.natAbs) (by decide +kernel)) (by decide), Nat.le_trans (dl_small (n := ((1 - (1 : Rat) / 2 * (1 / 2)) / (1 + 1 / 2 * (1 / 2))).den) (by decide +kernel)) (by decide)⟩
theorem qs_45 : QS 900000 (((1 : Rat) / 2 + 1 / 2) / (1 + 1 / 2 * (1 / 2))) := ⟨Nat.le_trans (dl_small (n := (((1 : Rat) / 2 + 1 / 2) / (1 + 1 / 2 * (1 / 2))).num.natAbs) (by decide +kernel)) (by decide), Nat.le_trans (dl_small (n := (((1 : Rat) / 2 + 1 / 2) / (1 + 1 / 2 * (1 / 2))).den) (by decide +kernel)) (by decide)⟩
end Go.Proofs.YtodckaioeomccaaGreat
