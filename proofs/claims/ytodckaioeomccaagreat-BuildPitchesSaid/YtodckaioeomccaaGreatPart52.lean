/- The walk of Place where it finds places. -/
import Derived.Test.YtodckaioeomccaaGreatPart22
import Derived.Test.YtodckaioeomccaaGreatPart49
import Derived.Test.YtodckaioeomccaaGreatPart41
import Derived.Test.YtodckaioeomccaaGreatPart34
namespace Go.Proofs.YtodckaioeomccaaGreat
open Go.RowKit Go.Proofs.Plc
set_option linter.unusedVariables false
set_option linter.unusedSimpArgs false
theorem enters_place1 : ∀ args w, (callFunc 92 args).run Tryz.prog w = .ok (.enter 92 args) w := enters_of Tryz.func92 (by kernel_rfl) rfl
theorem place1_any (p : Int) (w : World) : Calls Tryz.prog 92 #[.int .i64 p] w fun e w' => e = .returned (.bool (decide (p < 1 ∨ 1000 < p))) ∧ Below w.heap.size w w' := by
 by_cases h1 : p < 1
 ·rw [decide_eq_true (.inl h1)]
  go_enter Tryz.func92, Tryz.ntmps92
  go_wp2_with fail
  go_ret
  exact ⟨rfl, Below.refl _ _⟩
 ·by_cases h2 : 1000 < p
  ·rw [decide_eq_true (.inr h2)]
   go_enter Tryz.func92, Tryz.ntmps92
   go_wp2_with fail
   go_ret
   exact ⟨rfl, Below.refl _ _⟩
  ·rw [decide_eq_false (by omega)]
   go_enter Tryz.func92, Tryz.ntmps92
   go_wp2_with fail
   go_ret
   exact ⟨rfl, Below.refl _ _⟩
abbrev GramsOk (gs : List Int) : Prop := ∀ x ∈ gs, 1 ≤ x ∧ x ≤ 1000
theorem anyG (gs : List Int) : anyIdx (fun i => decide (atL gs i < 1 ∨ 1000 < atL gs i)) (gs.map intV).length = !decide (GramsOk gs) := by
 unfold anyIdx GramsOk
 rw [List.length_map, Bool.eq_iff_iff, List.any_eq_true]
 simp only [Bool.not_eq_true', decide_eq_false_iff_not]
 constructor
 ·rintro ⟨i, hi, h⟩ hall
  have hi := List.mem_range.1 hi
  unfold atL at h
  rw [List.getD_eq_getElem?_getD, List.getElem?_eq_getElem hi] at h
  have h1 := hall _ (List.getElem_mem hi)
  have h2 := of_decide_eq_true h
  simp only [Option.getD_some] at h2
  omega
 ·intro h
  refine Classical.byContradiction fun hc => h fun x hx => ?_
  obtain ⟨i, hi, rfl⟩ := List.mem_iff_getElem.1 hx
  refine Classical.byContradiction fun hq => hc ⟨i, List.mem_range.2 hi, ?_⟩
  unfold atL
  rw [List.getD_eq_getElem?_getD, List.getElem?_eq_getElem hi]
  simp only [Option.getD_some]
  exact decide_eq_true (by omega)
theorem gramsC_any (v : Value) (gs : List Int) (w : World) (hv : RdL w v gs) :
  Calls Tryz.prog 91 #[v, .func (.func 92) #[] #[]] w fun e w' => e = .returned (.bool (!decide (GramsOk gs))) ∧ Below w.heap.size w w' := by
 rw [← anyG]
 refine containsFuncI_any v (gs.map intV) (fun _ => True) 92 #[] enters_place1 _ w hv.id (fun i u hu w' hb => ?_)
 rw [List.getElem?_map] at hu
 obtain ⟨y, hy, rfl⟩ := Option.map_eq_some_iff.1 hu
 rw [atL_of hy]
 exact place1_any y w'
theorem GramsOk.grams {gs : List Int} (h : GramsOk gs) : Grams gs := fun i => by
 unfold at0
 rw [List.getD_eq_getElem?_getD]
 cases hq : gs[i]? with
 | none => simp
 | some x => have := h x (List.mem_of_getElem? hq); simp; omega
theorem sets_grown (b : Nat) : ∀ (vs : List Value) (o : Nat) (w : World), w.grownBy (setsW w b o vs) (some b)
 | [], _, w => World.grownBy.refl _ _
 | v :: vs, o, w => gr_trans (set1_grown w b o v) (sets_grown b vs (o + 1) _)
theorem max_ok {gs : List Int} (h0 : gs ≠ []) (h : GramsOk gs) : 1 ≤ Lib.maxOf gs ∧ Lib.maxOf gs ≤ 1000 := by
 have key : ∀ (l : List Int) (m : Int), (∀ x ∈ l, 1 ≤ x ∧ x ≤ 1000) → 1 ≤ m ∧ m ≤ 1000 → 1 ≤ l.foldl max m ∧ l.foldl max m ≤ 1000 := fun l => by
  induction l with
  | nil => intro m _ h; exact h
  | cons a l ih => intro m hl hm; exact ih _ (fun x hx => hl x (List.mem_cons_of_mem _ hx)) (by have := hl a (List.mem_cons_self ..); omega)
 cases gs with
 | nil => exact absurd rfl h0
 | cons a l => exact key (a :: l) a h (h a (List.mem_cons_self ..))
theorem sumG {gs : List Int} (h : GramsOk gs) (k : Nat) : 0 ≤ (gs.take k).sum ∧ (gs.take k).sum ≤ 1000 * k := by
 have key : ∀ l : List Int, (∀ x ∈ l, 1 ≤ x ∧ x ≤ 1000) → 0 ≤ l.sum ∧ l.sum ≤ 1000 * l.length := fun l => by
  induction l with
  | nil => intro _; simp
  | cons a l ih =>
   intro h
   have h1 := ih fun x hx => h x (List.mem_cons_of_mem _ hx)
   have h2 := h a (List.mem_cons_self ..)
   simp only [List.sum_cons, List.length_cons]
   omega
 have := key (gs.take k) fun x hx => h x (List.mem_of_mem_take hx)
 have h2 : (gs.take k).length ≤ k := by rw [List.length_take]; omega
 omega
def bndP (gs : List Int) : Int := max (2 * Lib.maxOf gs - gs.sum) 0
def PlacedAt (l : List Int) (q : Qd) (bd : Int) (w : World) (e : Ending) (w' : World) : Prop :=
 (∃ vl s0 s1 s2 s3 s4 s5 s6 s7 s8 r0 r1 r2, e = .returned (.tuple #[.agg #[vl, s0, s1, s2, s3, s4, s5, s6, s7, s8, r0, r1, r2], .int .i64 0]) ∧ OwnL w' w.heap.size vl l ∧
  RdS w' (.agg #[s0, s1, s2, s3, s4, s5, s6, s7, s8]) ⟨(q.a : Rat) / ((4 : Int) : Rat), (q.b : Rat) / ((4 : Int) : Rat), (q.c : Rat) / ((4 : Int) : Rat), (q.d : Rat) / ((4 : Int) : Rat)⟩ 11 ∧
  RdQ w' (.agg #[r0, r1, r2]) ((bd * bd : Int) : Rat)) ∧ Below w.heap.size w w'
theorem sr_new (gv : Value) (o ap : Int) : List.foldl (fun (cs : Array Value) (x : Value × Nat) => cs.setIfInBounds (3 + x.snd) x.fst) (((Tryz.zeroCells187.setIfInBounds 0 gv).setIfInBounds 1 (.int .i64 o)).setIfInBounds 2 (.int .i64 ap)) (List.map intV cosI).zipIdx =
  (srL gv o ap (.slice none 0 0) (.slice none 0 0) .zero).toArray := by kernel_rfl
set_option maxRecDepth 100000 in
set_option maxHeartbeats 4000000 in
theorem place_ok (lt : Qd → Qd → Bool) (Q : Qd → Prop) (v : Value) (o : Nat) (ap : Int) (gs l : List Int) (q : Qd) (w : World) (hv : RdL w v gs) (hn : gs.length ≤ 4) (hn0 : gs ≠ []) (hgs : GramsOk gs) (ho : 1 ≤ o) (ho3 : o ≤ 3) (hap : 0 ≤ ap) (hap2 : ap ≤ 12)
  (HL : ∀ x y w, Q x → Q y → Calls Tryz.prog 181 #[quadV x, quadV y] w fun e w' => e = .returned (.bool (lt x y)) ∧ Below w.heap.size w w')
  (HQ : ∀ ps : List Int, ps.length = gs.length → PsOk ps → ∀ j : Nat, j < o → Q (normN gs ps ((j : Int) + 1) ps.length)) (hst : extS ap (updS lt gs o) gs.length [] none = some (l, q)) (hq : SQ 1000000000 q) :
  Calls Tryz.prog 19 #[v, .int .i64 o, .int .i64 ap] w (PlacedAt l q (bndP gs) w) := by
 have HEX := h0d (fun B b => ext_any lt Q v o ap gs B b hn hn0 hgs.grams ho ho3 HL HQ gs.length [])
 obtain ⟨A, n, cap, rfl, hgn, hcap, hmax, hcm, hc⟩ := hv.open_
 go_enter Tryz.func19, Tryz.ntmps19
 have hn1 : n ≠ 0 := fun e => hn0 (List.length_eq_zero_iff.1 (by omega))
 have hb0 : ((n : Int) == 0) = false := beq_false_of_ne (by omega)
 have hb1 : ¬ (4 : Int) < (n : Int) := by omega
 have HGC := h0d (fun w h => gramsC_any (.slice A n cap) gs w h)
 rw [decide_eq_true hgs] at HGC
 have HV := h0d hv
 have HHC := h0d hc
 have HST := h0d hst
 have HQS := h0d hq
 have HGS := h0d hgs
 have HGN := h0d hgn
 have HN0 := h0d hn0
 have HN4 : Hid (n ≤ 4) := by show _ ≤ _; omega
 clear hv hc hst hq hgs HL HQ hn hn0 hgn
 go_wp2_with fail
 obtain ⟨W1, HW1, HR1, HSZ1, hbx⟩ := st_al0 w #[.slice none 0 0, .bool false, .slice none 0 0, .bool false, .slice none 0 0, .bool false, .slice none 0 0, .bool false, .slice none 0 0, .slice none 0 0, .bool false, .slice none 0 0, .slice none 0 0] 34
 rw [← HW1.out]
 have HBE := h0d hbx
 have HV1 := h0d (HV.out.below hbx)
 clear HW1 HSZ1 hbx
 refine (HGC.out _ HV1.out).mono ?_
 rintro e w2 ⟨rfl, hbx⟩
 replace HR1 := kB HR1 hbx
 replace HBE := kU HBE hbx
 clear hbx HV1 HGC
 have hh1 : ¬ (o : Int) < 1 := by omega
 have hh2 : ¬ (3 : Int) < (o : Int) := by omega
 have hh3 : ¬ ap < 0 := by omega
 have hh4 : ¬ (12 : Int) < ap := by omega
 clear ho ho3 hap hap2
 go_wp2_with fail
 refine (cosines_any _).mono ?_
 rintro e w3 ⟨rfl, hbx⟩
 replace HR1 := kB HR1 hbx
 replace HBE := kU HBE hbx
 clear hbx
 obtain ⟨CV, hCV⟩ : ∃ c, c = Value.agg (cosI.map intV).toArray := ⟨_, rfl⟩
 rw [← hCV]
 clear hb0 hb1 hh1 hh2 hh3 hh4
 go_wp2_with fail
 rw [sr_new]
 obtain ⟨W4, HW4, HB4, HSZ4, hbx⟩ := st_al0 w3 (srL (.slice A n cap) o ap (.slice none 0 0) (.slice none 0 0) .zero).toArray 187
 rw [← HW4.out]
 obtain ⟨sb, hsb⟩ : ∃ sb, sb = w3.heap.size := ⟨_, rfl⟩
 have HWS : Hid (w.heap.size ≤ w3.heap.size) := HBE.out.size
 have HWL : Hid (w.heap.size < w3.heap.size) := blk_lt HR1.out
 replace HR1 := kB HR1 hbx
 replace HBE := kU HBE hbx
 have HSI : Hid (SI W4 w.heap.size w3.heap.size (.slice A n cap) (.slice none 0 0) (.slice none 0 0) o ap [] [] .zero) :=
  ⟨HB4.out, OwnL.nil _ _, OwnL.nil _ _, HWS.out, fun k h => by simp [Value.ownBlock] at h, by simp [Value.ownBlock], by simp [Value.ownBlock]⟩
 have HRD : Hid (Rd intV W4 (fun k => k < w.heap.size) (.slice A n cap) gs) := (Rd.lt HV.out |>.mono fun _ h => h.2).below HBE.out
 have HXX := h0d (HEX.out w.heap.size w3.heap.size [] .zero (.slice none 0 0) (.slice none 0 0) none W4 HSI.out ⟨rfl, rfl, rfl⟩ HRD.out (by simp) (fun i => by unfold at0; simp))
 rw [HST.out] at HXX
 clear hbx HW4 HB4 HSZ4 HEX hsb sb
 refine HXX.out.mono ?_
 rintro e w5 ⟨rfl, pv5, bv5, bl5, x5, hs5, hst5, hk5, hf5⟩
 obtain ⟨rfl, rfl, hl0, hQ5⟩ := hst5
 obtain ⟨g5, c5, rfl⟩ := hs5.be.some hl0
 have HS5 := h0d hs5
 have HB5 : Hid (Below w.heap.size w w5) := ⟨hk5.os.trans HBE.out.os, hk5.tape.trans HBE.out.tape, hk5.output.trans HBE.out.output, Nat.le_trans HBE.out.size hk5.size, fun k hk => (hk5.block k ⟨by have := HBE.out.size; omega, by have := HWS.out; omega, by simp [Value.ownBlock]⟩).trans (HBE.out.block k hk)⟩
 have HR5 : Hid (w5.heap[w.heap.size]? = some (.cells #[.slice none 0 0, .bool false, .slice none 0 0, .bool false, .slice none 0 0, .bool false, .slice none 0 0, .bool false, .slice none 0 0, .slice none 0 0, .bool false, .slice none 0 0, .slice none 0 0] 34 (0, 0))) :=
  (hk5.block _ ⟨blk_lt HR1.out, by have := HWL.out; omega, by simp [Value.ownBlock]⟩).trans HR1.out
 clear hs5 hl0 hQ5 hk5 hf5 HSI HRD HXX HR1 HBE
 have d1 := HS5.out.blk.be
 have hnil := nil_ne g5 bl5.length c5
 obtain ⟨gb, goff, x0, rfl, _, _, _⟩ := HHC.out 0 (by omega)
 have HCE : Hid (∀ k, k < n → w5.cell? ⟨gb, goff + k, none⟩ = some (.int .i64 (at0 gs k))) := fun k hk => by
  obtain ⟨gb', goff', y, e, hy1, hy2, hy3⟩ := HHC.out k hk
  simp only [Option.some.injEq, Addr.mk.injEq] at e
  obtain ⟨rfl, rfl, _⟩ := e
  have e2 : at0 gs k = y := by unfold at0; rw [List.getD_eq_getElem?_getD, hy2]; rfl
  rw [e2]
  exact (HB5.out.cell (p := ⟨gb, goff + k, none⟩) hy1).trans hy3
 have HMX := h0d (Tryz.slices_Max_int gb goff n cap gs w5 (by omega) (by have := HGN.out; omega) hmax (fun j hj => HCE.out j (by have := HGN.out; omega)))
 rw [List.take_of_length_le (by have := HGN.out; omega)] at HMX
 have HMB : Hid (1 ≤ Lib.maxOf gs ∧ Lib.maxOf gs ≤ 1000) := max_ok HN0.out HGS.out
 obtain ⟨M, hM⟩ : ∃ M, M = Lib.maxOf gs := ⟨_, rfl⟩
 rw [← hM] at HMX HMB
 have HM := h0d hM
 clear hM
 go_wp2_with fail
 refine HMX.out.mono ?_
 rintro e w6 ⟨rfl, hw6⟩
 obtain rfl := hw6.symm
 clear d1 hnil HMX
 obtain ⟨M2, hM2⟩ : ∃ M2, M2 = 2 * M := ⟨_, rfl⟩
 have hmb := HMB.out
 have hw1 : IntKind.i64.wrap (2 * M) = M2 := by rw [hM2]; exact IntWalk.i64_in _ (by omega)
 have hM2b : 2 ≤ M2 ∧ M2 ≤ 2000 := by omega
 have HM2 := h0d hM2
 have HSB : Hid (∀ k, k ≤ n → 0 ≤ (gs.take k).sum ∧ (gs.take k).sum ≤ 4000) := fun k hk => by have := sumG HGS.out k; have := HN4.out; omega
 have HSN : Hid (∀ k, k < n → (gs.take (k + 1)).sum = (gs.take k).sum + at0 gs k) := fun k hk => by
  have hk' : k < gs.length := by have := HGN.out; omega
  rw [sum_take (List.getElem?_eq_getElem hk')]
  unfold at0
  rw [List.getD_eq_getElem?_getD, List.getElem?_eq_getElem hk']; rfl
 have HSF : Hid ((gs.take n).sum = gs.sum) := by show _ = _; rw [List.take_of_length_le (by have := HGN.out; omega)]
 clear hM2 hmb
 go_wp2_with fail
 clear hw1
 go_loop [9, 61] (fun bv iv => ∃ (k : Nat) (z : Int), k ≤ n ∧ iv = .int .i64 (k : Int) ∧ bv = .int .i64 z ∧ Hid (z = M2 - (gs.take k).sum)) (fun _ iv => n - (intOf iv).toNat)
 case atStart => exact ⟨0, M2, by omega, rfl, rfl, by show _ = _; simp⟩
 case round =>
  obtain ⟨k, z, hk, rfl, rfl, HZ⟩ := hrel
  by_cases hlt : k < n
  ·have hc := HCE.out k hlt
   have h1 := HSB.out k (by omega)
   have h2 := HSB.out (k + 1) (by omega)
   have h3 := HSN.out k hlt
   obtain ⟨y, hy⟩ : ∃ y, y = at0 gs k := ⟨_, rfl⟩
   rw [← hy] at hc h3
   obtain ⟨z', hz'⟩ : ∃ z', z' = z - y := ⟨_, rfl⟩
   have hz := HZ.out
   have hw : IntKind.i64.wrap (z - y) = z' := by rw [hz']; exact IntWalk.i64_in _ (by omega)
   have HZ' : Hid (z' = M2 - (gs.take (k + 1)).sum) := by show _ = _; omega
   clear hz hz' hy h1 h2 h3
   go_wp2_with fail
   go_round
   case rel => exact ⟨k + 1, z', by omega, by go_num, rfl, HZ'⟩
   case measure => simp [intOf]; omega
  ·obtain rfl : k = n := by omega
   have hz := HZ.out
   have hs := HSB.out k (by omega)
   rw [HSF.out] at hz hs
   have hzb : -4000 ≤ z ∧ z ≤ 2000 := by omega
   clear hz hs HSB HSN HCE
   go_wp2_with fail
   obtain ⟨bd, hbd⟩ : ∃ bd, bd = max z 0 := ⟨_, rfl⟩
   rw [← hbd]
   have hbb : 0 ≤ bd ∧ bd ≤ 2000 := by omega
   have HBD : Hid (bndP gs = bd) := by show _ = _; unfold bndP; rw [hbd, HZ.out, HSF.out, HM2.out, HM.out]
   obtain ⟨bq, hbq⟩ : ∃ bq, bq = bd * bd := ⟨_, rfl⟩
   have HBQ : Hid (0 ≤ bq ∧ bq ≤ 4000000) := by
    show _ ∧ _
    rw [hbq]
    exact ⟨Int.mul_nonneg hbb.1 hbb.1, Int.mul_le_mul hbb.2 hbb.2 hbb.1 (by omega)⟩
   have hw : IntKind.i64.wrap (bd * bd) = bq := by rw [← hbq]; have := HBQ.out; exact IntWalk.i64_in _ (by omega)
   have HBE : Hid (bq = bndP gs * bndP gs) := by show _ = _; rw [HBD.out, hbq]
   obtain ⟨w6, hw6⟩ : ∃ W, W = w5.drew := ⟨_, rfl⟩
   have hb6 : Below w5.heap.size w5 w6 := by rw [hw6]; exact (Below.refl _ _).drew
   have HS_w6 := h0d (HS5.out.below hb6)
   have HR_w6 := kB HR5 hb6
   have HB_w6 := kU HB5 hb6
   clear hbd hbb hbq hzb HS5 HR5 HB5 hb6
   refine seq_start (S := fun w' => w'.cell? ⟨w3.heap.size, 100, none⟩ = some (.slice (some ⟨g5, 0, none⟩) bl5.length c5) ∧ w'.cell? ⟨w3.heap.size, 101, none⟩ = some (.int .i64 x5.a) ∧ w'.cell? ⟨w3.heap.size, 102, none⟩ = some (.int .i64 x5.b) ∧ w'.cell? ⟨w3.heap.size, 103, none⟩ = some (.int .i64 x5.c) ∧ w'.cell? ⟨w3.heap.size, 104, none⟩ = some (.int .i64 x5.d)) (by kernel_rfl) (by kernel_rfl) (by rw [← hw6]; exact ⟨HS_w6.out.blk.be, HS_w6.out.blk.worst⟩) ?_
   rw [← hw6]
   clear hw6
   repeat (first | refine tk0 (h := ?_) | refine tkG (h := ?_) | refine skG (h := ?_))
   refine seq_swap ?_
   (first | refine tk0 (h := ?_) | refine tkG (h := ?_) | refine skG (h := ?_))
   refine seq_swap ?_
   (first | refine tk0 (h := ?_) | refine tkG (h := ?_) | refine skG (h := ?_))
   refine seq_swap ?_
   (first | refine tk0 (h := ?_) | refine tkG (h := ?_) | refine skG (h := ?_))
   clear hw
   refine seq_both ?_ ?_ ?_ ?_ ?_
   ·kernel_rfl
   ·rfl
   ·rfl
   focus
    intro K9 hK9
    go_simp
    refine (qsurd_any x5.a x5.b x5.c x5.d _ (by have := HQS.out; unfold SQ at this; omega)).mono ?_
    rintro e w7 ⟨⟨vx, rfl, hr⟩, hbx⟩
    obtain ⟨s0, S1, k1, c1, s2, S3, k3, c3, s4, S5, k5, c5', s6, S7, k7, c7, S8, k8, c8, rfl, hr⟩ := hr.open
    have HS_w7 := h0d (HS_w6.out.below hbx)
    have HR_w7 := kB HR_w6 hbx
    have HB_w7 := kU HB_w6 hbx
    have HF_w7 := h0d hr
    clear hr hbx
    refine ckk hK9 (by exact ⟨HS_w7.out.blk.be, HS_w7.out.blk.worst⟩) (h := ?_)
    clear hK9 K9
    refine sop (h := fun K9 hK9 => ?_)
    go_simp
    refine (int_any bq _ (by have := HBQ.out; omega) (by have := HBQ.out; omega)).mono ?_
    rintro e w8 ⟨⟨vx, rfl, hr⟩, hbx⟩
    obtain ⟨r0, R1, m1, d1, R2, m2, d2, rfl, hr⟩ := hr.open
    have HS_w8 := h0d (HS_w7.out.below hbx)
    have HR_w8 := kB HR_w7 hbx
    have HB_w8 := kU HB_w7 hbx
    have HF_w8 := kW (Wd.of_below hbx) HF_w7
    have HG_w8 := h0d hr
    clear hr hbx
    refine ckk hK9 (by exact ⟨HS_w8.out.blk.be, HS_w8.out.blk.worst⟩) (h := ?_)
    clear hK9 K9
   rotate_left
   focus
    intro K9 hK9
    go_simp
    refine (int_any bq _ (by have := HBQ.out; omega) (by have := HBQ.out; omega)).mono ?_
    rintro e w7 ⟨⟨vx, rfl, hr⟩, hbx⟩
    obtain ⟨r0, R1, m1, d1, R2, m2, d2, rfl, hr⟩ := hr.open
    have HS_w7 := h0d (HS_w6.out.below hbx)
    have HR_w7 := kB HR_w6 hbx
    have HB_w7 := kU HB_w6 hbx
    have HG_w7 := h0d hr
    clear hr hbx
    refine ckk hK9 (by exact ⟨HS_w7.out.blk.be, HS_w7.out.blk.worst⟩) (h := ?_)
    clear hK9 K9
    refine sop (h := fun K9 hK9 => ?_)
    go_simp
    refine (qsurd_any x5.a x5.b x5.c x5.d _ (by have := HQS.out; unfold SQ at this; omega)).mono ?_
    rintro e w8 ⟨⟨vx, rfl, hr⟩, hbx⟩
    obtain ⟨s0, S1, k1, c1, s2, S3, k3, c3, s4, S5, k5, c5', s6, S7, k7, c7, S8, k8, c8, rfl, hr⟩ := hr.open
    have HS_w8 := h0d (HS_w7.out.below hbx)
    have HR_w8 := kB HR_w7 hbx
    have HB_w8 := kU HB_w7 hbx
    have HG_w8 := kW (Wd.of_below hbx) HG_w7
    have HF_w8 := h0d hr
    clear hr hbx
    refine ckk hK9 (by exact ⟨HS_w8.out.blk.be, HS_w8.out.blk.worst⟩) (h := ?_)
    clear hK9 K9
   all_goals
    repeat (first | refine tk0 (h := ?_) | refine tkG (h := ?_) | refine skG (h := ?_))
    refine sop (h := fun K9 hK9 => ?_)
    have HTH : Hid (w8.there w.heap.size 0 13) := blk_there HR_w8.out (Nat.le_of_ble_eq_true rfl)
    refine wp_store_mid 34 _ _ (by rfl) w.heap.size 0 #[.slice (some ⟨g5, 0, none⟩) bl5.length c5, .bool s0, .slice S1 k1 c1, .bool s2, .slice S3 k3 c3, .bool s4, .slice S5 k5 c5', .bool s6, .slice S7 k7 c7, .slice S8 k8 c8, .bool r0, .slice R1 m1 d1, .slice R2 m2 d2] (by rfl) (by rfl) (by exact HTH.out) (by kernel_rfl) (by kernel_rfl) ?_
    obtain ⟨W9, HW9⟩ : ∃ W, Hid (W = w8.setCells w.heap.size 0 [.slice (some ⟨g5, 0, none⟩) bl5.length c5, .bool s0, .slice S1 k1 c1, .bool s2, .slice S3 k3 c3, .bool s4, .slice S5 k5 c5', .bool s6, .slice S7 k7 c7, .slice S8 k8 c8, .bool r0, .slice R1 m1 d1, .slice R2 m2 d2]) := ⟨_, rfl⟩
    have hS := kM HW9
    have HR9 := kP (ds := [.slice (some ⟨g5, 0, none⟩) bl5.length c5, .bool s0, .slice S1 k1 c1, .bool s2, .slice S3 k3 c3, .bool s4, .slice S5 k5 c5', .bool s6, .slice S7 k7 c7, .slice S8 k8 c8, .bool r0, .slice R1 m1 d1, .slice R2 m2 d2]) hS HR_w8 rfl rfl
    have hT := kN hS HR_w8 rfl rfl
    have HF9 := kW hT HF_w8
    have HG9 := kW hT HG_w8
    have HBK : Hid (SrB W9 w3.heap.size (.slice (some ⟨gb, goff, none⟩) k cap) o ap _ (.slice (some ⟨g5, 0, none⟩) bl5.length c5) x5) := kO hS HS_w8.out.blk (by have := HWL.out; omega)
    have HOW : Hid (OwnL W9 w.heap.size (.slice (some ⟨g5, 0, none⟩) bl5.length c5) bl5) := by
     show OwnL _ _ _ _
     rw [hS]
     refine own_grown HS_w8.out.be (sets_grown _ _ _ _) fun e => ?_
     simp [Value.ownBlock] at e
     subst e
     obtain ⟨_, _, h⟩ := own_block HS_w8.out.be
     rw [HR_w8.out] at h
     simp at h
    have HB9 := kS hS (show Hid (w.heap.size ≤ w.heap.size) from Nat.le_refl _) HB_w8
    rw [← HW9.out]
    clear hS hT
    refine ckk hK9 (by exact ⟨HBK.out.be, HBK.out.worst⟩) (h := ?_)
    clear hK9 K9
    repeat (first | refine tk0 (h := ?_) | refine tkG (h := ?_) | refine skG (h := ?_))
    refine seq_done (by kernel_rfl) ?_
    go_wp2_with fail
    refine bodyPost_ret (results_cell_tmp (u := 7) (t := 6) rfl (by rfl) (blk_all HR9.out) Tryz.underlying34 rfl (by kernel_rfl)) rfl ⟨⟨_, _, _, _, _, _, _, _, _, _, _, _, _, rfl, HOW.out, HF9.out, ?_⟩, HB9.out⟩
    rw [← HBE.out]
    exact HG9.out
end Go.Proofs.YtodckaioeomccaaGreat
