/- Plan's schedule is valid. The walk of plant.End. What came in, opened: lists of ints, works, lists of jobs. -/
import Derived.Test.YtogccnngdfancaaRefP
import Derived.Test.YtogccnngdfancaaChkP
import Derived.Test.YtogccnngdfancaaCheckW
import Derived.Test.YtogccnngdfancaaWk
import Derived.Test.YtogccnngdfancaaRun
import Derived.Deep.Slices
import Derived.Deep.Fields
import Derived.ChangeSame
import Derived.OpenShut
namespace Go.Proofs.Ytogccnngdfancaa
set_option linter.unusedVariables false
set_option linter.unusedSimpArgs false
/-- What else holds of a schedule that is being made. -/
structure PlanMore (d : WorksD) (m : List Int) (l : List JobD) : Prop where
  ord : Ord d l
  sep : l.Pairwise fun x y => x.press = y.press → Sep d x y
  mould : ∀ j ∈ l, (runN d l j.kind j.start : Int) ≤ mouldOf d j.kind
  need : ∀ k : Nat, k < d.cure.length → at0 m k + (kindN l k : Int) = needOf d k
theorem runN_snoc_ne {d : WorksD} {l : List JobD} {z : JobD} {kind t : Int} (h : z.kind ≠ kind) : runN d (l ++ [z]) kind t = runN d l kind t := by
  rw [runN_snoc, if_neg (fun h' => h (runB_iff.1 h').1)]; omega
theorem PlanMore.step {d : WorksD} (hg : WGood d) {k : Nat} {m : List Int} {l : List JobD} (h : PlanInv d k m l) (hm : PlanMore d m l) (hp : 0 ≤ pickN d m m.length) :
    PlanMore d (m.set (pickN d m m.length).toNat (at0 m (pickN d m m.length) - 1)) (l ++ [bestN d l (pickN d m m.length) (d.presses - 1).toNat]) := by
  have ho2 := planI_ord hg h hm.ord hp
  have hb := pickN_bd d m m.length
  obtain ⟨p, p1, p2, p3⟩ := bestN_is d l (pickN d m m.length) (d.presses - 1).toNat
  obtain ⟨kn, hkn⟩ : ∃ kn : Nat, pickN d m m.length = (kn : Int) := ⟨(pickN d m m.length).toNat, by omega⟩
  rw [p3] at ho2 ⊢
  rw [hkn] at ho2 hb ⊢
  have hml := h.ml
  have hk1 : kn < d.cure.length := by omega
  have hc := hg.ok.cure kn hk1
  have hmm := hg.ok.mould kn hk1
  have hE := earlP_earliest (d := d) (l := l) (press := p) (kind := (kn : Int)) hc.1 hmm
  obtain ⟨t, ht⟩ : ∃ t, t = earlP d l p kn := ⟨_, rfl⟩
  rw [← ht] at hE ho2 ⊢
  have hrng : ∀ y ∈ l, 1 ≤ cureOf d y.kind := fun y hy => by
    have h3 := hg.ok.cure y.kind.toNat (by have := h.kinds y hy; omega)
    rw [show ((y.kind.toNat : Nat) : Int) = y.kind by have := h.kinds y hy; omega] at h3
    exact h3.1
  refine ⟨ho2, ?_, fun j hj => ?_, fun i hi => ?_⟩
  · rw [List.pairwise_append]
    refine ⟨hm.sep, List.pairwise_singleton _ _, fun x hx y hy => ?_⟩
    rw [List.mem_singleton.1 hy]
    intro hpx
    have hla := last_is hm.ord p kn l.length (Nat.le_refl _)
    rw [List.take_length] at hla
    obtain ⟨j, hj, rfl⟩ := List.mem_iff_getElem.1 hx
    have hja : jobAt l j = l[j] := jobAt_of (List.getElem?_eq_getElem hj)
    rcases hla with ⟨_, h2, _⟩ | ⟨i, h1, _, h3, h4, h5⟩
    · exact absurd (by rw [hja]; exact hpx) (h2 j hj)
    · have hji := h4 j hj (by rw [hja]; exact hpx)
      have hia : jobAt l i = l[i] := jobAt_of (List.getElem?_eq_getElem h1)
      rw [hia] at h3 h5
      have hlast : Sep d l[i] ⟨p, kn, t⟩ := by
        have := hE.le
        rw [h5] at this
        exact this
      by_cases e : j = i
      · subst e; exact hlast
      · have hs := List.pairwise_iff_getElem.1 hm.sep j i hj h1 (by omega) (by rw [hpx, h3])
        have hcy := hrng l[i] (List.getElem_mem h1)
        have hc0 := hg.ok.c0
        unfold Sep at hs hlast ⊢
        have e2 : endJ d l[i] = l[i].start + cureOf d l[i].kind := rfl
        have : chg d l[j] ⟨p, kn, t⟩ ≤ chg d l[j] l[i] + chg d l[i] ⟨p, kn, t⟩ := by
          unfold chg
          by_cases e1 : l[j].kind = l[i].kind
          · rw [if_pos e1, e1]; omega
          · rw [if_neg e1]
            split <;> split <;> omega
        omega
  · have hz : ∀ s, t ≤ s → s < t + cureOf d kn → (runN d l kn s : Int) < mouldOf d kn := hE.fits
    rcases List.mem_append.1 hj with hj | hj
    · have hold := hm.mould j hj
      by_cases hk : j.kind = kn
      · rw [hk] at hold ⊢
        rw [runN_snoc]
        by_cases hr : runB d kn j.start ⟨p, kn, t⟩ = true
        · rw [if_pos hr]
          obtain ⟨_, r2, r3⟩ := runB_iff.1 hr
          have := hz j.start r2 r3
          omega
        · rw [if_neg hr]; omega
      · rw [runN_snoc_ne (fun e => hk e.symm)]; exact hold
    · rw [List.mem_singleton.1 hj]
      show (runN d (l ++ [⟨p, kn, t⟩]) kn t : Int) ≤ mouldOf d kn
      have := hz t (Int.le_refl _) (by omega)
      have hrb : runB d kn t ⟨p, kn, t⟩ = true := runB_iff.2 ⟨rfl, Int.le_refl _, by show t < t + cureOf d kn; omega⟩
      rw [runN_snoc, if_pos hrb]
      omega
  · have hn := hm.need i hi
    rw [kindN_snoc, Int.toNat_natCast]
    have hat : ∀ (m : List Int) (j : Nat), at0 m j = m.getD j 0 := fun m j => by unfold at0; rw [Int.toNat_natCast]
    rw [hat] at hn
    rw [hat, hat]
    by_cases e : kn = i
    · subst e
      rw [List.getD_eq_getElem?_getD, List.getElem?_set_self (by omega)]
      simp only [if_pos, Option.getD_some]
      omega
    · rw [List.getD_eq_getElem?_getD, List.getElem?_set_ne (by omega), ← List.getD_eq_getElem?_getD, if_neg (by show ¬ ((kn : Int) = (i : Int)); omega)]
      omega
theorem plan_inv {d : WorksD} (hg : WGood d) : ∀ k : Nat, (k : Int) ≤ d.need.sum → PlanInv d k (planI d k).1 (planI d k).2 ∧ PlanMore d (planI d k).1 (planI d k).2
  | 0, _ => ⟨planInv0 hg, List.Pairwise.nil, List.Pairwise.nil, (fun j h => by cases h), fun k hk => by
      unfold needOf at0 kindN; simp [planI]⟩
  | k + 1, hk => by
    obtain ⟨h1, h2⟩ := plan_inv hg k (by omega)
    have hp : 0 ≤ pickN d (planI d k).1 (planI d k).1.length := by
      refine Int.not_lt.1 fun hn => ?_
      have h3 := sum_zero _ (fun x hx => (h1.mr x hx).1) (pickN_neg d _ _ hn)
      have := h1.sum
      omega
    exact ⟨h1.step hg hp, h2.step hg h1 hp⟩
theorem plan_valid {d : WorksD} (h : wErr d = 0) : (planW d).length ≤ 64 ∧ Valid d (planW d) := by
  have hg := wgood_of h
  have hs0 := sum_nonneg d.need (fun x hx => (need_mem hg x hx).1)
  obtain ⟨h1, h2⟩ := plan_inv hg d.need.sum.toNat (by omega)
  have hj := h1.jobs hg
  have hz := h1.sum
  have hl := h1.len hg
  refine ⟨by unfold planW; rw [h1.ll]; exact hl, fun j hj' => ?_, h2.sep.imp fun {a b} hab e => .inl (hab e), h2.mould, fun k hk => ?_⟩
  · exact ⟨(h1.press j hj').1, (h1.press j hj').2, (h1.kinds j hj').1, (h1.kinds j hj').2, (hj.start j hj').1, (hj.start j hj').2⟩
  · have h3 := h2.need k hk
    have h4 := at0_mem (m := (planI d d.need.sum.toNat).1) (k := k) (by have := h1.ml; omega)
    have h5 := (h1.mr _ h4).1
    have h6 : at0 (planI d d.need.sum.toNat).1 k ≤ (planI d d.need.sum.toNat).1.sum := by
      have : ∀ (m : List Int), (∀ x ∈ m, 0 ≤ x) → ∀ x ∈ m, x ≤ m.sum := by
        intro m
        induction m with
        | nil => intro _ x hx; cases hx
        | cons y m ih =>
          intro hm x hx
          have h0 := hm y (List.mem_cons_self ..)
          have h1 := sum_nonneg m (fun x hx => hm x (List.mem_cons_of_mem _ hx))
          rcases List.mem_cons.1 hx with rfl | hx
          · simp; omega
          · have := ih (fun x hx => hm x (List.mem_cons_of_mem _ hx)) x hx
            simp; omega
      exact this _ (fun x hx => (h1.mr x hx).1) _ h4
    unfold planW
    omega
theorem plan_chk {d : WorksD} (h : wErr d = 0) : chkE d (planW d) = 0 := chkE_zero.2 ⟨h, (plan_valid h).1, (plan_valid h).2⟩
end Go.Proofs.Ytogccnngdfancaa

namespace Go.Proofs.Ytogccnngdfancaa
open Go.RowKit
set_option linter.unusedVariables false
set_option linter.unusedSimpArgs false
def endMax (d : WorksD) (l : List JobD) : Int := l.foldl (fun m j => max m (endJ d j)) 0
def endE (d : WorksD) (l : List JobD) : Int := if chkE d l = 0 then endMax d l else 0
theorem endMax_take {d : WorksD} {l : List JobD} {i : Nat} {x : JobD} (h : l[i]? = some x) : endMax d (l.take (i + 1)) = max (endMax d (l.take i)) (endJ d x) := by
  unfold endMax; rw [take_snoc? h, List.foldl_append]; rfl
theorem endMax_bd {d : WorksD} (hg : WGood d) : ∀ {l : List JobD}, (∀ x ∈ l, InRange d x) → 0 ≤ endMax d l ∧ endMax d l ≤ 1001000 := by
  intro l
  unfold endMax
  have : ∀ (l : List JobD) (m : Int), 0 ≤ m → m ≤ 1001000 → (∀ x ∈ l, InRange d x) → 0 ≤ l.foldl (fun m j => max m (endJ d j)) m ∧ l.foldl (fun m j => max m (endJ d j)) m ≤ 1001000 := by
    intro l
    induction l with
    | nil => intro m h1 h2 _; exact ⟨h1, h2⟩
    | cons x l ih =>
      intro m h1 h2 h3
      have hx := h3 x (List.mem_cons_self ..)
      have := cure_in hg hx
      have := hx.s0
      have := hx.s1
      have e : endJ d x = x.start + cureOf d x.kind := rfl
      exact ih _ (show 0 ≤ max m (endJ d x) by omega) (show max m (endJ d x) ≤ 1001000 by omega) fun y hy => h3 y (List.mem_cons_of_mem _ hy)
  exact this l 0 (by omega) (by omega)
def EndPost (d : WorksD) (l : List JobD) (w : World) (e : Ending) (w' : World) : Prop := e = .returned (.tuple #[.int .i64 (endE d l), .int .i64 (chkE d l)]) ∧ Below w.heap.size w w'
set_option maxRecDepth 100000 in
set_option maxHeartbeats 4000000 in
theorem End_any (v vl : Value) (d : WorksD) (l : List JobD) (S T : Nat → Prop) (w : World) (hv : WkV w S v d) (hl : RdK 3 jobC w T vl l) (hll : l.length ≤ 1000) :
    Calls Try.prog 9 #[v, vl] w (EndPost d l w) := by
  have HCH := Lib.hid (fun w' (h : Below w.heap.size w w') => Check_any v vl d l S T w' (hv.below h) (hl.below jobC_0 h) hll)
  have HV := Lib.hid hv
  obtain ⟨vc, vn, vm, rfl, -, -, -⟩ := hv.lt
  obtain ⟨A, n, cap, rfl, hn, hcap, hmax, hlc⟩ := (hl.lt jobC_0).open_
  obtain ⟨ce, hce⟩ : ∃ ce, ce = chkE d l := ⟨_, rfl⟩
  obtain ⟨en, hen⟩ : ∃ en, en = endE d l := ⟨_, rfl⟩
  unfold CheckPost at HCH
  unfold EndPost
  rw [← hce] at HCH ⊢
  rw [← hen]
  have HCE := Lib.hid hce
  have HEN : Hid (en = if ce = 0 then endMax d l else 0) := by show _ = _; rw [hen, hce]; rfl
  obtain ⟨W1, hW1⟩ : ∃ W1, W1 = w.alloc (.cells #[.int .i64 d.presses, .int .i64 d.change, vc, vn, vm] 31) := ⟨_, rfl⟩
  have hm1 := heap_alloc_new w (.cells #[.int .i64 d.presses, .int .i64 d.change, vc, vn, vm] 31)
  have hb1 : Below w.heap.size w W1 := by rw [hW1]; exact (Below.refl _ w).alloc (Nat.le_refl _) _
  rw [← hW1] at hm1
  have HSZ : Hid (W1.heap.size = w.heap.size + 1) := by show _ = _; rw [hW1]; simp
  have HCELL : Hid (∀ w', Below W1.heap.size W1 w' → w'.cell? ⟨w.heap.size, 0, none⟩ = some (.int .i64 d.presses) ∧ w'.cell? ⟨w.heap.size, 1, none⟩ = some (.int .i64 d.change) ∧ w'.cell? ⟨w.heap.size, 2, none⟩ = some vc ∧ w'.cell? ⟨w.heap.size, 3, none⟩ = some vn ∧ w'.cell? ⟨w.heap.size, 4, none⟩ = some vm) := fun w' hb => by
    have k0 := (hb.block _ (by have := HSZ.out; omega)).trans hm1
    exact ⟨cell_of_row w' _ 0 _ _ _ k0, cell_of_row w' _ 1 _ _ _ k0, cell_of_row w' _ 2 _ _ _ k0, cell_of_row w' _ 3 _ _ _ k0, cell_of_row w' _ 4 _ _ _ k0⟩
  obtain ⟨x0, x1, x2, x3, x4⟩ := HCELL.out W1 (Below.refl _ _)
  have HW1 := Lib.hid hW1
  have HB1 := Lib.hid hb1
  have HN := Lib.hid hn
  have HLC := Lib.hid hlc
  rw [hn] at hll
  clear hW1 hm1 hb1 hv hl hn hlc hce hen
  by_cases hz : ce = 0
  · subst hz
    have HVA := Lib.hid (chkE_zero.1 HCE.out.symm)
    have HG := Lib.hid (wgood_of HVA.out.1)
    have HRN : Hid (∀ x ∈ l, InRange d x) := HVA.out.2.2.rng
    go_enter Try.func9, Try.ntmps9
    go_wp2_with fail
    rw [← HW1.out]
    refine (HCH.out W1 HB1.out).mono ?_
    rintro e w2 ⟨rfl, hb2⟩
    have HB2' : Hid (Below W1.heap.size W1 w2) := hb2
    clear hb2 x0 x1 x2 x3 x4
    go_wp2_with fail
    go_loopw [7, 18] (fun mv iv wr => ∃ i : Nat, i ≤ n ∧ iv = .int .i64 (i : Int) ∧ mv = .int .i64 (endMax d (l.take i)) ∧ Below W1.heap.size W1 wr) (fun _ iv _ => n - (intOf iv).toNat)
    case atStart => exact ⟨0, Nat.zero_le _, rfl, rfl, HB2'.out⟩
    case round =>
      clear HB2'
      obtain ⟨i, hi, rfl, rfl, hbel⟩ := hrel
      have HBEL := Lib.hid hbel
      have HBR := Lib.hid (HB1.out.trans (hbel.mono HB1.out.size))
      clear hbel
      by_cases hlt : i < n
      · obtain ⟨b, off, x, rfl, ⟨_, hbl⟩, hx, hcell⟩ := HLC.out i hlt
        have d0 : wr.cell? ⟨b, off + i * 3, none⟩ = some (.int .i64 x.press) := (HBR.out.cell (p := ⟨b, _, none⟩) hbl).trans (hcell 0 _ rfl)
        have d1 : wr.cell? ⟨b, off + i * 3 + 1, none⟩ = some (.int .i64 x.kind) := (HBR.out.cell (p := ⟨b, _, none⟩) hbl).trans (hcell 1 _ rfl)
        have d2 : wr.cell? ⟨b, off + i * 3 + 2, none⟩ = some (.int .i64 x.start) := (HBR.out.cell (p := ⟨b, _, none⟩) hbl).trans (hcell 2 _ rfl)
        have hrx := HRN.out x (mem_of_get? hx)
        have hcx := cure_in HG.out hrx
        have hs0 := hrx.s0
        have hs1 := hrx.s1
        have HST := Lib.hid (endMax_take (d := d) hx)
        have hbd := endMax_bd HG.out (l := l.take i) (fun y hy => HRN.out y (List.mem_of_mem_take hy))
        obtain ⟨m, hm⟩ : ∃ m, m = endMax d (l.take i) := ⟨_, rfl⟩
        rw [← hm] at HST hbd ⊢
        obtain ⟨hm0, hm1⟩ := hbd
        have HEN2 := Lib.hid (fun w' (h : Below w.heap.size w w') => end_any _ d x S w' (HV.out.below h) hrx.k0 hrx.k1 (by omega) (by omega))
        obtain ⟨ex, hex⟩ : ∃ e, e = endJ d x := ⟨_, rfl⟩
        have hex0 : 0 ≤ ex ∧ ex ≤ 2000000 := by rw [hex]; unfold endJ; omega
        obtain ⟨hex0, hex1⟩ := hex0
        rw [← hex] at HEN2 HST
        clear hx hcell hrx hcx hs0 hs1 hm hex
        obtain ⟨xp, xk, xs⟩ := x
        simp only [JobV] at HEN2 d0 d1 d2
        obtain ⟨wa, hwa⟩ : ∃ wa, wa = wr.alloc (.cells #[.int .i64 xp, .int .i64 xk, .int .i64 xs] 38) := ⟨_, rfl⟩
        have hma := heap_alloc_new wr (.cells #[.int .i64 xp, .int .i64 xk, .int .i64 xs] 38)
        have hba : Below wr.heap.size wr wa := by rw [hwa]; exact (Below.refl _ _).alloc (Nat.le_refl _) _
        rw [← hwa] at hma
        have HWA := Lib.hid hwa
        have HBA := Lib.hid (HBEL.out.trans (hba.mono HBEL.out.size))
        have HBA0 := Lib.hid (HBR.out.trans (hba.mono HBR.out.size))
        have q0 : (wr.alloc (.cells #[.int .i64 xp, .int .i64 xk, .int .i64 xs] 38)).cell? ⟨wr.heap.size, 0, none⟩ = some (.int .i64 xp) := by rw [← hwa]; exact cell_of_row wa _ 0 _ _ _ hma
        have q1 : (wr.alloc (.cells #[.int .i64 xp, .int .i64 xk, .int .i64 xs] 38)).cell? ⟨wr.heap.size, 1, none⟩ = some (.int .i64 xk) := by rw [← hwa]; exact cell_of_row wa _ 1 _ _ _ hma
        have q2 : (wr.alloc (.cells #[.int .i64 xp, .int .i64 xk, .int .i64 xs] 38)).cell? ⟨wr.heap.size, 2, none⟩ = some (.int .i64 xs) := by rw [← hwa]; exact cell_of_row wa _ 2 _ _ _ hma
        obtain ⟨z0, z1, z2, z3, z4⟩ := HCELL.out wa HBA.out
        rw [hwa] at z0 z1 z2 z3 z4
        have hli : (i : Int) < (n : Int) := by omega
        clear hwa hma hba
        go_wp2_with fail
        rw [← HWA.out]
        refine (HEN2.out wa HBA0.out).mono ?_
        rintro e' w5 ⟨rfl, hb5⟩
        have HB5 := Lib.hid (HBA.out.trans (hb5.mono HBA.out.size))
        clear q0 q1 q2 z0 z1 z2 z3 z4 hb5 d0 d1 d2
        go_wp2_with fail
        go_roundw
        case rel => exact ⟨i + 1, by omega, by go_num, by rw [HST.out], HB5.out⟩
        case measure => simp [intOf]; omega
      · have hin : i = n := by omega
        have HA : Hid (en = endMax d (l.take i)) := by show _ = _; rw [HEN.out, if_pos trivial, hin, ← HN.out, List.take_length]
        have hli : ¬ ((i : Int) < (n : Int)) := by omega
        clear hin
        go_wp2_with fail
        go_ret2
        exact ⟨by rw [HA.out]; rfl, HBR.out⟩
  · have hz' : (ce != 0) = true := by rw [bne_iff_ne]; exact hz
    have HA : Hid (en = 0) := by show _ = _; rw [HEN.out, if_neg hz]
    clear hz
    go_enter Try.func9, Try.ntmps9
    go_wp2_with fail
    rw [← HW1.out]
    refine (HCH.out W1 HB1.out).mono ?_
    rintro e w2 ⟨rfl, hb2⟩
    have HB2' : Hid (Below W1.heap.size W1 w2) := hb2
    clear hb2 x0 x1 x2 x3 x4
    go_wp2_with fail
    go_ret2
    exact ⟨by rw [HA.out]; rfl, HB1.out.trans (HB2'.out.mono HB1.out.size)⟩
def slB (d : WorksD) : Bool := decide (d.cure.length ≤ 12) && (decide (d.need.length ≤ 12) && decide (d.moulds.length ≤ 12))
set_option maxRecDepth 100000 in
theorem slight_any (v : Value) (d : WorksD) (S : Nat → Prop) (w : World) (hv : WkV w S v d) :
    Calls Try.prog 5 #[v] w fun e w' => e = .returned (.bool (slB d)) ∧ Below w.heap.size w w' := by
  obtain ⟨vc, vn, vm, rfl, h1, h2, h3⟩ := hv
  obtain ⟨A1, n1, c1, rfl, e1, -, -, -⟩ := h1.open_
  obtain ⟨A2, n2, c2, rfl, e2, -, -, -⟩ := h2.open_
  obtain ⟨A3, n3, c3, rfl, e3, -, -, -⟩ := h3.open_
  obtain ⟨b, hb⟩ : ∃ b, b = slB d := ⟨_, rfl⟩
  rw [← hb]
  unfold slB at hb
  rw [e1, e2, e3] at hb
  have HB := Lib.hid hb
  clear hb e1 e2 e3 h1 h2 h3
  have hbel := fun o => (Below.refl w.heap.size w).alloc (Nat.le_refl _) o
  by_cases k1 : n1 ≤ 12
  · by_cases k2 : n2 ≤ 12
    · by_cases k3 : n3 ≤ 12
      · have HQ : Hid (b = true) := by show _ = _; rw [HB.out]; simp [k1, k2, k3]
        have k1' : (n1 : Int) ≤ 12 := by omega
        have k2' : (n2 : Int) ≤ 12 := by omega
        have k3' : (n3 : Int) ≤ 12 := by omega
        go_enter Try.func5, Try.ntmps5
        go_wp2_with fail
        go_ret
        exact ⟨by rw [HQ.out]; rfl, hbel _⟩
      · have HQ : Hid (b = false) := by show _ = _; rw [HB.out]; simp [k1, k2, k3]
        have k1' : (n1 : Int) ≤ 12 := by omega
        have k2' : (n2 : Int) ≤ 12 := by omega
        have k3' : decide ((n3 : Int) ≤ 12) = false := decide_eq_false (by omega)
        go_enter Try.func5, Try.ntmps5
        go_wp2_with fail
        go_ret
        exact ⟨by rw [HQ.out]; rfl, hbel _⟩
    · have HQ : Hid (b = false) := by show _ = _; rw [HB.out]; simp [k1, k2]
      have k1' : (n1 : Int) ≤ 12 := by omega
      have k2' : decide ((n2 : Int) ≤ 12) = false := decide_eq_false (by omega)
      go_enter Try.func5, Try.ntmps5
      go_wp2_with fail
      go_ret
      exact ⟨by rw [HQ.out]; rfl, hbel _⟩
  · have HQ : Hid (b = false) := by show _ = _; rw [HB.out]; simp [k1]
    have k1' : decide ((n1 : Int) ≤ 12) = false := decide_eq_false (by omega)
    go_enter Try.func5, Try.ntmps5
    go_wp2_with fail
    go_ret
    exact ⟨by rw [HQ.out]; rfl, hbel _⟩
theorem endMax_ge (d : WorksD) : ∀ (l : List JobD) (m : Int), m ≤ l.foldl (fun m j => max m (endJ d j)) m ∧ ∀ j ∈ l, endJ d j ≤ l.foldl (fun m j => max m (endJ d j)) m
  | [], m => ⟨Int.le_refl _, fun j h => by cases h⟩
  | x :: l, m => by
    obtain ⟨h1, h2⟩ := endMax_ge d l (max m (endJ d x))
    refine ⟨?_, fun j hj => ?_⟩
    · show m ≤ l.foldl _ (max m (endJ d x)); omega
    · show endJ d j ≤ l.foldl _ (max m (endJ d x))
      rcases List.mem_cons.1 hj with rfl | hj
      · omega
      · exact h2 j hj
theorem end_bound {d : WorksD} {l : List JobD} (h : chkE d l = 0) : boundW d ≤ endMax d l := by
  obtain ⟨h1, _, h3⟩ := chkE_zero.1 h
  have hg := wgood_of h1
  exact bound_le hg.ok h3 (endMax_bd hg h3.rng).1 (endMax_ge d l 0).2
end Go.Proofs.Ytogccnngdfancaa

namespace Go.Proofs.Ytogccnngdfancaa
open Go.RowKit Go.ChangeShapes Go.WideShapes Go.Deep
theorem list_of_lt {α : Type} {P : Nat → α → Prop} {n : Nat} (h : ∀ i, i < n → ∃ a, P i a) : ∃ xs : List α, xs.length = n ∧ ∀ (i : Nat) (x : α), xs[i]? = some x → P i x := by
  induction n with
  | zero => exact ⟨[], rfl, fun i x h => by simp at h⟩
  | succ k ih =>
    obtain ⟨ys, hl, hy⟩ := ih fun i hi => h i (by omega)
    obtain ⟨a, ha⟩ := h k (by omega)
    refine ⟨ys ++ [a], by simp [hl], fun i z hz => ?_⟩
    rcases Nat.lt_or_ge i ys.length with hi | hi
    · rw [List.getElem?_append_left hi] at hz; exact hy i z hz
    · have hi' : i = ys.length := by have := (List.getElem?_eq_some_iff.1 hz).1; simp at this; omega
      subst hi'
      rw [List.getElem?_append_right (Nat.le_refl _)] at hz
      simp at hz
      subst hz
      rw [hl]
      exact ha
section
variable {H : Type} {enc : TypeId × Value → H} {w : World} {base : Nat} {spare : Nat → Bool} {held : Bool}
theorem rd_of_slice1 {α : Type} {f : α → Value} {Q : α → Prop} {t e : TypeId} {fuel : Nat} {cs : List Value} {x : DataW H × List MemPlace} (ht : Try.prog.underlying t = some (.slice e)) (hc : Try.prog.cellsOf e = 1)
    (hel : ∀ n v y, DataW.trod enc Try.prog w base spare held n e [v] = some y → ∃ a, v = f a ∧ Q a) (h : DataW.trod enc Try.prog w base spare held fuel t cs = some x) :
    ∃ v xs, cs = [v] ∧ Rd f w (fun _ => True) v xs ∧ ∀ a ∈ xs, Q a := by
  rcases open_slice1 ht hc h with ⟨rfl, _⟩ | ⟨a, len, cap, m, n, V, D, Pl, rfl, hb, hl, hcm, hm, _, hx⟩
  · exact ⟨_, [], rfl, Rd.none_ _ _ _, by simp⟩
  · have hlm : len ≤ m := by rw [hm]; split <;> omega
    have hA : ∀ i, i < len → ∃ a', V i = f a' ∧ Q a' := fun i hi => hel n _ _ (hx i (by omega)).2
    obtain ⟨xs, hxl, hxs'⟩ := list_of_lt hA
    have hxs : ∀ i (h : i < xs.length), V i = f xs[i] ∧ Q xs[i] := fun i h => hxs' i _ (List.getElem?_eq_getElem h)
    refine ⟨_, xs, rfl, ⟨some a, cap, by rw [hxl], by omega, hcm, fun hne => ?_⟩, fun y hy => ?_⟩
    · have h0 : 0 < len := by rw [← hxl]; exact List.length_pos_iff.2 hne
      obtain ⟨b, off, spot⟩ := a
      have hs : spot = none := by simpa [Addr.add] using World.cell?_spot (hx 0 (by omega)).1
      subst hs
      refine ⟨b, off, rfl, trivial, fun i hi => ?_⟩
      have := (hx i (by omega)).1
      rw [addr_add] at this
      rw [this, (hxs i hi).1]
    · obtain ⟨i, hi, rfl⟩ := List.mem_iff_getElem.1 hy
      exact (hxs i hi).2
/-- A slice of structs whose cells are told. -/
theorem rdK_of_slice {α : Type} {k : Nat} {f : α → List Value} {Q : α → Prop} {t e : TypeId} {fuel : Nat} {cs : List Value} {x : DataW H × List MemPlace} (ht : Try.prog.underlying t = some (.slice e)) (hc : Try.prog.cellsOf e = k) (hk : 0 < k) (hf : ∀ a, (f a).length = k)
    (hel : ∀ n vs y, DataW.trod enc Try.prog w base spare held n e vs = some y → ∃ a, vs = f a ∧ Q a) (h : DataW.trod enc Try.prog w base spare held fuel t cs = some x) :
    ∃ v xs, cs = [v] ∧ RdK k f w (fun _ => True) v xs ∧ ∀ a ∈ xs, Q a := by
  rcases open_slice ht h with ⟨rfl, _⟩ | ⟨a, len, cap, m, n, D, Pl, rfl, hb, hl, hcm, hm, _, hx⟩
  · exact ⟨_, [], rfl, ⟨none, 0, rfl, Nat.le_refl _, by simp [maxLen], fun h => absurd rfl h⟩, by simp⟩
  · rw [hc] at hx
    have hlm : len ≤ m := by rw [hm]; split <;> omega
    have hA : ∀ i, i < len → ∃ a', w.cells? base (a.add (i * k)) k = some (f a') ∧ Q a' := fun i hi => by
      obtain ⟨cs', h1, h2⟩ := hx i (by omega)
      obtain ⟨a', rfl, h3⟩ := hel n _ _ h2
      exact ⟨a', h1, h3⟩
    obtain ⟨xs, hxl, hxs⟩ := list_of_lt hA
    refine ⟨_, xs, rfl, ⟨some a, cap, by rw [hxl], by omega, hcm, fun hne => ?_⟩, fun y hy => ?_⟩
    · obtain ⟨y, l, hxx⟩ := List.exists_cons_of_ne_nil hne
      obtain ⟨b, off, spot⟩ := a
      have hs : spot = none := by
        obtain ⟨h1, _⟩ := hxs 0 y (by rw [hxx]; rfl)
        have := (World.cells?_some h1).2.2 0 (by omega)
        rw [List.getElem?_eq_getElem (by rw [hf]; exact hk)] at this
        simpa [Addr.add] using World.cell?_spot this
      subst hs
      refine ⟨b, off, rfl, trivial, fun i z hi j u hu => ?_⟩
      obtain ⟨h1, _⟩ := hxs i z hi
      have hj : j < k := by rw [← hf z]; exact (List.getElem?_eq_some_iff.1 hu).1
      have := (World.cells?_some h1).2.2 j hj
      rw [hu] at this
      simpa only [addr_add] using this
    · obtain ⟨i, hi, rfl⟩ := List.mem_iff_getElem.1 hy
      exact (hxs i _ (List.getElem?_eq_getElem hi)).2
theorem open_ints_rd {fuel : Nat} {cs : List Value} {x : DataW H × List MemPlace} (h : DataW.trod enc Try.prog w base spare held fuel 22 cs = some x) :
    ∃ v xs, cs = [v] ∧ Rd (Value.int .i64) w (fun _ => True) v xs ∧ ∀ z ∈ xs, (Lit.int .i64 z).wf = true :=
  rd_of_slice1 (f := Value.int .i64) (Q := fun z => (Lit.int .i64 z).wf = true) Try.underlying22 (by kernel_rfl) (fun n v y hy => by
    obtain ⟨s, h1, _, h2⟩ := DataW.trod_int Try.underlying3 hy
    simp at h1
    exact ⟨s, h1, h2⟩) h
theorem open_u16s_rd {fuel : Nat} {cs : List Value} {x : DataW H × List MemPlace} (h : DataW.trod enc Try.prog w base spare held fuel 44 cs = some x) :
    ∃ v xs, cs = [v] ∧ Rd (Value.int .u16) w (fun _ => True) v xs ∧ ∀ z ∈ xs, (Lit.int .u16 z).wf = true :=
  rd_of_slice1 (f := Value.int .u16) (Q := fun z => (Lit.int .u16 z).wf = true) Try.underlying44 (by kernel_rfl) (fun n v y hy => by
    obtain ⟨s, h1, _, h2⟩ := DataW.trod_int Try.underlying45 hy
    simp at h1
    exact ⟨s, h1, h2⟩) h
set_option maxRecDepth 100000 in
theorem open_works {fuel : Nat} {cs : List Value} {y : DataW H × List MemPlace} (h : DataW.trod enc Try.prog w base spare held fuel 24 cs = some y) :
    ∃ (d : WorksD) (vc vn vm : Value), cs = [.int .i64 d.presses, .int .i64 d.change, vc, vn, vm] ∧ Rd (Value.int .i64) w (fun _ => True) vc d.cure ∧ Rd (Value.int .i64) w (fun _ => True) vn d.need ∧ Rd (Value.int .i64) w (fun _ => True) vm d.moulds := by
  obtain ⟨ys, n, _, _, hl, _, hf⟩ := DataW.trod_struct Try.underlying24 h
  have hl5 : cs.length = 5 := hl.trans (by kernel_rfl)
  match cs, hl5 with
  | [c0, c1, c2, c3, c4], _ =>
    have o3 : Try.prog.cellsOf 3 = 1 := by kernel_rfl
    have o22 : Try.prog.cellsOf 22 = 1 := by kernel_rfl
    have h0 : DataW.trod enc Try.prog w base spare held n 3 (([c0, c1, c2, c3, c4].drop 0).take (Try.prog.cellsOf 3)) = ys[0]? := hf 0 _ rfl
    have h1 : DataW.trod enc Try.prog w base spare held n 3 (([c0, c1, c2, c3, c4].drop 1).take (Try.prog.cellsOf 3)) = ys[1]? := hf 1 _ rfl
    have h2 : DataW.trod enc Try.prog w base spare held n 22 (([c0, c1, c2, c3, c4].drop 2).take (Try.prog.cellsOf 22)) = ys[2]? := hf 2 _ rfl
    have h3 : DataW.trod enc Try.prog w base spare held n 22 (([c0, c1, c2, c3, c4].drop 3).take (Try.prog.cellsOf 22)) = ys[3]? := hf 3 _ rfl
    have h4 : DataW.trod enc Try.prog w base spare held n 22 (([c0, c1, c2, c3, c4].drop 4).take (Try.prog.cellsOf 22)) = ys[4]? := hf 4 _ rfl
    rw [o3] at h0 h1
    rw [o22] at h2 h3 h4
    have e : ys.length = 5 := by assumption
    match ys, e with
    | [y0, y1, y2, y3, y4], _ =>
      replace h0 : DataW.trod enc Try.prog w base spare held n 3 [c0] = some y0 := h0
      replace h1 : DataW.trod enc Try.prog w base spare held n 3 [c1] = some y1 := h1
      replace h2 : DataW.trod enc Try.prog w base spare held n 22 [c2] = some y2 := h2
      replace h3 : DataW.trod enc Try.prog w base spare held n 22 [c3] = some y3 := h3
      replace h4 : DataW.trod enc Try.prog w base spare held n 22 [c4] = some y4 := h4
      obtain ⟨s, a1, _, a2⟩ := DataW.trod_int Try.underlying3 h0
      obtain ⟨k, b1, _, b2⟩ := DataW.trod_int Try.underlying3 h1
      obtain ⟨vc, xc, e1, e2, _⟩ := open_ints_rd h2
      obtain ⟨vn, xn, f1, f2, _⟩ := open_ints_rd h3
      obtain ⟨vm, xm, g1, g2, _⟩ := open_ints_rd h4
      simp at a1 b1 e1 f1 g1
      subst a1 b1 e1 f1 g1
      exact ⟨⟨s, k, xc, xn, xm⟩, c2, c3, c4, rfl, e2, f2, g2⟩
def JobWf (x : JobD) : Prop := (Lit.int .i64 x.press).wf = true ∧ (Lit.int .i64 x.kind).wf = true ∧ (Lit.int .i64 x.start).wf = true
set_option maxRecDepth 100000 in
theorem open_job {fuel : Nat} {cs : List Value} {y : DataW H × List MemPlace} (h : DataW.trod enc Try.prog w base spare held fuel 73 cs = some y) :
    ∃ x : JobD, cs = jobC x ∧ JobWf x := by
  obtain ⟨ys, n, _, _, hl, _, hf⟩ := DataW.trod_struct Try.underlying73 h
  have hl3 : cs.length = 3 := hl.trans (by kernel_rfl)
  match cs, hl3 with
  | [c0, c1, c2], _ =>
    have o3 : Try.prog.cellsOf 3 = 1 := by kernel_rfl
    have h0 : DataW.trod enc Try.prog w base spare held n 3 (([c0, c1, c2].drop 0).take (Try.prog.cellsOf 3)) = ys[0]? := hf 0 _ rfl
    have h1 : DataW.trod enc Try.prog w base spare held n 3 (([c0, c1, c2].drop 1).take (Try.prog.cellsOf 3)) = ys[1]? := hf 1 _ rfl
    have h2 : DataW.trod enc Try.prog w base spare held n 3 (([c0, c1, c2].drop 2).take (Try.prog.cellsOf 3)) = ys[2]? := hf 2 _ rfl
    rw [o3] at h0 h1 h2
    have e : ys.length = 3 := by assumption
    match ys, e with
    | [y0, y1, y2], _ =>
      replace h0 : DataW.trod enc Try.prog w base spare held n 3 [c0] = some y0 := h0
      replace h1 : DataW.trod enc Try.prog w base spare held n 3 [c1] = some y1 := h1
      replace h2 : DataW.trod enc Try.prog w base spare held n 3 [c2] = some y2 := h2
      obtain ⟨s, a1, _, a2⟩ := DataW.trod_int Try.underlying3 h0
      obtain ⟨k, b1, _, b2⟩ := DataW.trod_int Try.underlying3 h1
      obtain ⟨a, d1, _, d2⟩ := DataW.trod_int Try.underlying3 h2
      simp at a1 b1 d1
      subst a1 b1 d1
      exact ⟨⟨s, k, a⟩, rfl, a2, b2, d2⟩
theorem open_jobs {fuel : Nat} {cs : List Value} {y : DataW H × List MemPlace} (h : DataW.trod enc Try.prog w base spare held fuel 43 cs = some y) :
    ∃ v xs, cs = [v] ∧ RdK 3 jobC w (fun _ => True) v xs ∧ ∀ x ∈ xs, JobWf x :=
  rdK_of_slice (k := 3) (f := jobC) (Q := JobWf) Try.underlying43 (by kernel_rfl) (by decide) (fun _ => rfl) (fun n vs y hy => open_job hy) h
end
end Go.Proofs.Ytogccnngdfancaa

