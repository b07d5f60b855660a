/- Plan's schedule is valid. The walk of plant.End. What came in, opened: lists of ints, works, lists of jobs. Plain laws of decimal digits. Walks of the decimal texts of the package exact: decimal. -/
import Derived.Test.YtogccnngdfancaaGreatPart05
import Derived.Test.YtogccnngdfancaaGreatPart12
import Derived.Test.YtogccnngdfancaaGreatPart33
import Derived.Test.YtogccnngdfancaaGreatPart02
import Derived.Test.YtogccnngdfancaaGreatPart03
import Derived.Deep.Slices
import Derived.Deep.Fields
import Derived.ChangeSame
import Derived.OpenShut
import Derived.RowKit
import Derived.Test.YtogccnngdfancaaGreatPart32
import Derived.Test.YtogccnngdfancaaGreatPart17
namespace Go.Proofs.YtogccnngdfancaaGreat
set_option linter.unusedVariables false
set_option linter.unusedSimpArgs false
end Go.Proofs.YtogccnngdfancaaGreat

namespace Go.Proofs.YtogccnngdfancaaGreat
open Go.RowKit
set_option linter.unusedVariables false
set_option linter.unusedSimpArgs false
def endMax (d : WorksD) (l : List JobD) : Int := l.foldl (fun m j => max m (endJ d j)) 0
def endE (d : WorksD) (l : List JobD) : Int := if chkE d l = 0 then endMax d l else 0
theorem endMax_take {d : WorksD} {l : List JobD} {i : Nat} {x : JobD} (h : l[i]? = some x) : endMax d (l.take (i + 1)) = max (endMax d (l.take i)) (endJ d x) := by
  unfold endMax; rw [take_snoc? h, List.foldl_append]; rfl
theorem endMax_bd {d : WorksD} (hg : WGood d) : ∀ {l : List JobD}, (∀ x ∈ l, InRange d x) → 0 ≤ endMax d l ∧ endMax d l ≤ 1001000 := by
  intro l
  unfold endMax
  have : ∀ (l : List JobD) (m : Int), 0 ≤ m → m ≤ 1001000 → (∀ x ∈ l, InRange d x) → 0 ≤ l.foldl (fun m j => max m (endJ d j)) m ∧ l.foldl (fun m j => max m (endJ d j)) m ≤ 1001000 := by
    intro l
    induction l with
    | nil => intro m h1 h2 _; exact ⟨h1, h2⟩
    | cons x l ih =>
      intro m h1 h2 h3
      have hx := h3 x (List.mem_cons_self ..)
      have := cure_in hg hx
      have := hx.s0
      have := hx.s1
      have e : endJ d x = x.start + cureOf d x.kind := rfl
      exact ih _ (show 0 ≤ max m (endJ d x) by omega) (show max m (endJ d x) ≤ 1001000 by omega) fun y hy => h3 y (List.mem_cons_of_mem _ hy)
  exact this l 0 (by omega) (by omega)
def EndPost (d : WorksD) (l : List JobD) (w : World) (e : Ending) (w' : World) : Prop := e = .returned (.tuple #[.int .i64 (endE d l), .int .i64 (chkE d l)]) ∧ Below w.heap.size w w'
set_option maxRecDepth 100000 in
set_option maxHeartbeats 4000000 in
theorem End_any (v vl : Value) (d : WorksD) (l : List JobD) (S T : Nat → Prop) (w : World) (hv : WkV w S v d) (hl : RdK 3 jobC w T vl l) (hll : l.length ≤ 1000) :
    Calls Tryz.prog 7 #[v, vl] w (EndPost d l w) := by
  have HCH := Lib.hid (fun w' (h : Below w.heap.size w w') => Check_any v vl d l S T w' (hv.below h) (hl.below jobC_0 h) hll)
  have HV := Lib.hid hv
  obtain ⟨vc, vn, vm, rfl, -, -, -⟩ := hv.lt
  obtain ⟨A, n, cap, rfl, hn, hcap, hmax, hlc⟩ := (hl.lt jobC_0).open_
  obtain ⟨ce, hce⟩ : ∃ ce, ce = chkE d l := ⟨_, rfl⟩
  obtain ⟨en, hen⟩ : ∃ en, en = endE d l := ⟨_, rfl⟩
  unfold CheckPost at HCH
  unfold EndPost
  rw [← hce] at HCH ⊢
  rw [← hen]
  have HCE := Lib.hid hce
  have HEN : Hid (en = if ce = 0 then endMax d l else 0) := by show _ = _; rw [hen, hce]; rfl
  obtain ⟨W1, hW1⟩ : ∃ W1, W1 = w.alloc (.cells #[.int .i64 d.presses, .int .i64 d.change, vc, vn, vm] 38) := ⟨_, rfl⟩
  have hm1 := heap_alloc_new w (.cells #[.int .i64 d.presses, .int .i64 d.change, vc, vn, vm] 38)
  have hb1 : Below w.heap.size w W1 := by rw [hW1]; exact (Below.refl _ w).alloc (Nat.le_refl _) _
  rw [← hW1] at hm1
  have HSZ : Hid (W1.heap.size = w.heap.size + 1) := by show _ = _; rw [hW1]; simp
  have HCELL : Hid (∀ w', Below W1.heap.size W1 w' → w'.cell? ⟨w.heap.size, 0, none⟩ = some (.int .i64 d.presses) ∧ w'.cell? ⟨w.heap.size, 1, none⟩ = some (.int .i64 d.change) ∧ w'.cell? ⟨w.heap.size, 2, none⟩ = some vc ∧ w'.cell? ⟨w.heap.size, 3, none⟩ = some vn ∧ w'.cell? ⟨w.heap.size, 4, none⟩ = some vm) := fun w' hb => by
    have k0 := (hb.block _ (by have := HSZ.out; omega)).trans hm1
    exact ⟨cell_of_row w' _ 0 _ _ _ k0, cell_of_row w' _ 1 _ _ _ k0, cell_of_row w' _ 2 _ _ _ k0, cell_of_row w' _ 3 _ _ _ k0, cell_of_row w' _ 4 _ _ _ k0⟩
  obtain ⟨x0, x1, x2, x3, x4⟩ := HCELL.out W1 (Below.refl _ _)
  have HW1 := Lib.hid hW1
  have HB1 := Lib.hid hb1
  have HN := Lib.hid hn
  have HLC := Lib.hid hlc
  rw [hn] at hll
  clear hW1 hm1 hb1 hv hl hn hlc hce hen
  by_cases hz : ce = 0
  · subst hz
    have HVA := Lib.hid (chkE_zero.1 HCE.out.symm)
    have HG := Lib.hid (wgood_of HVA.out.1)
    have HRN : Hid (∀ x ∈ l, InRange d x) := HVA.out.2.2.rng
    go_enter Tryz.func7, Tryz.ntmps7
    go_wp2_with fail
    rw [← HW1.out]
    refine (HCH.out W1 HB1.out).mono ?_
    rintro e w2 ⟨rfl, hb2⟩
    have HB2' : Hid (Below W1.heap.size W1 w2) := hb2
    clear hb2 x0 x1 x2 x3 x4
    go_wp2_with fail
    go_loopw [7, 18] (fun mv iv wr => ∃ i : Nat, i ≤ n ∧ iv = .int .i64 (i : Int) ∧ mv = .int .i64 (endMax d (l.take i)) ∧ Below W1.heap.size W1 wr) (fun _ iv _ => n - (intOf iv).toNat)
    case atStart => exact ⟨0, Nat.zero_le _, rfl, rfl, HB2'.out⟩
    case round =>
      clear HB2'
      obtain ⟨i, hi, rfl, rfl, hbel⟩ := hrel
      have HBEL := Lib.hid hbel
      have HBR := Lib.hid (HB1.out.trans (hbel.mono HB1.out.size))
      clear hbel
      by_cases hlt : i < n
      · obtain ⟨b, off, x, rfl, ⟨_, hbl⟩, hx, hcell⟩ := HLC.out i hlt
        have d0 : wr.cell? ⟨b, off + i * 3, none⟩ = some (.int .i64 x.press) := (HBR.out.cell (p := ⟨b, _, none⟩) hbl).trans (hcell 0 _ rfl)
        have d1 : wr.cell? ⟨b, off + i * 3 + 1, none⟩ = some (.int .i64 x.kind) := (HBR.out.cell (p := ⟨b, _, none⟩) hbl).trans (hcell 1 _ rfl)
        have d2 : wr.cell? ⟨b, off + i * 3 + 2, none⟩ = some (.int .i64 x.start) := (HBR.out.cell (p := ⟨b, _, none⟩) hbl).trans (hcell 2 _ rfl)
        have hrx := HRN.out x (mem_of_get? hx)
        have hcx := cure_in HG.out hrx
        have hs0 := hrx.s0
        have hs1 := hrx.s1
        have HST := Lib.hid (endMax_take (d := d) hx)
        have hbd := endMax_bd HG.out (l := l.take i) (fun y hy => HRN.out y (List.mem_of_mem_take hy))
        obtain ⟨m, hm⟩ : ∃ m, m = endMax d (l.take i) := ⟨_, rfl⟩
        rw [← hm] at HST hbd ⊢
        obtain ⟨hm0, hm1⟩ := hbd
        have HEN2 := Lib.hid (fun w' (h : Below w.heap.size w w') => end_any _ d x S w' (HV.out.below h) hrx.k0 hrx.k1 (by omega) (by omega))
        obtain ⟨ex, hex⟩ : ∃ e, e = endJ d x := ⟨_, rfl⟩
        have hex0 : 0 ≤ ex ∧ ex ≤ 2000000 := by rw [hex]; unfold endJ; omega
        obtain ⟨hex0, hex1⟩ := hex0
        rw [← hex] at HEN2 HST
        clear hx hcell hrx hcx hs0 hs1 hm hex
        obtain ⟨xp, xk, xs⟩ := x
        simp only [JobV] at HEN2 d0 d1 d2
        obtain ⟨wa, hwa⟩ : ∃ wa, wa = wr.alloc (.cells #[.int .i64 xp, .int .i64 xk, .int .i64 xs] 79) := ⟨_, rfl⟩
        have hma := heap_alloc_new wr (.cells #[.int .i64 xp, .int .i64 xk, .int .i64 xs] 79)
        have hba : Below wr.heap.size wr wa := by rw [hwa]; exact (Below.refl _ _).alloc (Nat.le_refl _) _
        rw [← hwa] at hma
        have HWA := Lib.hid hwa
        have HBA := Lib.hid (HBEL.out.trans (hba.mono HBEL.out.size))
        have HBA0 := Lib.hid (HBR.out.trans (hba.mono HBR.out.size))
        have q0 : (wr.alloc (.cells #[.int .i64 xp, .int .i64 xk, .int .i64 xs] 79)).cell? ⟨wr.heap.size, 0, none⟩ = some (.int .i64 xp) := by rw [← hwa]; exact cell_of_row wa _ 0 _ _ _ hma
        have q1 : (wr.alloc (.cells #[.int .i64 xp, .int .i64 xk, .int .i64 xs] 79)).cell? ⟨wr.heap.size, 1, none⟩ = some (.int .i64 xk) := by rw [← hwa]; exact cell_of_row wa _ 1 _ _ _ hma
        have q2 : (wr.alloc (.cells #[.int .i64 xp, .int .i64 xk, .int .i64 xs] 79)).cell? ⟨wr.heap.size, 2, none⟩ = some (.int .i64 xs) := by rw [← hwa]; exact cell_of_row wa _ 2 _ _ _ hma
        obtain ⟨z0, z1, z2, z3, z4⟩ := HCELL.out wa HBA.out
        rw [hwa] at z0 z1 z2 z3 z4
        have hli : (i : Int) < (n : Int) := by omega
        clear hwa hma hba
        go_wp2_with fail
        rw [← HWA.out]
        refine (HEN2.out wa HBA0.out).mono ?_
        rintro e' w5 ⟨rfl, hb5⟩
        have HB5 := Lib.hid (HBA.out.trans (hb5.mono HBA.out.size))
        clear q0 q1 q2 z0 z1 z2 z3 z4 hb5 d0 d1 d2
        go_wp2_with fail
        go_roundw
        case rel => exact ⟨i + 1, by omega, by go_num, by (first | (rw [HST.out]; done) | (rw [HST.out]; congr 1; split <;> omega)), HB5.out⟩
        case measure => simp [intOf]; omega
      · have hin : i = n := by omega
        have HA : Hid (en = endMax d (l.take i)) := by show _ = _; rw [HEN.out, if_pos trivial, hin, ← HN.out, List.take_length]
        have hli : ¬ ((i : Int) < (n : Int)) := by omega
        clear hin
        go_wp2_with fail
        go_ret2
        exact ⟨by rw [HA.out]; rfl, HBR.out⟩
  · have hz' : (ce != 0) = true := by rw [bne_iff_ne]; exact hz
    have HA : Hid (en = 0) := by show _ = _; rw [HEN.out, if_neg hz]
    clear hz
    go_enter Tryz.func7, Tryz.ntmps7
    go_wp2_with fail
    rw [← HW1.out]
    refine (HCH.out W1 HB1.out).mono ?_
    rintro e w2 ⟨rfl, hb2⟩
    have HB2' : Hid (Below W1.heap.size W1 w2) := hb2
    clear hb2 x0 x1 x2 x3 x4
    go_wp2_with fail
    go_ret2
    exact ⟨by rw [HA.out]; rfl, HB1.out.trans (HB2'.out.mono HB1.out.size)⟩
def slB (d : WorksD) : Bool := decide (d.cure.length ≤ 12) && (decide (d.need.length ≤ 12) && decide (d.moulds.length ≤ 12))
set_option maxRecDepth 100000 in
theorem slight_any (v : Value) (d : WorksD) (S : Nat → Prop) (w : World) (hv : WkV w S v d) :
    Calls Tryz.prog 4 #[v] w fun e w' => e = .returned (.bool (slB d)) ∧ Below w.heap.size w w' := by
  obtain ⟨vc, vn, vm, rfl, h1, h2, h3⟩ := hv
  obtain ⟨A1, n1, c1, rfl, e1, -, -, -⟩ := h1.open_
  obtain ⟨A2, n2, c2, rfl, e2, -, -, -⟩ := h2.open_
  obtain ⟨A3, n3, c3, rfl, e3, -, -, -⟩ := h3.open_
  obtain ⟨b, hb⟩ : ∃ b, b = slB d := ⟨_, rfl⟩
  rw [← hb]
  unfold slB at hb
  rw [e1, e2, e3] at hb
  have HB := Lib.hid hb
  clear hb e1 e2 e3 h1 h2 h3
  have hbel := fun o => (Below.refl w.heap.size w).alloc (Nat.le_refl _) o
  by_cases k1 : n1 ≤ 12
  · by_cases k2 : n2 ≤ 12
    · by_cases k3 : n3 ≤ 12
      · have HQ : Hid (b = true) := by show _ = _; rw [HB.out]; simp [k1, k2, k3]
        have k1' : (n1 : Int) ≤ 12 := by omega
        have k2' : (n2 : Int) ≤ 12 := by omega
        have k3' : (n3 : Int) ≤ 12 := by omega
        go_enter Tryz.func4, Tryz.ntmps4
        go_wp2_with fail
        go_ret
        exact ⟨by rw [HQ.out]; rfl, hbel _⟩
      · have HQ : Hid (b = false) := by show _ = _; rw [HB.out]; simp [k1, k2, k3]
        have k1' : (n1 : Int) ≤ 12 := by omega
        have k2' : (n2 : Int) ≤ 12 := by omega
        have k3' : decide ((n3 : Int) ≤ 12) = false := decide_eq_false (by omega)
        go_enter Tryz.func4, Tryz.ntmps4
        go_wp2_with fail
        go_ret
        exact ⟨by rw [HQ.out]; rfl, hbel _⟩
    · have HQ : Hid (b = false) := by show _ = _; rw [HB.out]; simp [k1, k2]
      have k1' : (n1 : Int) ≤ 12 := by omega
      have k2' : decide ((n2 : Int) ≤ 12) = false := decide_eq_false (by omega)
      go_enter Tryz.func4, Tryz.ntmps4
      go_wp2_with fail
      go_ret
      exact ⟨by rw [HQ.out]; rfl, hbel _⟩
  · have HQ : Hid (b = false) := by show _ = _; rw [HB.out]; simp [k1]
    have k1' : decide ((n1 : Int) ≤ 12) = false := decide_eq_false (by omega)
    go_enter Tryz.func4, Tryz.ntmps4
    go_wp2_with fail
    go_ret
    exact ⟨by rw [HQ.out]; rfl, hbel _⟩
end Go.Proofs.YtogccnngdfancaaGreat

namespace Go.Proofs.YtogccnngdfancaaGreat
open Go.RowKit Go.ChangeShapes Go.WideShapes Go.Deep
theorem list_of_lt {α : Type} {P : Nat → α → Prop} {n : Nat} (h : ∀ i, i < n → ∃ a, P i a) : ∃ xs : List α, xs.length = n ∧ ∀ (i : Nat) (x : α), xs[i]? = some x → P i x := by
  induction n with
  | zero => exact ⟨[], rfl, fun i x h => by simp at h⟩
  | succ k ih =>
    obtain ⟨ys, hl, hy⟩ := ih fun i hi => h i (by omega)
    obtain ⟨a, ha⟩ := h k (by omega)
    refine ⟨ys ++ [a], by simp [hl], fun i z hz => ?_⟩
    rcases Nat.lt_or_ge i ys.length with hi | hi
    · rw [List.getElem?_append_left hi] at hz; exact hy i z hz
    · have hi' : i = ys.length := by have := (List.getElem?_eq_some_iff.1 hz).1; simp at this; omega
      subst hi'
      rw [List.getElem?_append_right (Nat.le_refl _)] at hz
      simp at hz
      subst hz
      rw [hl]
      exact ha
section
variable {H : Type} {enc : TypeId × Value → H} {w : World} {base : Nat} {spare : Nat → Bool} {held : Bool}
theorem rd_of_slice1 {α : Type} {f : α → Value} {Q : α → Prop} {t e : TypeId} {fuel : Nat} {cs : List Value} {x : DataW H × List MemPlace} (ht : Tryz.prog.underlying t = some (.slice e)) (hc : Tryz.prog.cellsOf e = 1)
    (hel : ∀ n v y, DataW.trod enc Tryz.prog w base spare held n e [v] = some y → ∃ a, v = f a ∧ Q a) (h : DataW.trod enc Tryz.prog w base spare held fuel t cs = some x) :
    ∃ v xs, cs = [v] ∧ Rd f w (fun _ => True) v xs ∧ ∀ a ∈ xs, Q a := by
  rcases open_slice1 ht hc h with ⟨rfl, _⟩ | ⟨a, len, cap, m, n, V, D, Pl, rfl, hb, hl, hcm, hm, _, hx⟩
  · exact ⟨_, [], rfl, Rd.none_ _ _ _, by simp⟩
  · have hlm : len ≤ m := by rw [hm]; split <;> omega
    have hA : ∀ i, i < len → ∃ a', V i = f a' ∧ Q a' := fun i hi => hel n _ _ (hx i (by omega)).2
    obtain ⟨xs, hxl, hxs'⟩ := list_of_lt hA
    have hxs : ∀ i (h : i < xs.length), V i = f xs[i] ∧ Q xs[i] := fun i h => hxs' i _ (List.getElem?_eq_getElem h)
    refine ⟨_, xs, rfl, ⟨some a, cap, by rw [hxl], by omega, hcm, fun hne => ?_⟩, fun y hy => ?_⟩
    · have h0 : 0 < len := by rw [← hxl]; exact List.length_pos_iff.2 hne
      obtain ⟨b, off, spot⟩ := a
      have hs : spot = none := by simpa [Addr.add] using World.cell?_spot (hx 0 (by omega)).1
      subst hs
      refine ⟨b, off, rfl, trivial, fun i hi => ?_⟩
      have := (hx i (by omega)).1
      rw [addr_add] at this
      rw [this, (hxs i hi).1]
    · obtain ⟨i, hi, rfl⟩ := List.mem_iff_getElem.1 hy
      exact (hxs i hi).2
/-- A slice of structs whose cells are told. -/
theorem rdK_of_slice {α : Type} {k : Nat} {f : α → List Value} {Q : α → Prop} {t e : TypeId} {fuel : Nat} {cs : List Value} {x : DataW H × List MemPlace} (ht : Tryz.prog.underlying t = some (.slice e)) (hc : Tryz.prog.cellsOf e = k) (hk : 0 < k) (hf : ∀ a, (f a).length = k)
    (hel : ∀ n vs y, DataW.trod enc Tryz.prog w base spare held n e vs = some y → ∃ a, vs = f a ∧ Q a) (h : DataW.trod enc Tryz.prog w base spare held fuel t cs = some x) :
    ∃ v xs, cs = [v] ∧ RdK k f w (fun _ => True) v xs ∧ ∀ a ∈ xs, Q a := by
  rcases open_slice ht h with ⟨rfl, _⟩ | ⟨a, len, cap, m, n, D, Pl, rfl, hb, hl, hcm, hm, _, hx⟩
  · exact ⟨_, [], rfl, ⟨none, 0, rfl, Nat.le_refl _, by simp [maxLen], fun h => absurd rfl h⟩, by simp⟩
  · rw [hc] at hx
    have hlm : len ≤ m := by rw [hm]; split <;> omega
    have hA : ∀ i, i < len → ∃ a', w.cells? base (a.add (i * k)) k = some (f a') ∧ Q a' := fun i hi => by
      obtain ⟨cs', h1, h2⟩ := hx i (by omega)
      obtain ⟨a', rfl, h3⟩ := hel n _ _ h2
      exact ⟨a', h1, h3⟩
    obtain ⟨xs, hxl, hxs⟩ := list_of_lt hA
    refine ⟨_, xs, rfl, ⟨some a, cap, by rw [hxl], by omega, hcm, fun hne => ?_⟩, fun y hy => ?_⟩
    · obtain ⟨y, l, hxx⟩ := List.exists_cons_of_ne_nil hne
      obtain ⟨b, off, spot⟩ := a
      have hs : spot = none := by
        obtain ⟨h1, _⟩ := hxs 0 y (by rw [hxx]; rfl)
        have := (World.cells?_some h1).2.2 0 (by omega)
        rw [List.getElem?_eq_getElem (by rw [hf]; exact hk)] at this
        simpa [Addr.add] using World.cell?_spot this
      subst hs
      refine ⟨b, off, rfl, trivial, fun i z hi j u hu => ?_⟩
      obtain ⟨h1, _⟩ := hxs i z hi
      have hj : j < k := by rw [← hf z]; exact (List.getElem?_eq_some_iff.1 hu).1
      have := (World.cells?_some h1).2.2 j hj
      rw [hu] at this
      simpa only [addr_add] using this
    · obtain ⟨i, hi, rfl⟩ := List.mem_iff_getElem.1 hy
      exact (hxs i _ (List.getElem?_eq_getElem hi)).2
theorem open_ints_rd {fuel : Nat} {cs : List Value} {x : DataW H × List MemPlace} (h : DataW.trod enc Tryz.prog w base spare held fuel 22 cs = some x) :
    ∃ v xs, cs = [v] ∧ Rd (Value.int .i64) w (fun _ => True) v xs ∧ ∀ z ∈ xs, (Lit.int .i64 z).wf = true :=
  rd_of_slice1 (f := Value.int .i64) (Q := fun z => (Lit.int .i64 z).wf = true) Tryz.underlying22 (by kernel_rfl) (fun n v y hy => by
    obtain ⟨s, h1, _, h2⟩ := DataW.trod_int Tryz.underlying3 hy
    simp at h1
    exact ⟨s, h1, h2⟩) h
set_option maxRecDepth 100000 in
theorem open_works {fuel : Nat} {cs : List Value} {y : DataW H × List MemPlace} (h : DataW.trod enc Tryz.prog w base spare held fuel 24 cs = some y) :
    ∃ (d : WorksD) (vc vn vm : Value), cs = [.int .i64 d.presses, .int .i64 d.change, vc, vn, vm] ∧ Rd (Value.int .i64) w (fun _ => True) vc d.cure ∧ Rd (Value.int .i64) w (fun _ => True) vn d.need ∧ Rd (Value.int .i64) w (fun _ => True) vm d.moulds := by
  obtain ⟨ys, n, _, _, hl, _, hf⟩ := DataW.trod_struct Tryz.underlying24 h
  have hl5 : cs.length = 5 := hl.trans (by kernel_rfl)
  match cs, hl5 with
  | [c0, c1, c2, c3, c4], _ =>
    have o3 : Tryz.prog.cellsOf 3 = 1 := by kernel_rfl
    have o22 : Tryz.prog.cellsOf 22 = 1 := by kernel_rfl
    have h0 : DataW.trod enc Tryz.prog w base spare held n 3 (([c0, c1, c2, c3, c4].drop 0).take (Tryz.prog.cellsOf 3)) = ys[0]? := hf 0 _ rfl
    have h1 : DataW.trod enc Tryz.prog w base spare held n 3 (([c0, c1, c2, c3, c4].drop 1).take (Tryz.prog.cellsOf 3)) = ys[1]? := hf 1 _ rfl
    have h2 : DataW.trod enc Tryz.prog w base spare held n 22 (([c0, c1, c2, c3, c4].drop 2).take (Tryz.prog.cellsOf 22)) = ys[2]? := hf 2 _ rfl
    have h3 : DataW.trod enc Tryz.prog w base spare held n 22 (([c0, c1, c2, c3, c4].drop 3).take (Tryz.prog.cellsOf 22)) = ys[3]? := hf 3 _ rfl
    have h4 : DataW.trod enc Tryz.prog w base spare held n 22 (([c0, c1, c2, c3, c4].drop 4).take (Tryz.prog.cellsOf 22)) = ys[4]? := hf 4 _ rfl
    rw [o3] at h0 h1
    rw [o22] at h2 h3 h4
    have e : ys.length = 5 := by assumption
    match ys, e with
    | [y0, y1, y2, y3, y4], _ =>
      replace h0 : DataW.trod enc Tryz.prog w base spare held n 3 [c0] = some y0 := h0
      replace h1 : DataW.trod enc Tryz.prog w base spare held n 3 [c1] = some y1 := h1
      replace h2 : DataW.trod enc Tryz.prog w base spare held n 22 [c2] = some y2 := h2
      replace h3 : DataW.trod enc Tryz.prog w base spare held n 22 [c3] = some y3 := h3
      replace h4 : DataW.trod enc Tryz.prog w base spare held n 22 [c4] = some y4 := h4
      obtain ⟨s, a1, _, a2⟩ := DataW.trod_int Tryz.underlying3 h0
      obtain ⟨k, b1, _, b2⟩ := DataW.trod_int Tryz.underlying3 h1
      obtain ⟨vc, xc, e1, e2, _⟩ := open_ints_rd h2
      obtain ⟨vn, xn, f1, f2, _⟩ := open_ints_rd h3
      obtain ⟨vm, xm, g1, g2, _⟩ := open_ints_rd h4
      simp at a1 b1 e1 f1 g1
      subst a1 b1 e1 f1 g1
      exact ⟨⟨s, k, xc, xn, xm⟩, c2, c3, c4, rfl, e2, f2, g2⟩
def JobWf (x : JobD) : Prop := (Lit.int .i64 x.press).wf = true ∧ (Lit.int .i64 x.kind).wf = true ∧ (Lit.int .i64 x.start).wf = true
set_option maxRecDepth 100000 in
theorem open_job {fuel : Nat} {cs : List Value} {y : DataW H × List MemPlace} (h : DataW.trod enc Tryz.prog w base spare held fuel 78 cs = some y) :
    ∃ x : JobD, cs = jobC x ∧ JobWf x := by
  obtain ⟨ys, n, _, _, hl, _, hf⟩ := DataW.trod_struct Tryz.underlying78 h
  have hl3 : cs.length = 3 := hl.trans (by kernel_rfl)
  match cs, hl3 with
  | [c0, c1, c2], _ =>
    have o3 : Tryz.prog.cellsOf 3 = 1 := by kernel_rfl
    have h0 : DataW.trod enc Tryz.prog w base spare held n 3 (([c0, c1, c2].drop 0).take (Tryz.prog.cellsOf 3)) = ys[0]? := hf 0 _ rfl
    have h1 : DataW.trod enc Tryz.prog w base spare held n 3 (([c0, c1, c2].drop 1).take (Tryz.prog.cellsOf 3)) = ys[1]? := hf 1 _ rfl
    have h2 : DataW.trod enc Tryz.prog w base spare held n 3 (([c0, c1, c2].drop 2).take (Tryz.prog.cellsOf 3)) = ys[2]? := hf 2 _ rfl
    rw [o3] at h0 h1 h2
    have e : ys.length = 3 := by assumption
    match ys, e with
    | [y0, y1, y2], _ =>
      replace h0 : DataW.trod enc Tryz.prog w base spare held n 3 [c0] = some y0 := h0
      replace h1 : DataW.trod enc Tryz.prog w base spare held n 3 [c1] = some y1 := h1
      replace h2 : DataW.trod enc Tryz.prog w base spare held n 3 [c2] = some y2 := h2
      obtain ⟨s, a1, _, a2⟩ := DataW.trod_int Tryz.underlying3 h0
      obtain ⟨k, b1, _, b2⟩ := DataW.trod_int Tryz.underlying3 h1
      obtain ⟨a, d1, _, d2⟩ := DataW.trod_int Tryz.underlying3 h2
      simp at a1 b1 d1
      subst a1 b1 d1
      exact ⟨⟨s, k, a⟩, rfl, a2, b2, d2⟩
theorem open_jobs {fuel : Nat} {cs : List Value} {y : DataW H × List MemPlace} (h : DataW.trod enc Tryz.prog w base spare held fuel 25 cs = some y) :
    ∃ v xs, cs = [v] ∧ RdK 3 jobC w (fun _ => True) v xs ∧ ∀ x ∈ xs, JobWf x :=
  rdK_of_slice (k := 3) (f := jobC) (Q := JobWf) Tryz.underlying25 (by kernel_rfl) (by decide) (fun _ => rfl) (fun n vs y hy => open_job hy) h
end
end Go.Proofs.YtogccnngdfancaaGreat
namespace Go.Proofs.YtogccnngdfancaaGreat
set_option linter.unusedVariables false
/-- The decimal digits of a number; none of 0. -/
def dec (n : Nat) : List UInt8 := if h : n = 0 then [] else dec (n / 10) ++ [UInt8.ofNat (48 + n % 10)]
termination_by n
decreasing_by omega
theorem dec_zero : dec 0 = [] := by rw [dec]; simp
theorem dec_pos {n : Nat} (h : n ≠ 0) : dec n = dec (n / 10) ++ [UInt8.ofNat (48 + n % 10)] := by rw [dec]; simp [h]
/-- So many digits. -/
def pad : Nat → Nat → List UInt8
  | 0, _ => []
  | k + 1, r => pad k (r / 10) ++ [UInt8.ofNat (48 + r % 10)]
theorem pad_length : ∀ (k r : Nat), (pad k r).length = k
  | 0, _ => rfl
  | k + 1, r => by rw [pad, List.length_append, pad_length k]; rfl
theorem dec_split : ∀ (k q r : Nat), q ≠ 0 → r < 10 ^ k → dec (q * 10 ^ k + r) = dec q ++ pad k r
  | 0, q, r, hq, hr => by
    have : r = 0 := by simpa using hr
    rw [this]; simp [pad]
  | k + 1, q, r, hq, hr => by
    have hp : 0 < 10 ^ k := Nat.pow_pos (by omega)
    have e : q * 10 ^ (k + 1) + r = (q * 10 ^ k) * 10 + r := by rw [Nat.pow_succ, Nat.mul_assoc]
    have hpos : 0 < q * 10 ^ k := Nat.mul_pos (by omega) hp
    rw [dec_pos (by omega), e, show ((q * 10 ^ k) * 10 + r) / 10 = q * 10 ^ k + r / 10 by omega, show ((q * 10 ^ k) * 10 + r) % 10 = r % 10 by omega,
      dec_split k q (r / 10) hq (by rw [Nat.pow_succ] at hr; omega), pad, List.append_assoc]
theorem pad_zero : ∀ k, pad k 0 = List.replicate k 48
  | 0 => rfl
  | k + 1 => by
    rw [pad, Nat.zero_div, pad_zero k, List.replicate_succ']
    rfl
theorem pad_dec : ∀ (k r : Nat), r < 10 ^ k → (dec r).length ≤ k ∧ pad k r = List.replicate (k - (dec r).length) 48 ++ dec r
  | 0, r, hr => by
    have : r = 0 := by simpa using hr
    rw [this, dec_zero]; simp [pad]
  | k + 1, r, hr => by
    by_cases h0 : r = 0
    · rw [h0, dec_zero, pad_zero]; simp
    · obtain ⟨h1, h2⟩ := pad_dec k (r / 10) (by rw [Nat.pow_succ] at hr; omega)
      rw [dec_pos h0, pad, h2, List.length_append]
      have e : k + 1 - ((dec (r / 10)).length + 1) = k - (dec (r / 10)).length := by omega
      constructor
      · simp; omega
      · rw [List.length_singleton, e, List.append_assoc]
theorem dec_ne {n : Nat} (h : n ≠ 0) : dec n ≠ [] := by rw [dec_pos h]; simp
/-- The decimal text. -/
def decS (n : Nat) : List UInt8 := if n = 0 then [48] else dec n
/-- The text of a fraction. -/
def ratS (x : Rat) : List UInt8 := (if x.num < 0 then [45] else []) ++ decS x.num.natAbs ++ (if x.den = 1 then [] else 47 :: decS x.den)
theorem dec_le (n : Nat) : ∀ k, n < 10 ^ k → (dec n).length ≤ k := fun k h => (pad_dec k n h).1
end Go.Proofs.YtogccnngdfancaaGreat
namespace Go.Proofs.YtogccnngdfancaaGreat
open Go.RowKit
set_option linter.unusedVariables false
set_option linter.unusedSimpArgs false
def u8V (k : Nat) : Value := .int .u8 (k : Int)
/-- Twenty bytes in a block of their own. -/
def BlkB (w : World) (g : Nat) (xs : List Nat) : Prop := w.heap[g]? = some (.cells (xs.map u8V).toArray 178 (0, 0))
theorem BlkB.cell {w : World} {g : Nat} {xs : List Nat} {i x : Nat} (h : BlkB w g xs) (hx : xs[i]? = some x) : w.cell? ⟨g, i, none⟩ = some (.int .u8 (x : Int)) := by
  rw [cell_of_row w g i _ 178 (0, 0) h, List.getElem?_toArray, List.getElem?_map, hx]; rfl
theorem BlkB.frozen {w : World} {g : Nat} {xs : List Nat} (h : BlkB w g xs) (i : Nat) : w.frozen? ⟨g, i, none⟩ = false := frozen_of_row w g i _ 178 h
theorem BlkB.set_ {w : World} {g : Nat} {xs : List Nat} (h : BlkB w g xs) (i y : Nat) : BlkB (w.setCell ⟨g, i, none⟩ (.int .u8 (y : Int))) g (xs.set i y) := by
  have := heap_setCell_same w g i _ 178 (.int .u8 (y : Int)) h
  unfold BlkB
  rw [this]
  congr 1
  rw [List.map_set, List.setIfInBounds_toArray]; rfl
set_option maxRecDepth 100000 in
set_option maxHeartbeats 4000000 in
theorem decimal_any (N : Nat) (w : World) (hN : N < 18446744073709551616) : Calls Tryz.prog 97 #[.int .u64 (N : Int)] w fun e w' => e = .returned (.string ⟨(dec N).toArray⟩) ∧ Below w.heap.size w w' := by
  have HN := Lib.hid hN
  have HB0 : Hid (BlkB (w.alloc (.cells ((List.replicate 20 0).map u8V).toArray 178)) w.heap.size (List.replicate 20 0)) := heap_alloc_new w _
  have HL20 : Hid ((dec N).length ≤ 20) := dec_le N 20 (Nat.lt_of_lt_of_le hN (by decide))
  clear hN
  go_enter Tryz.func97, Tryz.ntmps97
  go_wp2_with fail
  go_loopw [0, 4] (fun nv av wr => ∃ (n a : Nat) (L : List Nat), nv = .int .u64 (n : Int) ∧ av = .int .i64 (a : Int) ∧ a ≤ 20 ∧ n < 18446744073709551616 ∧ Hid (L.length = 20) ∧ Hid (∀ x ∈ L, x < 256) ∧ Hid (BlkB wr w.heap.size L) ∧ Hid (Below w.heap.size w wr) ∧ Hid (dec N = dec n ++ (L.drop a).map UInt8.ofNat)) (fun nv _ _ => (intOf nv).toNat)
  case atStart =>
    refine ⟨N, 20, List.replicate 20 0, rfl, rfl, Nat.le_refl _, HN.out, by show _ = _; simp, fun x hx => ?_, HB0, (Below.refl _ w).alloc (Nat.le_refl _) _, by show _ = _; simp⟩
    rw [List.eq_of_mem_replicate hx]; omega
  case round =>
    obtain ⟨n, a, L, rfl, rfl, ha, hn, HLL, HLX, HBW, HBEL, HD⟩ := hrel
    by_cases h0 : n = 0
    · have hD : dec N = (L.drop a).map UInt8.ofNat := by have := HD.out; rw [h0, dec_zero, List.nil_append] at this; exact this
      have hcells : ∀ j (hj : j < (dec N).length), wr.cell? ((⟨w.heap.size, a, none⟩ : Addr).add j) = some (.int .u8 ((dec N)[j].toNat : Int)) := fun j hj => by
        have hj2 : j < (L.drop a).length := by have := congrArg List.length hD; rw [List.length_map] at this; omega
        have hx : L[a + j]? = some ((L.drop a)[j]) := by rw [← List.getElem?_drop, List.getElem?_eq_getElem hj2]
        rw [addr_add, HBW.out.cell hx]
        have hlt := HLX.out ((L.drop a)[j]) (List.mem_of_mem_drop (List.getElem_mem hj2))
        congr 3
        have : (dec N)[j]? = some (UInt8.ofNat ((L.drop a)[j])) := by rw [hD, List.getElem?_map, List.getElem?_eq_getElem hj2]; rfl
        rw [List.getElem?_eq_getElem hj] at this
        rw [Option.some.inj this]
        have h9 : (UInt8.ofNat ((L.drop a)[j])).toNat = (L.drop a)[j] := by
          rw [UInt8.toNat_ofNat']; exact Nat.mod_eq_of_lt hlt
        rw [h9]
      have hlen : (dec N).length = 20 - a := by rw [hD, List.length_map, List.length_drop, HLL.out]
      have HCV := Lib.hid (run_convert_bytes_back (P := Tryz.prog) wr 128 9 5 ⟨w.heap.size, a, none⟩ (20 - a) (dec N) Tryz.underlying128 Tryz.underlying5 Tryz.underlying9 hcells)
      rw [hlen] at HCV
      have hcv := HCV.out
      have HLN := Lib.hid hlen
      clear HD hD hcells hlen
      subst h0
      have ha20 : (a : Int) ≤ 20 := by omega
      by_cases hA : a = 20
      · have hdn : dec N = [] := List.length_eq_zero_iff.1 (by have := HLN.out; omega)
        have HDN := Lib.hid hdn
        subst hA
        clear hcv HCV
        have hcv0 := run_convert_bytes_back (P := Tryz.prog) wr 128 9 5 ⟨w.heap.size, 0, none⟩ 0 [] Tryz.underlying128 Tryz.underlying5 Tryz.underlying9 (fun j hj => by simp at hj)
        rw [List.length_nil] at hcv0
        clear hdn
        go_wp2_with fail
        go_ret
        exact ⟨by rw [HDN.out]; rfl, HBEL.out⟩
      · have hA' : ¬ 20 = a := fun h => hA h.symm
        go_wp2_with fail
        go_ret
        exact ⟨rfl, HBEL.out⟩
    · have hap : 0 < a := by
        rcases Nat.eq_zero_or_pos a with h | h
        · have h1 := congrArg List.length HD.out
          have h2 := HL20.out
          rw [List.length_append, List.length_map, List.length_drop, HLL.out, h] at h1
          have h3 : 0 < (dec n).length := List.length_pos_iff.2 (dec_ne h0)
          omega
        · exact h
      obtain ⟨b, rfl⟩ : ∃ b, a = b + 1 := ⟨a - 1, by omega⟩
      obtain ⟨d, hd⟩ : ∃ d, d = n % 10 := ⟨_, rfl⟩
      obtain ⟨q, hq⟩ : ∃ q, q = n / 10 := ⟨_, rfl⟩
      have hx : L[b]? = some (L[b]'(by have := HLL.out; omega)) := List.getElem?_eq_getElem _
      have hcg := HBW.out.cell hx
      have hfg := HBW.out.frozen b
      have HD2 : Hid (dec N = dec q ++ ((L.set b (48 + d)).drop b).map UInt8.ofNat) := by
        show _ = _
        have hs : (L.set b (48 + d)).drop b = (48 + d) :: L.drop (b + 1) := by
          have h1 : (L.set b (48 + d))[b]? = some (48 + d) := List.getElem?_set_self (by have := HLL.out; omega)
          obtain ⟨hlt, hv⟩ := List.getElem?_eq_some_iff.1 h1
          rw [List.drop_eq_getElem_cons hlt, hv]
          congr 1
          rw [List.drop_set]; simp
        rw [hs, List.map_cons, HD.out, dec_pos h0, ← hd, ← hq, List.append_assoc]
        rfl
      have hdI : (n : Int) % 10 = (d : Int) := by omega
      have hqI : (n : Int) / 10 = (q : Int) := by omega
      have hd10 : d < 10 := by omega
      have hbi : ((b : Int) + 1 - 1) = (b : Int) := by omega
      have hw1 : IntKind.u64.wrap (48 + (d : Int)) = 48 + (d : Int) := by rw [show (48 : Int) + (d : Int) = ((48 + d : Nat) : Int) by omega]; exact wrap_nat _ (by omega)
      have hw8 : IntKind.u8.wrap (48 + (d : Int)) = 48 + (d : Int) := by rw [IntKind.wrap_u8]; omega
      have HQN : Hid (q < n) := by show _ < _; omega
      have hn0 : (0 : Int) < (n : Int) := by omega
      have hn0' : 0 < n := by omega
      have hb20 : (b : Int) < 20 := by omega
      clear hd hq hx hap HD
      go_wp2_with fail
      go_roundw
      case rel =>
        refine ⟨q, b, L.set b (48 + d), by first | rfl | exact val_int hqI, by go_num, by omega, by have := HQN.out; omega, by show _ = _; rw [List.length_set]; exact HLL.out, fun z hz => ?_, ?_, HBEL.out.setCell (Nat.le_refl _) _, HD2.out⟩
        · rcases List.mem_or_eq_of_mem_set hz with h | h
          · exact HLX.out z h
          · rw [h]; omega
        · exact HBW.out.set_ b (48 + d)
      case measure => have := HQN.out; simp [intOf]; omega
end Go.Proofs.YtogccnngdfancaaGreat
