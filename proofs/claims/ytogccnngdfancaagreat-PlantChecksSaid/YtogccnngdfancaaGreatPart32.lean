/- Walks of the reference's fractions: New and Of. Plain law and words of memory: lists of fractions; the sizes of their sums; the energy of a schedule. -/
import Derived.Test.YtogccnngdfancaaGreatPart31
import Derived.Test.YtogccnngdfancaaGreatPart12
import Derived.Test.YtogccnngdfancaaGreatPart25
namespace Go.Proofs.YtogccnngdfancaaGreat
open Go.RowKit
set_option linter.unusedVariables false
set_option linter.unusedSimpArgs false
/-- An integer of the reference: its parts. -/
def WholePost (n : Int) (w : World) (e : Ending) (w' : World) : Prop := ∃ A k c B k' c', e = .returned (.agg #[.bool (decide (n < 0)), .slice A k c, .slice B k' c']) ∧ RdM w' (.slice A k c) n.natAbs ∧ Below w.heap.size w w'
theorem rwhole_parts (n : Int) (w : World) (h1 : -9223372036854775808 ≤ n) (h2 : n ≤ 9223372036854775807) : Calls Tryz.prog 35 #[.int .i64 n] w fun e w' => WholePost n w e w' :=
  (rwhole_any n w h1 h2).mono fun e w' ⟨⟨v', h3, h4⟩, h5⟩ => by
    obtain ⟨A, k, c, B, k', c', rfl, g1, g2⟩ := h4.parts
    exact ⟨A, k, c, B, k', c', h3, g1, h5⟩
theorem zero_parts : (0 : Rat) = ((0 : Int) : Rat) := rfl
set_option maxRecDepth 100000 in
set_option maxHeartbeats 4000000 in
theorem rnew_any (n d : Int) (w : World) (h1 : -9223372036854775808 ≤ n) (h2 : n ≤ 9223372036854775807) (h3 : -9223372036854775808 ≤ d) (h4 : d ≤ 9223372036854775807) (hd : d ≠ 0) :
    Calls Tryz.prog 36 #[.int .i64 n, .int .i64 d] w fun e w' => (∃ v', e = .returned (.tuple #[v', .int .i64 0]) ∧ RdF w' v' (ratio n d)) ∧ Below w.heap.size w w' := by
  have hdb : (d == 0) = false := by simp [hd]
  have HO1 := Lib.hid (fun w' => rwhole_parts n w' h1 h2)
  have HO2 := Lib.hid (fun w' => rwhole_parts d w' h3 h4)
  have HRQ := ratio_signed n d hd
  obtain ⟨ng, hng⟩ : ∃ b, b = decide (n < 0) := ⟨_, rfl⟩
  obtain ⟨nh, hnh⟩ : ∃ b, b = decide (d < 0) := ⟨_, rfl⟩
  rw [← hng, ← hnh] at HRQ
  obtain ⟨nx, hnx⟩ : ∃ b, b = (ng != nh) := ⟨_, rfl⟩
  rw [← hnx] at HRQ
  have HFR : Hid (∀ v1 v2 w', RdM w' v1 n.natAbs → RdM w' v2 d.natAbs → Calls Tryz.prog 57 #[.bool nx, v1, v2] w' fun e w'' => (∃ v', e = .returned v' ∧ RdF w'' v' (ratio n d)) ∧ Below w'.heap.size w' w'') := fun v1 v2 w' g1 g2 => by
    have := rfrac_any nx v1 v2 n.natAbs d.natAbs w' g1 g2 (by omega) (Nat.le_trans (dm_word (by unfold B64; omega)) (by omega)) (Nat.le_trans (dm_word (by unfold B64; omega)) (by omega))
    rw [HRQ] at this
    exact this
  have HNG := Lib.hid hng
  have HNH := Lib.hid hnh
  have hnx' : (!(ng == nh)) = nx := hnx.symm
  obtain ⟨W1, hW1⟩ : ∃ W, W = w.alloc (.cells #[.bool false, .slice none 0 0, .slice none 0 0] 56) := ⟨_, rfl⟩
  have HW1 : Hid (Below w.heap.size w W1) := by rw [hW1]; exact (Below.refl _ w).alloc (Nat.le_refl _) _
  have HRS : Hid (∀ w', Below W1.heap.size W1 w' → _) := fun w' h => res3 (c0 := .bool false) (c1 := .slice none 0 0) (c2 := .slice none 0 0) (b := w.heap.size) (t := 56) (by rw [hW1]; exact heap_alloc_new w _) h
  have HSZ : Hid (w.heap.size < W1.heap.size) := by show _ < _; rw [hW1]; simp
  have HE := Lib.hid hW1
  clear hng hnh hnx hd hW1 HRQ
  go_enter Tryz.func36, Tryz.ntmps36
  go_wp2_with fail
  rw [← HE.out]
  refine (HO1.out _).mono ?_
  rintro e w3 ⟨A3, k3, c3, B3, m3, d3, rfl, hr3, hb3⟩
  rw [← HNG.out]
  have HR3 := Lib.hid hr3
  have HB3 := Lib.hid hb3
  clear hr3 hb3
  go_wp2_with fail
  refine (HO2.out _).mono ?_
  rintro e w4 ⟨A4, k4, c4, B4, m4, d4, rfl, hr4, hb4⟩
  rw [← HNH.out]
  have HR4 := Lib.hid hr4
  have HR34 := Lib.hid (HR3.out.below hb4)
  have HB4 : Hid (Below W1.heap.size W1 w4) := HB3.out.trans (hb4.mono HB3.out.size)
  clear hr4 hb4
  have hl4 : w.heap.size < w4.heap.size := by have := HB4.out.size; have := HSZ.out; omega
  go_wp2_with fail
  have HBA : Hid (Below w4.heap.size w4 ((w4.alloc (.cells #[.bool ng, .slice A3 k3 c3, .slice B3 m3 d3] 56)).alloc (.cells #[.bool nh, .slice A4 k4 c4, .slice B4 m4 d4] 56))) := ((Below.refl _ w4).alloc (Nat.le_refl _) _).alloc (by simp) _
  refine (HFR.out _ _ _ (HR34.out.below HBA.out) (HR4.out.below HBA.out)).mono ?_
  rintro e w5 ⟨⟨v5, rfl, hr5⟩, hb5⟩
  obtain ⟨A5, n5, c5, A6, n6, c6, rfl, hr6, hr7⟩ := hr5.parts
  have HR6 := Lib.hid hr6
  have HR7 := Lib.hid hr7
  have hbA5 : Below W1.heap.size W1 w5 := (HB4.out.trans (HBA.out.mono HB4.out.size)).trans (hb5.mono (Nat.le_trans HB4.out.size HBA.out.size))
  have HBW5 : Hid (Below w.heap.size w w5) := HW1.out.trans (hbA5.mono HW1.out.size)
  obtain ⟨q0, q1, q2, q3, q4, q5⟩ := HRS.out _ hbA5
  clear hr5 hr6 hr7 hb5 hbA5
  obtain ⟨dn, hdn⟩ : ∃ b, b = decide ((ratio n d).num < 0) := ⟨_, rfl⟩
  rw [← hdn]
  have HDN := Lib.hid hdn
  clear hdn
  go_wp2_with fail
  exact bodyPost_ret (v := .tuple #[.agg #[.bool dn, .slice A5 n5 c5, .slice A6 n6 c6], .int .i64 0]) (by simp [results, Tryz.results36, go_sem, q0, q1, q2]) rfl ⟨⟨_, rfl, _, _, by rw [HDN.out], HR6.out.set3 q0 q1 q2 _ _ _, HR7.out.set3 q0 q1 q2 _ _ _⟩, ((HBW5.out.setCell (by simp) _).setCell (by simp) _).setCell (by simp) _⟩
set_option maxRecDepth 100000 in
set_option maxHeartbeats 4000000 in
theorem rof_agg (n d : Int) (w : World) (h1 : -9223372036854775808 ≤ n) (h2 : n ≤ 9223372036854775807) (h3 : -9223372036854775808 ≤ d) (h4 : d ≤ 9223372036854775807) :
    Calls Tryz.prog 14 #[.agg #[.int .i64 n, .int .i64 d]] w fun e w' => (∃ v', e = .returned v' ∧ RdF w' v' (ofRatio n d)) ∧ Below w.heap.size w w' := by
  obtain ⟨W2, hW2⟩ : ∃ W2, W2 = (w.alloc (Obj.cells #[Value.int .i64 n, .int .i64 d] 28)).alloc (Obj.cells #[Value.bool false, Value.slice none 0 0, Value.slice none 0 0] 56) := ⟨_, rfl⟩
  have HB2 : Hid (Below w.heap.size w W2) := by rw [hW2]; exact ((Below.refl _ _).alloc (Nat.le_refl _) _).alloc (by simp) _
  have HRS : Hid (∀ w', Below W2.heap.size W2 w' → _) := fun w' h => res3 (c0 := .bool false) (c1 := .slice none 0 0) (c2 := .slice none 0 0) (b := w.heap.size + 1) (t := 56) (by rw [hW2]; have := heap_alloc_new (w.alloc (Obj.cells #[Value.int .i64 n, .int .i64 d] 28)) (.cells #[Value.bool false, Value.slice none 0 0, Value.slice none 0 0] 56); simpa using this) h
  have HW2 := Lib.hid hW2
  have HO1 := Lib.hid (fun w' => rwhole_any n w' h1 h2)
  clear hW2
  by_cases hd : d = 0
  · have hdb : (d == 0) = true := by simp [hd]
    have HE : Hid (ofRatio n d = (n : Rat)) := by show _ = _; unfold ofRatio; rw [if_pos hd]
    rw [HE.out]
    clear hd
    go_enter Tryz.func14, Tryz.ntmps14
    go_wp2_with fail
    rw [← HW2.out]
    refine (HO1.out _).mono ?_
    rintro e w3 ⟨⟨v3, rfl, hz3⟩, hb3⟩
    obtain ⟨A3, n3, c3, B3, m3, k3, rfl, hr3, hs3⟩ := hz3.parts
    obtain ⟨q0, q1, q2, q3, q4, q5⟩ := HRS.out _ hb3
    have HR3 := Lib.hid hr3
    have HS3 := Lib.hid hs3
    have hbw : Below w.heap.size w w3 := HB2.out.trans (hb3.mono HB2.out.size)
    have HBW := Lib.hid hbw
    clear hr3 hs3 hb3 hbw hz3
    go_wp2_with fail
    exact bodyPost_ret (v := .agg #[.bool (decide ((n : Rat).num < 0)), .slice A3 n3 c3, .slice B3 m3 k3]) (by simp [results, Tryz.results14, go_sem, q0, q1, q2]) rfl ⟨⟨_, rfl, _, _, rfl, HR3.out.set3 q0 q1 q2 _ _ _, HS3.out.set3 q0 q1 q2 _ _ _⟩, ((HBW.out.setCell (by simp <;> omega) _).setCell (by simp <;> omega) _).setCell (by simp <;> omega) _⟩
  · have hdb : (d == 0) = false := by simp [hd]
    have HE : Hid (ofRatio n d = ratio n d) := by show _ = _; unfold ofRatio; rw [if_neg hd]
    rw [HE.out]
    have HO2 := Lib.hid (fun w' => rnew_any n d w' h1 h2 h3 h4 hd)
    clear hd
    go_enter Tryz.func14, Tryz.ntmps14
    go_wp2_with fail
    rw [← HW2.out]
    refine (HO2.out _).mono ?_
    rintro e w3 ⟨⟨v3, rfl, hz3⟩, hb3⟩
    obtain ⟨A3, n3, c3, B3, m3, k3, rfl, hr3, hs3⟩ := hz3.parts
    obtain ⟨W4, hW4⟩ : ∃ W4, W4 = w3.alloc (Obj.cells #[Value.bool (decide ((ratio n d).num < 0)), .slice A3 n3 c3, .slice B3 m3 k3] 56) := ⟨_, rfl⟩
    have hb4 : Below W2.heap.size W2 W4 := by rw [hW4]; exact hb3.alloc hb3.size _
    obtain ⟨q0, q1, q2, q3, q4, q5⟩ := HRS.out _ hb4
    have HR3 : Hid (RdM W4 (.slice A3 n3 c3) (ratio n d).num.natAbs) := by rw [hW4]; exact hr3.below ((Below.refl _ _).alloc (Nat.le_refl _) _)
    have HS3 : Hid (RdM W4 (.slice B3 m3 k3) (ratio n d).den) := by rw [hW4]; exact hs3.below ((Below.refl _ _).alloc (Nat.le_refl _) _)
    have HBW : Hid (Below w.heap.size w W4) := HB2.out.trans (hb4.mono HB2.out.size)
    rw [hW4] at q0 q1 q2 q3 q4 q5 HR3 HS3 HBW
    clear hr3 hs3 hb3 hb4 hW4 hz3
    go_wp2_with fail
    exact bodyPost_ret (v := .agg #[.bool (decide ((ratio n d).num < 0)), .slice A3 n3 c3, .slice B3 m3 k3]) (by simp [results, Tryz.results14, go_sem, q0, q1, q2]) rfl ⟨⟨_, rfl, _, _, rfl, HR3.out.set3 q0 q1 q2 _ _ _, HS3.out.set3 q0 q1 q2 _ _ _⟩, ((HBW.out.setCell (by simp <;> omega) _).setCell (by simp <;> omega) _).setCell (by simp <;> omega) _⟩
end Go.Proofs.YtogccnngdfancaaGreat
namespace Go.Proofs.YtogccnngdfancaaGreat
open Go.RowKit
set_option linter.unusedVariables false
/-- The cells of a fraction in a slice. -/
def ratC (c : Bool × Value × Value) : List Value := [.bool c.1, c.2.1, c.2.2]
theorem ratC_len (c : Bool × Value × Value) : (ratC c).length = 3 := rfl
theorem ratC_0 (c : Bool × Value × Value) : ∃ u, (ratC c)[0]? = some u := ⟨_, rfl⟩
def aggC (c : Bool × Value × Value) : Value := .agg #[.bool c.1, c.2.1, c.2.2]
/-- A slice of the program's fractions. -/
def RdQs (w : World) (T : Nat → Prop) (v : Value) (qs : List Rat) : Prop :=
  ∃ cs, RdK 3 ratC w T v cs ∧ cs.length = qs.length ∧ ∀ (i : Nat) c q, cs[i]? = some c → qs[i]? = some q → RdQ w (aggC c) q
/-- A slice of the reference's fractions. -/
def RdFs (w : World) (T : Nat → Prop) (v : Value) (qs : List Rat) : Prop :=
  ∃ cs, RdK 3 ratC w T v cs ∧ cs.length = qs.length ∧ ∀ (i : Nat) c q, cs[i]? = some c → qs[i]? = some q → RdF w (aggC c) q
theorem RdQs.below {w w' : World} {T : Nat → Prop} {v : Value} {qs : List Rat} (h : RdQs w T v qs) (hb : Below w.heap.size w w') : RdQs w' T v qs :=
  let ⟨cs, h1, h2, h3⟩ := h; ⟨cs, h1.below ratC_0 hb, h2, fun i c q hc hq => (h3 i c q hc hq).below hb⟩
theorem RdFs.below {w w' : World} {T : Nat → Prop} {v : Value} {qs : List Rat} (h : RdFs w T v qs) (hb : Below w.heap.size w w') : RdFs w' T v qs :=
  let ⟨cs, h1, h2, h3⟩ := h; ⟨cs, h1.below ratC_0 hb, h2, fun i c q hc hq => (h3 i c q hc hq).below hb⟩
/-- A fraction of the program in a block of its own, with its sign's, numerator's and denominator's cells. -/
structure CellQ (w : World) (b : Nat) (t : Nat) (s : Bool) (A : Option Addr) (k c : Nat) (B : Option Addr) (k' c' : Nat) (x : Rat) : Prop where
  blk : w.heap[b]? = some (.cells #[.bool s, .slice A k c, .slice B k' c'] t (0, 0))
  rd : RdQ w (.agg #[.bool s, .slice A k c, .slice B k' c']) x
structure CellF (w : World) (b : Nat) (t : Nat) (s : Bool) (A : Option Addr) (k c : Nat) (B : Option Addr) (k' c' : Nat) (x : Rat) : Prop where
  blk : w.heap[b]? = some (.cells #[.bool s, .slice A k c, .slice B k' c'] t (0, 0))
  rd : RdF w (.agg #[.bool s, .slice A k c, .slice B k' c']) x
theorem set3_blk {w : World} {b t : Nat} {c0 c1 c2 : Value} (h : w.heap[b]? = some (.cells #[c0, c1, c2] t (0, 0))) (u0 u1 u2 : Value) :
    (((w.setCell ⟨b, 0, none⟩ u0).setCell ⟨b, 1, none⟩ u1).setCell ⟨b, 2, none⟩ u2).heap[b]? = some (.cells #[u0, u1, u2] t (0, 0)) := by
  have h0 := heap_setCell_same w b 0 _ t u0 h
  have h1 := heap_setCell_same _ b 1 _ t u1 h0
  have h2 := heap_setCell_same _ b 2 _ t u2 h1
  simpa using h2
theorem RdQ.set3 {w : World} {v : Value} {x : Rat} (h : RdQ w v x) {b : Nat} {c0 : Bool} {A A' : Option Addr} {m c m' c' : Nat} (h0 : w.cell? ⟨b, 0, none⟩ = some (.bool c0)) (h1 : w.cell? ⟨b, 1, none⟩ = some (.slice A m c)) (h2 : w.cell? ⟨b, 2, none⟩ = some (.slice A' m' c')) (u0 u1 u2 : Value) :
    RdQ (((w.setCell ⟨b, 0, none⟩ u0).setCell ⟨b, 1, none⟩ u1).setCell ⟨b, 2, none⟩ u2) v x :=
  let ⟨a, d, e, h3, h4⟩ := h; ⟨a, d, e, h3.set3 h0 h1 h2 _ _ _, h4.set3 h0 h1 h2 _ _ _⟩
theorem RdF.set3 {w : World} {v : Value} {x : Rat} (h : RdF w v x) {b : Nat} {c0 : Bool} {A A' : Option Addr} {m c m' c' : Nat} (h0 : w.cell? ⟨b, 0, none⟩ = some (.bool c0)) (h1 : w.cell? ⟨b, 1, none⟩ = some (.slice A m c)) (h2 : w.cell? ⟨b, 2, none⟩ = some (.slice A' m' c')) (u0 u1 u2 : Value) :
    RdF (((w.setCell ⟨b, 0, none⟩ u0).setCell ⟨b, 1, none⟩ u1).setCell ⟨b, 2, none⟩ u2) v x :=
  let ⟨a, d, e, h3, h4⟩ := h; ⟨a, d, e, RdM.set3 h3 h0 h1 h2 _ _ _, RdM.set3 h4 h0 h1 h2 _ _ _⟩
/-- The sizes of a sum. -/
theorem QS.mono {a b : Nat} {x : Rat} (h : QS a x) (hab : a ≤ b) : QS b x := ⟨Nat.le_trans h.1 hab, Nat.le_trans h.2 hab⟩
theorem QS.add {a b : Nat} {x y : Rat} (h : QS a x) (k : QS b y) : QS (a + b + 1) (x + y) := by
  have hxd := x.den_nz
  have hyd := y.den_nz
  have hz : x.den * y.den ≠ 0 := Nat.mul_ne_zero hxd hyd
  rw [Rat.add_def' x y]
  obtain ⟨_, h2, h3⟩ := mk_parts (z := x.num * y.den + y.num * x.den) hz
  refine ⟨?_, ?_⟩
  · rw [h2]
    refine Nat.le_trans (dl_mono (Nat.div_le_self _ _)) (Nat.le_trans (dl_two _ _) ?_)
    have e1 := dl_imul x.num y.den
    have e2 := dl_imul y.num x.den
    have := h.1; have := h.2; have := k.1; have := k.2
    omega
  · rw [h3]
    refine Nat.le_trans (dl_mono (Nat.div_le_self _ _)) (Nat.le_trans (dl_mul _ _) ?_)
    have := h.2; have := k.2
    omega
theorem QS.qm {a : Nat} {x : Rat} (h : QS a x) : QM (2 * a) x := ⟨Nat.le_trans (dm_dl _) (by have := h.1; omega), Nat.le_trans (dm_dl _) (by have := h.2; omega)⟩
/-- The energy that a job adds. -/
def qAt (qs : List Rat) (k : Int) : Rat := (qs[k.toNat]?).getD 0
open Classical in
noncomputable def enF (qs : List Rat) (ch : Rat) (l : List JobD) (j : JobD) : Rat := qAt qs j.kind + (if Turns l j then ch else 0)
def enErr (d : WorksD) (l : List JobD) (n : Nat) : Int := if chkE d l ≠ 0 then chkE d l else if n ≠ d.cure.length then 4 else 0
noncomputable def enSum (d : WorksD) (l : List JobD) (qs : List Rat) (ch : Rat) : Rat := if enErr d l qs.length = 0 then eSum (enF qs ch l) l else 0
theorem eSum_snoc (f : JobD → Rat) (l : List JobD) (x : JobD) : eSum f (l ++ [x]) = eSum f l + f x := by
  unfold eSum; rw [List.foldl_append]; rfl
theorem eSum_take {f : JobD → Rat} {l : List JobD} {i : Nat} {x : JobD} (h : l[i]? = some x) : eSum f (l.take (i + 1)) = eSum f (l.take i) + f x := by
  rw [take_snoc? h, eSum_snoc]
theorem enF_perm {l s : List JobD} (h : s.Perm l) (qs : List Rat) (ch : Rat) : enF qs ch s = enF qs ch l := by
  funext j; unfold enF
  by_cases ht : Turns l j
  · rw [if_pos ht, if_pos ((turns_perm h j).2 ht)]
  · rw [if_neg ht, if_neg (fun h' => ht ((turns_perm h j).1 h'))]
end Go.Proofs.YtogccnngdfancaaGreat
