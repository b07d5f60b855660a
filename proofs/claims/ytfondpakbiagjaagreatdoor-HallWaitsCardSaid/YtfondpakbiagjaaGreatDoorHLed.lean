/- The walk of perform: tyres are led on, or not. -/
import Derived.Test.YtfondpakbiagjaaGreatDoorHPer
namespace Go.Proofs.YtfondpakbiagjaaGreatDoor
open Go.RowKit Go.Lib
set_option linter.unusedVariables false
set_option linter.unusedSimpArgs false
set_option maxRecDepth 100000
set_option maxHeartbeats 4000000
def Strict (T : List TyD) : Prop := ∀ (j k : Nat) p q, j < k → T[j]? = some p → T[k]? = some q → p.id < q.id
theorem Strict.sort {T : List TyD} (h : Strict T) : SortT T := fun j k p q hjk hp hq => by
  rcases Nat.lt_or_ge j k with h1 | h1
  · exact Int.le_of_lt (h j k p q h1 hp hq)
  · obtain rfl : j = k := by omega
    rw [hp] at hq; injection hq with hq; rw [hq]; exact Int.le_refl _
theorem Strict.at {T : List TyD} (h : Strict T) {id : Int} {i j : Nat} {p : TyD} (hp : Pos T id i) (hj : T[j]? = some p) (hid : p.id = id) : i = j := by
  rcases Nat.lt_trichotomy i j with h1 | h1 | h1
  · have hjl := (List.getElem?_eq_some_iff.1 hj).1
    have hi : T[i]? = some T[i] := List.getElem?_eq_getElem (by omega)
    have := h i j _ p h1 hi hj
    have := hp.hi i _ (Nat.le_refl _) hi
    omega
  · exact h1
  · have := hp.lo j p h1 hj; omega
/-- The tyres from f on, k of them, have the state s now. -/
def led (f : Int) (k : Nat) (s : Int) (T : List TyD) : List TyD := T.map fun p => if f ≤ p.id ∧ p.id < f + k then ⟨p.id, s⟩ else p
theorem led_len (f : Int) (k : Nat) (s : Int) (T : List TyD) : (led f k s T).length = T.length := by simp [led]
theorem led_zero (f s : Int) (T : List TyD) : led f 0 s T = T := by
  unfold led
  have : (fun p : TyD => if f ≤ p.id ∧ p.id < f + ((0 : Nat) : Int) then (⟨p.id, s⟩ : TyD) else p) = id := funext fun p => by
    rw [if_neg (by omega)]; rfl
  rw [this, List.map_id]
theorem led_at {f s : Int} {k i : Nat} {T : List TyD} {p : TyD} (h : T[i]? = some p) (hid : p.id = f + k) : (led f k s T)[i]? = some p := by
  unfold led
  rw [List.getElem?_map, h, Option.map_some, if_neg (by omega)]
theorem led_succ {f s : Int} {k i : Nat} {T : List TyD} {p : TyD} (hT : Strict T) (h : T[i]? = some p) (hid : p.id = f + k) : (led f k s T).set i ⟨p.id, s⟩ = led f (k + 1) s T := by
  apply List.ext_getElem?
  intro j
  have hil := (List.getElem?_eq_some_iff.1 h).1
  by_cases hj : i = j
  · subst hj
    rw [List.getElem?_set_self (by rw [led_len]; exact hil)]
    unfold led
    rw [List.getElem?_map, h, Option.map_some, if_pos (by omega)]
  · rw [List.getElem?_set_ne hj]
    unfold led
    rw [List.getElem?_map, List.getElem?_map]
    cases hq : T[j]? with
    | none => rfl
    | some q =>
      simp only [Option.map_some]
      have hne : q.id ≠ f + k := by
        rcases Nat.lt_or_ge i j with h1 | h1
        · have := hT i j p q h1 h hq; omega
        · have := hT j i q p (by omega) hq h; omega
      by_cases hc : f ≤ q.id ∧ q.id < f + k
      · rw [if_pos hc, if_pos (by omega)]
      · rw [if_neg hc, if_neg (by omega)]
theorem flat_set : ∀ {X : List TyD} {i : Nat} {p : TyD} (s : Int), X[i]? = some p → (X.flatMap tyC).set (i * 18 + 1) (.int .i64 s) = (X.set i ⟨p.id, s⟩).flatMap tyC
  | [], i, p, s, h => by simp at h
  | q :: X, 0, p, s, h => by
    obtain rfl : q = p := by simpa using h
    rfl
  | q :: X, i + 1, p, s, h => by
    have hl := tyC_len q
    rw [List.set_cons_succ, List.flatMap_cons, List.flatMap_cons, ← flat_set (X := X) (i := i) (p := p) s (by simpa using h)]
    rw [List.set_append_right _ _ (by omega), hl, show (i + 1) * 18 + 1 - 18 = i * 18 + 1 by omega]
theorem OwnTy.cell {w : World} {B g n cap : Nat} {X : List TyD} (h : OwnTy w B (.slice (some ⟨g, 0, none⟩) n cap) X) {i : Nat} {p : TyD} (hp : X[i]? = some p) : w.cell? ⟨g, i * 18 + 1, none⟩ = some (.int .i64 p.st) := by
  obtain ⟨A, c, e⟩ := h.slice
  simp only [Value.slice.injEq] at e
  have hn := e.2.1
  have hil := (List.getElem?_eq_some_iff.1 hp).1
  unfold OwnTy at h
  rw [← hn] at h
  rw [World.ownsRow.cellAt h (i * 18 + 1) (by omega)]
  exact flat_at tyC_len X i p hp 1 _ rfl
theorem OwnTy.free {w : World} {B g n cap : Nat} {X : List TyD} (h : OwnTy w B (.slice (some ⟨g, 0, none⟩) n cap) X) (j : Nat) : w.frozen? ⟨g, j, none⟩ = false := by
  obtain ⟨A, c, e⟩ := h.slice
  simp only [Value.slice.injEq] at e
  unfold OwnTy at h
  rw [← e.2.1] at h
  exact World.ownsRow.frozenAt h j
theorem OwnTy.set {w : World} {B g n cap : Nat} {X : List TyD} (h : OwnTy w B (.slice (some ⟨g, 0, none⟩) n cap) X) {i : Nat} {p : TyD} (hp : X[i]? = some p) (s : Int) : OwnTy (w.setCell ⟨g, i * 18 + 1, none⟩ (.int .i64 s)) B (.slice (some ⟨g, 0, none⟩) n cap) (X.set i ⟨p.id, s⟩) := by
  obtain ⟨A, c, e⟩ := h.slice
  simp only [Value.slice.injEq] at e
  have hn := e.2.1
  unfold OwnTy at h ⊢
  rw [← hn] at h
  rw [List.length_set, ← hn, ← flat_set s hp]
  exact (World.ownsRow.stored h (i * 18 + 1) (.int .i64 s)).1
theorem OwnTy.form {w : World} {B : Nat} {v : Value} {X : List TyD} (h : OwnTy w B v X) (hX : X ≠ []) : ∃ g n c, v = .slice (some ⟨g, 0, none⟩) n c ∧ B ≤ g ∧ g < w.heap.size ∧ n = X.length := by
  rcases h.2 with ⟨h', h2⟩ | ⟨g', cap', cur, h', hb, hg, _⟩
  · exact absurd (List.length_eq_zero_iff.1 h2) hX
  · exact ⟨g', _, cap', h', hb, blk_lt hg, rfl⟩
def actC (a : ActD) (t : ByteArray) : List Value := [.int .i64 a.kind, .int .i64 a.from_, .int .i64 a.to_, .int .i64 a.n, .string t, .slice none 0 0]
theorem perform_led (fc : FuncId) (s0 s1 : Int) (hb : Nat) (tv jv : Value) (T : List TyD) (J : List Int) (a : ActD) (t : ByteArray) (w : World) (h : HallIs w hb tv jv T J) (hst : Strict T) (hf : FitsD a) (hk1 : a.kind ≠ 1) (hk2 : a.kind ≠ 2) (hkw : (Lit.int .i64 a.kind).wf = true)
    (hat : chD.atKey (.int .i64 a.kind) (.lit (.bool false)) = .lit (.int .i64 (fc : Nat))) (hhas : Maps.has chD (.int .i64 a.kind) = true) (hex : ∀ id, a.from_ ≤ id → id ≤ a.to_ → ∃ (i : Nat) (p : TyD), T[i]? = some p ∧ p.id = id ∧ p.st = s0)
    (hcf : ∀ (args : Array Value) (w : World), (callFunc fc args).run Tryz.prog w = .ok (.enter fc args) w)
    (hfc : ∀ (p : Value) (b o : Nat) (w : World), w.cell? ⟨b, o + 1, none⟩ = some (.int .i64 s0) → w.frozen? ⟨b, o + 1, none⟩ = false → Calls Tryz.prog fc #[p, actV a t, .pointer (some ⟨b, o, none⟩)] w fun e w' => e = .returned (.int .i64 0) ∧ ∃ w1, Below w.heap.size w w1 ∧ w' = w1.setCell ⟨b, o + 1, none⟩ (.int .i64 s1))
    (hl : T.length ≤ 12) :
    Calls Tryz.prog 107 #[.pointer (some ⟨hb, 0, none⟩), actV a t] w fun e w' => e = .returned (.int .i64 0) ∧ (∃ tv', HallIs w' hb tv' jv (led a.from_ ((a.to_ - a.from_).toNat + 1) s1 T) J) ∧ w.grownBy w' (some hb) := by
  obtain ⟨kd, f, u, n⟩ := a
  have hff := hf
  obtain ⟨f1, f2, f3, f4, k6, k4⟩ := hf
  replace f1 : 1 ≤ f := f1
  replace f2 : f ≤ u := f2
  replace f3 : u - f < 64 := f3
  replace f4 : u ≤ 1000000 := f4
  replace hk1 : kd ≠ 1 := hk1
  replace hk2 : kd ≠ 2 := hk2
  replace hat : chD.atKey (.int .i64 kd) (.lit (.bool false)) = .lit (.int .i64 (fc : Nat)) := hat
  replace hhas : Maps.has chD (.int .i64 kd) = true := hhas
  replace hkw : (Lit.int .i64 kd).wf = true := hkw
  have HAT := Lib.hid hat
  have HHAS := Lib.hid hhas
  have HKW := Lib.hid hkw
  have HFC := Lib.hid hfc
  have HCF := Lib.hid hcf
  have HEX : Hid (∀ id, f ≤ id → id ≤ u → ∃ (i : Nat) (p : TyD), T[i]? = some p ∧ p.id = id ∧ p.st = s0) := hex
  have hkb1 : (kd == 1) = false := beq_false_of_ne hk1
  have hkb2 : (kd == 2) = false := beq_false_of_ne hk2
  clear hcf hat hhas hkw hfc hex hk1 hk2
  dsimp only
  obtain ⟨m, hm⟩ : ∃ m, m = (u - f).toNat := ⟨_, rfl⟩
  have HM2 := Lib.hid hm
  have HMU : Hid (u = f + (m : Int)) := by show _ = _; omega
  rw [← hm]
  have HL := Lib.hid hl
  clear hm
  obtain ⟨W1, HW1, HB1, HS1, j1⟩ := st_al0 w #[.int .i64 kd, .int .i64 f, .int .i64 u, .int .i64 n, .string t, .slice none 0 0] 154
  have HH := Lib.hid h
  have HJ := Lib.hid j1
  have HC : Hid (∀ W, Below W1.heap.size W1 W → W.cell? ⟨w.heap.size, 0, none⟩ = some (.int .i64 kd)) := fun W hW => kC (kB HB1 hW) 0 rfl
  have c0 := kC HB1 0 rfl
  have HF := Lib.hid (fun W => fits_ok ⟨kd, f, u, n⟩ t W hff)
  have HST := Lib.hid hst
  clear h hst hff k6 k4 j1
  show Calls _ _ #[_, .agg #[.int .i64 kd, .int .i64 f, .int .i64 u, .int .i64 n, .string t, .slice none 0 0]] _ _
  go_enter Tryz.func107, Tryz.ntmps107
  go_wp2_with fail
  rw [← HW1.out]
  go_wp2_with fail
  refine seq_start (S := fun w' => w'.cell? ⟨w.heap.size, 0, none⟩ = some (.int .i64 kd)) (by kernel_rfl) (by kernel_rfl) (by exact c0) ?_
  repeat (first | refine tk0 (h := ?_) | refine tkG (h := ?_) | refine skG (h := ?_))
  repeat (refine seq_swap ?_; first | refine tk0 (h := ?_) | refine tkG (h := ?_) | refine skG (h := ?_))
  refine sop (h := fun K9 hK9 => ?_)
  go_simp
  refine (changes_any _).mono ?_
  rintro e w2 ⟨rfl, hm, j2⟩
  have J2 : Hid (Below W1.heap.size W1 w2) := ((Below.refl _ W1).drew).trans j2
  refine ckk hK9 (HC.out _ J2.out) (h := ?_)
  clear hK9 K9 j2
  replace hm : w2.ownsMap Tryz.prog 3 fnR W1.heap.size 8 chD := hm
  have hlk := look_at hm kd fc HKW.out HAT.out HHAS.out
  clear hm
  repeat (first | refine tk0 (h := ?_) | refine tkG (h := ?_) | refine skG (h := ?_))
  refine sop (h := fun K9 hK9 => ?_)
  go_simp
  refine ckk hK9 (HC.out _ J2.out) (h := ?_)
  clear hK9 K9
  repeat (first | refine tk0 (h := ?_) | refine tkG (h := ?_) | refine skG (h := ?_))
  refine seq_done (by kernel_rfl) ?_
  clear hlk
  replace HB1 := kB HB1 J2.out
  replace HJ := kU HJ J2.out
  clear c0 HC HS1 J2 HW1
  have c0 := kC HB1 0 rfl
  have c1 := kC HB1 1 rfl
  have c2 := kC HB1 2 rfl
  have c3 := kC HB1 3 rfl
  have c4 := kC HB1 4 rfl
  have c5 := kC HB1 5 rfl
  go_wp2_with fail
  refine (HF.out _).mono ?_
  rintro e w3 ⟨rfl, j3⟩
  replace HB1 := kB HB1 j3
  replace HJ := kU HJ j3
  have HH3 := Lib.hid (HH.out.stay HJ.out)
  have d1 := kC (cs := [.slice none 0 0, tv, jv]) (Lib.hid HH3.out.blk) 1 rfl
  clear c0 c1 c2 c3 c4 c5 j3 HF
  have HL2 := klt HB1
  obtain ⟨A0, cap0, e0, -, -⟩ := HH.out.ty.at
  have HCL := Lib.hid (cloneT_own tv T w3 HH3.out.ty (by omega))
  rw [e0] at d1 HCL
  go_wp2_with fail
  refine HCL.out.mono ?_
  rintro e w4 ⟨⟨v', rfl, hv'⟩, j4⟩
  replace HB1 := kB HB1 j4
  replace HJ := kU HJ j4
  have HO : Hid (OwnTy w4 w3.heap.size v' T) := hv'
  obtain ⟨B, hB⟩ : ∃ B, B = w3.heap.size := ⟨_, rfl⟩
  rw [← hB] at HO
  have HL3 : Hid (w.heap.size < B ∧ B ≤ w4.heap.size) := ⟨by rw [hB]; exact HL2.out, by rw [hB]; exact j4.size⟩
  clear j4 d1 HH3 HCL hv' HL2 hB
  have c1 := kC HB1 1 rfl
  obtain ⟨g, nn, cap4, rfl, hBg, hgw, hnn⟩ := HO.out.form (fun e => by obtain ⟨i, p, hp, -⟩ := HEX.out f (Int.le_refl _) (by have := HMU.out; omega); rw [e] at hp; simp at hp)
  have HNN := Lib.hid hnn
  have HG : Hid (B ≤ g) := hBg
  clear hBg hgw hnn
  go_wp2_with fail
  go_loopw [10, 11] (fun tvv iv wr => ∃ (k : Nat), k ≤ m + 1 ∧ iv = .int .i64 (f + (k : Int)) ∧ tvv = .slice (some ⟨g, 0, none⟩) nn cap4 ∧ Hid (OwnTy wr B (.slice (some ⟨g, 0, none⟩) nn cap4) (led f k s1 T)) ∧ Hid (Below w.heap.size w wr) ∧ Hid (wr.heap[w.heap.size]? = some (.cells #[.int .i64 kd, .int .i64 f, .int .i64 u, .int .i64 n, .string t, .slice none 0 0] 154 (0, 0))) ∧ Hid (B ≤ wr.heap.size)) (fun _ iv _ => (u + 1 - RowKit.intOf iv).toNat)
  case atStart => exact ⟨0, Nat.zero_le _, by simp, rfl, by show OwnTy _ _ _ _; rw [led_zero]; exact HO.out, HJ.out, HB1.out, HL3.out.2⟩
  case round =>
    clear HO HJ HB1 c1
    obtain ⟨k, hk, rfl, rfl, HO, HJ, HB1, HBS⟩ := hrel
    have c0 := kC HB1 0 rfl
    have c2 := kC HB1 2 rfl
    by_cases hlt : k ≤ m
    · have hle : f + (k : Int) ≤ u := by have := HMU.out; omega
      have HFI := Lib.hid (find_any hb tv jv T J (f + k) wr (HH.out.stay HJ.out) HST.out.sort (by omega))
      obtain ⟨i, p, hp, hpi, hps⟩ := HEX.out (f + k) (by omega) hle
      have HP := Lib.hid hp
      have HPI := Lib.hid hpi
      have HPS := Lib.hid hps
      have hil : i < nn := by rw [HNN.out]; exact (List.getElem?_eq_some_iff.1 hp).1
      clear hp hpi hps
      go_wp2_with fail
      refine HFI.out.mono ?_
      rintro e w5 ⟨⟨i', rfl, hpos⟩, j5⟩
      obtain rfl : i' = i := HST.out.at hpos HP.out HPI.out
      rw [show hasAt T (f + k) i' = true from decide_eq_true ⟨p, HP.out, HPI.out⟩]
      replace HO : Hid (OwnTy w5 B (.slice (some ⟨g, 0, none⟩) nn cap4) (led f k s1 T)) := HO.out.stay j5
      replace HB1 := kB HB1 j5
      replace HJ := kU HJ j5
      replace HBS : Hid (B ≤ w5.heap.size) := Nat.le_trans HBS.out j5.size
      have HPL := Lib.hid (led_at (s := s1) HP.out HPI.out)
      have HC2 : Hid (w5.cell? ⟨g, i' * 18 + 1, none⟩ = some (.int .i64 s0) ∧ w5.frozen? ⟨g, i' * 18 + 1, none⟩ = false) := ⟨by rw [HO.out.cell HPL.out, HPS.out], HO.out.free _⟩
      have hi1 : (i' : Int) < (nn : Int) := by omega
      have hi0 : (0 : Int) ≤ (i' : Int) := by omega
      clear j5 HFI c0 c2 hpos
      go_wp2_with fail
      refine seq_start (S := fun w' => Hid (w'.heap[w.heap.size]? = some (.cells #[.int .i64 kd, .int .i64 f, .int .i64 u, .int .i64 n, .string t, .slice none 0 0] 154 (0, 0)))) (by kernel_rfl) (by kernel_rfl) (by exact HB1) ?_
      repeat (first | refine tk0 (h := ?_) | refine tkG (h := ?_) | refine skG (h := ?_))
      refine tkMh 154 _ w.heap.size 0 [.int .i64 kd, .int .i64 f, .int .i64 u, .int .i64 n, .string t, .slice none 0 0] _ (fun w' h => blk_all h.out) Tryz.underlying154 rfl (by kernel_rfl) (h := ?_)
      repeat (first | refine tk0 (h := ?_) | refine tkG (h := ?_) | refine skG (h := ?_))
      refine sop (h := fun K9 hK9 => ?_)
      have hcf := HCF.out
      go_simp
      clear hcf
      refine (HFC.out _ g (i' * 18) w5.drew HC2.out.1 HC2.out.2).mono ?_
      rintro e w7 ⟨rfl, w6, j6, rfl⟩
      have j6' : Below w5.heap.size w5 w6 := ((Below.refl _ w5).drew).trans j6
      have HLB : Hid (w.heap.size < B) := HL3.out.1
      have HGE : Hid (w.heap.size < g) := Nat.lt_of_lt_of_le HLB.out HG.out
      replace HO : Hid (OwnTy (w6.setCell ⟨g, i' * 18 + 1, none⟩ (.int .i64 s1)) B (.slice (some ⟨g, 0, none⟩) nn cap4) (led f (k + 1) s1 T)) := by
        have := (HO.out.stay j6').set HPL.out s1
        rwa [led_succ HST.out HP.out HPI.out] at this
      replace HJ : Hid (Below w.heap.size w (w6.setCell ⟨g, i' * 18 + 1, none⟩ (.int .i64 s1))) := ((kU HJ j6').out).setCell (by exact Nat.le_of_lt HGE.out) _
      replace HB1 : Hid ((w6.setCell ⟨g, i' * 18 + 1, none⟩ (.int .i64 s1)).heap[w.heap.size]? = _) := blk_other _ (kB HB1 j6').out (Nat.ne_of_lt HGE.out)
      replace HBS : Hid (B ≤ (w6.setCell ⟨g, i' * 18 + 1, none⟩ (.int .i64 s1)).heap.size) := by show _ ≤ _; have := j6'.size; have := HBS.out; simp; omega
      refine ckk hK9 HB1 (h := ?_)
      clear hK9 K9 j6 j6'
      obtain ⟨w7, hw7⟩ : ∃ w7, w7 = w6.setCell ⟨g, i' * 18 + 1, none⟩ (.int .i64 s1) := ⟨_, rfl⟩
      rw [← hw7] at HO HJ HB1 HBS ⊢
      clear hw7
      repeat (first | refine tk0 (h := ?_) | refine tkG (h := ?_) | refine skG (h := ?_))
      refine seq_done (by kernel_rfl) ?_
      go_wp2_with fail
      go_roundw
      case rel => exact ⟨k + 1, by omega, by congr 1; omega, rfl, HO.out, HJ.out, HB1.out, HBS.out⟩
      case measure => have := HMU.out; simp [RowKit.intOf]; omega
    · obtain rfl : k = m + 1 := by omega
      have hle : ¬ f + ((m + 1 : Nat) : Int) ≤ u := by have := HMU.out; omega
      obtain ⟨X, hX⟩ : ∃ X, X = led f (m + 1) s1 T := ⟨_, rfl⟩
      rw [← hX] at HO
      have HX := Lib.hid hX
      have HXN : Hid (nn = X.length) := by show _ = _; rw [hX, led_len]; exact HNN.out
      clear hX
      have HXL : Hid (X.length ≤ 12) := by show _ ≤ _; rw [HX.out, led_len]; exact HL.out
      have hx2 : ¬ 256 < (nn : Int) := by have := HXL.out; have := HXN.out; omega
      have HSX : Hid (SortT X) := by
        show SortT X
        rw [HX.out]
        intro j k p q hjk hp hq
        unfold led at hp hq
        rw [List.getElem?_map] at hp hq
        obtain ⟨p', hp', rfl⟩ := Option.map_eq_some_iff.1 hp
        obtain ⟨q', hq', rfl⟩ := Option.map_eq_some_iff.1 hq
        have := HST.out.sort j k p' q' hjk hp' hq'
        split <;> split <;> exact this
      have HSO := Lib.hid (sortSorted_any (.slice (some ⟨g, 0, none⟩) nn cap4) X wr HO.out.rd HSX.out HXL.out)
      go_wp2_with fail
      refine HSO.out.mono ?_
      rintro e w7 ⟨⟨v7, rfl⟩, j7⟩
      replace HO : Hid (OwnTy w7 B (.slice (some ⟨g, 0, none⟩) nn cap4) X) := HO.out.stay j7
      replace HJ := kU HJ j7
      have HHB : Hid (hb < w.heap.size) := blk_lt HH.out.blk
      have HBK := Lib.hid (blk_below HH.out.blk HJ.out)
      have d1 := kC (cs := [.slice none 0 0, tv, jv]) HBK 1 rfl
      have d2 := kF HBK 1
      clear j7 HSO c0 c2
      go_wp2_with fail
      go_ret
      exact ⟨rfl, ⟨_, by rw [← HX.out]; exact HH.out.take HJ.out HO.out (Nat.le_of_lt HL3.out.1)⟩, grown_set HJ.out⟩
end Go.Proofs.YtfondpakbiagjaaGreatDoor
