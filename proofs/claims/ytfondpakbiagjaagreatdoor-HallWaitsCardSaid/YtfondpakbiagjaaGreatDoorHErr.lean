/- The walk of perform: a tyre that cannot be led on. -/
import Derived.Test.YtfondpakbiagjaaGreatDoorHLed
namespace Go.Proofs.YtfondpakbiagjaaGreatDoor
open Go.RowKit Go.Lib
set_option linter.unusedVariables false
set_option linter.unusedSimpArgs false
set_option maxRecDepth 100000
set_option maxHeartbeats 4000000
theorem perform_err (fc : FuncId) (er : Int) (hb : Nat) (tv jv : Value) (T : List TyD) (J : List Int) (a : ActD) (t : ByteArray) (w : World) (h : HallIs w hb tv jv T J) (hst : Strict T) (hf : FitsD a) (hk1 : a.kind ≠ 1) (hk2 : a.kind ≠ 2) (hkw : (Lit.int .i64 a.kind).wf = true)
    (hat : chD.atKey (.int .i64 a.kind) (.lit (.bool false)) = .lit (.int .i64 (fc : Nat))) (hhas : Maps.has chD (.int .i64 a.kind) = true) (i0 : Nat) (p0 : TyD) (hex : T[i0]? = some p0 ∧ p0.id = a.from_) (her : er ≠ 0)
    (hcf : ∀ (args : Array Value) (w : World), (callFunc fc args).run Tryz.prog w = .ok (.enter fc args) w)
    (hfc : ∀ (p : Value) (b o : Nat) (w : World), w.cell? ⟨b, o + 1, none⟩ = some (.int .i64 p0.st) → Calls Tryz.prog fc #[p, actV a t, .pointer (some ⟨b, o, none⟩)] w fun e w' => e = .returned (.int .i64 er) ∧ Below w.heap.size w w')
    (hl : T.length ≤ 12) :
    Calls Tryz.prog 107 #[.pointer (some ⟨hb, 0, none⟩), actV a t] w fun e w' => e = .returned (.int .i64 er) ∧ Below w.heap.size w w' := by
  obtain ⟨kd, f, u, n⟩ := a
  have hff := hf
  obtain ⟨f1, f2, f3, f4, k6, k4⟩ := hf
  replace f1 : 1 ≤ f := f1
  replace f2 : f ≤ u := f2
  replace f3 : u - f < 64 := f3
  replace f4 : u ≤ 1000000 := f4
  replace hk1 : kd ≠ 1 := hk1
  replace hk2 : kd ≠ 2 := hk2
  replace hat : chD.atKey (.int .i64 kd) (.lit (.bool false)) = .lit (.int .i64 (fc : Nat)) := hat
  replace hhas : Maps.has chD (.int .i64 kd) = true := hhas
  replace hkw : (Lit.int .i64 kd).wf = true := hkw
  have HAT := Lib.hid hat
  have HHAS := Lib.hid hhas
  have HKW := Lib.hid hkw
  have HFC := Lib.hid hfc
  have HCF := Lib.hid hcf
  have HEX : Hid (T[i0]? = some p0 ∧ p0.id = f) := hex
  have heb : (er == 0) = false := beq_false_of_ne her
  have hkb1 : (kd == 1) = false := beq_false_of_ne hk1
  have hkb2 : (kd == 2) = false := beq_false_of_ne hk2
  clear her hcf hat hhas hkw hfc hex hk1 hk2
  obtain ⟨m, hm⟩ : ∃ m, m = (u - f).toNat := ⟨_, rfl⟩
  have HM2 := Lib.hid hm
  have HMU : Hid (u = f + (m : Int)) := by show _ = _; omega
  have HL := Lib.hid hl
  clear hm
  obtain ⟨W1, HW1, HB1, HS1, j1⟩ := st_al0 w #[.int .i64 kd, .int .i64 f, .int .i64 u, .int .i64 n, .string t, .slice none 0 0] 154
  have HH := Lib.hid h
  have HJ := Lib.hid j1
  have HC : Hid (∀ W, Below W1.heap.size W1 W → W.cell? ⟨w.heap.size, 0, none⟩ = some (.int .i64 kd)) := fun W hW => kC (kB HB1 hW) 0 rfl
  have c0 := kC HB1 0 rfl
  have HF := Lib.hid (fun W => fits_ok ⟨kd, f, u, n⟩ t W hff)
  have HST := Lib.hid hst
  clear h hst hff k6 k4 j1
  show Calls _ _ #[_, .agg #[.int .i64 kd, .int .i64 f, .int .i64 u, .int .i64 n, .string t, .slice none 0 0]] _ _
  go_enter Tryz.func107, Tryz.ntmps107
  go_wp2_with fail
  rw [← HW1.out]
  go_wp2_with fail
  refine seq_start (S := fun w' => w'.cell? ⟨w.heap.size, 0, none⟩ = some (.int .i64 kd)) (by kernel_rfl) (by kernel_rfl) (by exact c0) ?_
  repeat (first | refine tk0 (h := ?_) | refine tkG (h := ?_) | refine skG (h := ?_))
  repeat (refine seq_swap ?_; first | refine tk0 (h := ?_) | refine tkG (h := ?_) | refine skG (h := ?_))
  refine sop (h := fun K9 hK9 => ?_)
  go_simp
  refine (changes_any _).mono ?_
  rintro e w2 ⟨rfl, hm, j2⟩
  have J2 : Hid (Below W1.heap.size W1 w2) := ((Below.refl _ W1).drew).trans j2
  refine ckk hK9 (HC.out _ J2.out) (h := ?_)
  clear hK9 K9 j2
  replace hm : w2.ownsMap Tryz.prog 3 fnR W1.heap.size 8 chD := hm
  have hlk := look_at hm kd fc HKW.out HAT.out HHAS.out
  clear hm
  repeat (first | refine tk0 (h := ?_) | refine tkG (h := ?_) | refine skG (h := ?_))
  refine sop (h := fun K9 hK9 => ?_)
  go_simp
  refine ckk hK9 (HC.out _ J2.out) (h := ?_)
  clear hK9 K9
  repeat (first | refine tk0 (h := ?_) | refine tkG (h := ?_) | refine skG (h := ?_))
  refine seq_done (by kernel_rfl) ?_
  clear hlk
  replace HB1 := kB HB1 J2.out
  replace HJ := kU HJ J2.out
  clear c0 HC HS1 J2 HW1
  have c0 := kC HB1 0 rfl
  have c1 := kC HB1 1 rfl
  have c2 := kC HB1 2 rfl
  have c3 := kC HB1 3 rfl
  have c4 := kC HB1 4 rfl
  have c5 := kC HB1 5 rfl
  go_wp2_with fail
  refine (HF.out _).mono ?_
  rintro e w3 ⟨rfl, j3⟩
  replace HB1 := kB HB1 j3
  replace HJ := kU HJ j3
  have HH3 := Lib.hid (HH.out.stay HJ.out)
  have d1 := kC (cs := [.slice none 0 0, tv, jv]) (Lib.hid HH3.out.blk) 1 rfl
  clear c0 c1 c2 c3 c4 c5 j3 HF
  have HL2 := klt HB1
  obtain ⟨A0, cap0, e0, -, -⟩ := HH.out.ty.at
  have HCL := Lib.hid (cloneT_own tv T w3 HH3.out.ty (by omega))
  rw [e0] at d1 HCL
  go_wp2_with fail
  refine HCL.out.mono ?_
  rintro e w4 ⟨⟨v', rfl, hv'⟩, j4⟩
  replace HB1 := kB HB1 j4
  replace HJ := kU HJ j4
  have HO : Hid (OwnTy w4 w3.heap.size v' T) := hv'
  obtain ⟨B, hB⟩ : ∃ B, B = w3.heap.size := ⟨_, rfl⟩
  rw [← hB] at HO
  have HL3 : Hid (w.heap.size < B ∧ B ≤ w4.heap.size) := ⟨by rw [hB]; exact HL2.out, by rw [hB]; exact j4.size⟩
  clear j4 d1 HH3 HCL hv' HL2 hB
  have c1 := kC HB1 1 rfl
  obtain ⟨g, nn, cap4, rfl, hBg, hgw, hnn⟩ := HO.out.form (fun e => by have hp := HEX.out.1; rw [e] at hp; simp at hp)
  have HNN := Lib.hid hnn
  have HG : Hid (B ≤ g) := hBg
  clear hBg hgw hnn
  go_wp2_with fail
  have HHJ : Hid (Below w.heap.size w w4) := HJ.out
  go_loopw [10, 11] (fun tvv iv wr => iv = .int .i64 f ∧ tvv = .slice (some ⟨g, 0, none⟩) nn cap4 ∧ wr = w4) (fun _ iv _ => (0 : Nat))
  case atStart => exact ⟨rfl, rfl, rfl⟩
  case round =>
    obtain ⟨rfl, rfl, hwr⟩ := hrel
    obtain rfl := hwr.symm
    clear hwr c1
    have c0 := kC HB1 0 rfl
    have c2 := kC HB1 2 rfl
    have hle : f ≤ u := by have := HMU.out; omega
    have HFI := Lib.hid (find_any hb tv jv T J f w4 (HH.out.stay HJ.out) HST.out.sort (by omega))
    have hil : i0 < nn := by rw [HNN.out]; exact (List.getElem?_eq_some_iff.1 HEX.out.1).1
    go_wp2_with fail
    refine HFI.out.mono ?_
    rintro e w5 ⟨⟨i', rfl, hpos⟩, j5⟩
    obtain rfl : i' = i0 := HST.out.at hpos HEX.out.1 HEX.out.2
    rw [show hasAt T f i' = true from decide_eq_true ⟨p0, HEX.out.1, HEX.out.2⟩]
    replace HO : Hid (OwnTy w5 B (.slice (some ⟨g, 0, none⟩) nn cap4) T) := HO.out.stay j5
    replace HB1 := kB HB1 j5
    replace HJ := kU HJ j5
    have HC2 : Hid (w5.cell? ⟨g, i' * 18 + 1, none⟩ = some (.int .i64 p0.st)) := HO.out.cell HEX.out.1
    have hi1 : (i' : Int) < (nn : Int) := by omega
    have hi0 : (0 : Int) ≤ (i' : Int) := by omega
    clear j5 HFI c0 c2 hpos HHJ
    go_wp2_with fail
    refine seq_start (S := fun w' => Hid (w'.heap[w.heap.size]? = some (.cells #[.int .i64 kd, .int .i64 f, .int .i64 u, .int .i64 n, .string t, .slice none 0 0] 154 (0, 0)))) (by kernel_rfl) (by kernel_rfl) (by exact HB1) ?_
    repeat (first | refine tk0 (h := ?_) | refine tkG (h := ?_) | refine skG (h := ?_))
    refine tkMh 154 _ w.heap.size 0 [.int .i64 kd, .int .i64 f, .int .i64 u, .int .i64 n, .string t, .slice none 0 0] _ (fun w' h => blk_all h.out) Tryz.underlying154 rfl (by kernel_rfl) (h := ?_)
    repeat (first | refine tk0 (h := ?_) | refine tkG (h := ?_) | refine skG (h := ?_))
    refine sop (h := fun K9 hK9 => ?_)
    have hcf := HCF.out
    go_simp
    clear hcf
    refine (HFC.out _ g (i' * 18) w5.drew HC2.out).mono ?_
    rintro e w7 ⟨rfl, j6⟩
    have j6' : Below w5.heap.size w5 w7 := ((Below.refl _ w5).drew).trans j6
    replace HJ := kU HJ j6'
    replace HB1 := kB HB1 j6'
    refine ckk hK9 HB1 (h := ?_)
    clear hK9 K9 j6 j6'
    repeat (first | refine tk0 (h := ?_) | refine tkG (h := ?_) | refine skG (h := ?_))
    refine seq_done (by kernel_rfl) ?_
    go_wp2_with fail
    go_ret
    exact ⟨rfl, HJ.out⟩
end Go.Proofs.YtfondpakbiagjaaGreatDoor
