/- The walk of BuildSequences. -/
import Derived.Test.YtodckaioeomccaaGreatPart35
import Derived.Test.YtodckaioeomccaaGreatPart47
namespace Go.Proofs.YtodckaioeomccaaGreat
open Go.RowKit
set_option linter.unusedVariables false
set_option linter.unusedSimpArgs false
def sqE (l : List Int) : Int := if pitchE l ≠ 0 then pitchE l else if 50000 < arrR (atL l) l.length then 9 else 0
def sqL (l : List Int) : List Int := if pitchE l ≠ 0 then [] else if 50000 < arrR (atL l) l.length then [] else bestA l (arrN l - 1)
def sqN (l : List Int) : Int := if pitchE l ≠ 0 then 0 else if 50000 < arrR (atL l) l.length then 0 else noiseL (bestA l (arrN l - 1))
def sqB (l : List Int) : Int := if pitchE l ≠ 0 then 0 else if 50000 < arrR (atL l) l.length then 0 else boundL l
theorem seqU {l : List Int} {w w' : World} {e : Ending} (h : SeqPost l w e w') : (∃ vp, e = .returned (.tuple #[patV vp (sqN l) (sqB l), .int .i64 (sqE l)]) ∧ RdL w' vp (sqL l)) ∧ Below w.heap.size w w' := by
  unfold SeqPost at h
  rw [cnt_eq] at h
  unfold sqE sqL sqN sqB
  by_cases h1 : pitchE l ≠ 0
  · rw [if_pos h1] at h
    simp only [if_pos h1]
    exact ⟨⟨_, h.1, Rd.none_ _ _ _⟩, h.2⟩
  · rw [if_neg h1] at h
    simp only [if_neg h1]
    by_cases h2 : 50000 < arrR (atL l) l.length
    · rw [if_pos h2] at h
      simp only [if_pos h2]
      exact ⟨⟨_, h.1, Rd.none_ _ _ _⟩, h.2⟩
    · rw [if_neg h2] at h
      simp only [if_neg h2]
      obtain ⟨⟨v', h3, h4⟩, h5⟩ := h
      exact ⟨⟨v', h3, h4.rd⟩, h5⟩
theorem rseqU {l : List Int} {w w' : World} {e : Ending} (h : RSeqPost l w e w') : (∃ vq, e = .returned (.tuple #[vq, .int .i64 (sqN l), .int .i64 (sqB l), .int .i64 (sqE l)]) ∧ RdL w' vq (sqL l)) ∧ Below w.heap.size w w' := by
  unfold RSeqPost at h
  unfold sqE sqL sqN sqB
  by_cases h1 : pitchE l ≠ 0
  · rw [if_pos h1] at h
    simp only [if_pos h1]
    exact ⟨⟨_, h.1, Rd.none_ _ _ _⟩, h.2⟩
  · rw [if_neg h1] at h
    simp only [if_neg h1]
    by_cases h2 : 50000 < arrR (atL l) l.length
    · rw [if_pos h2] at h
      simp only [if_pos h2]
      exact ⟨⟨_, h.1, Rd.none_ _ _ _⟩, h.2⟩
    · rw [if_neg h2] at h
      simp only [if_neg h2]
      exact h
set_option maxRecDepth 100000 in
set_option maxHeartbeats 2000000 in
theorem buildSequences_any (v : Value) (l : List Int) (w : World) (h : RdL w v l) :
    Calls Tryz.prog 4 #[v] w fun e w' => e = .returned (.bool true) ∧ Below w.heap.size w w' := by
  have HV := Lib.hid h
  have HS : Hid (∀ w', RdL w' v l → Calls Tryz.prog 24 #[v] w' fun e w'' => (∃ vp, e = .returned (.tuple #[patV vp (sqN l) (sqB l), .int .i64 (sqE l)]) ∧ RdL w'' vp (sqL l)) ∧ Below w'.heap.size w' w'') := fun w' h' => (sequence_any v l w' h').mono fun _ _ => seqU
  have HR : Hid (∀ w', RdL w' v l → Calls Tryz.prog 25 #[v] w' fun e w'' => (∃ vp, e = .returned (.tuple #[vp, .int .i64 (sqN l), .int .i64 (sqB l), .int .i64 (sqE l)]) ∧ RdL w'' vp (sqL l)) ∧ Below w'.heap.size w' w'') := fun w' h' => (rseq_any v l w' h').mono fun _ _ => rseqU
  obtain ⟨A, n, cap, rfl, hn, hcap, hmax, hcm, hc⟩ := h.open_
  obtain ⟨E, hE⟩ : ∃ z, z = sqE l := ⟨_, rfl⟩
  obtain ⟨N, hN⟩ : ∃ z, z = sqN l := ⟨_, rfl⟩
  obtain ⟨B, hB⟩ : ∃ z, z = sqB l := ⟨_, rfl⟩
  obtain ⟨L, hL⟩ : ∃ z, z = sqL l := ⟨_, rfl⟩
  rw [← hE, ← hN, ← hB, ← hL] at HS HR
  clear h hn hcm hc hE hN hB hL
  by_cases h40 : 40 < n
  · have hb : (40 : Int) < (n : Int) := by omega
    go_enter Tryz.func4, Tryz.ntmps4
    go_wp2_with fail
    refine (awake_any _).mono ?_
    rintro e w1 ⟨rfl, hbx⟩
    have HB1 := Lib.hid hbx
    clear hbx
    go_wp2_with fail
    go_ret
    exact ⟨rfl, HB1.out⟩
  · have hb : ¬ (40 : Int) < (n : Int) := by omega
    go_enter Tryz.func4, Tryz.ntmps4
    go_wp2_with fail
    refine (HS.out _ HV.out).mono ?_
    rintro e w1 ⟨⟨vp, rfl, hr⟩, hbx⟩
    obtain ⟨Ap, np, cp, rfl, -⟩ := hr.open_
    have HP := Lib.hid hr
    have HB1 := Lib.hid hbx
    clear hr hbx HS
    unfold patV
    obtain ⟨W2, HW2, HBX, HSZ2, hbx⟩ := st_al0 w1 #[.slice Ap np cp, .int .i64 N, .int .i64 B] 52
    replace HP := Lib.hid (HP.out.below hbx)
    replace HB1 := kU HB1 hbx
    clear hbx
    go_wp2_with fail
    rw [← HW2.out]
    refine (HR.out _ (HV.out.below HB1.out)).mono ?_
    rintro e w3 ⟨⟨vq, rfl, hr⟩, hbx⟩
    obtain ⟨Aq, nq, cq, rfl, -⟩ := hr.open_
    have HQ := Lib.hid hr
    replace HP := Lib.hid (HP.out.below hbx)
    replace HBX := kB HBX hbx
    replace HB1 := kU HB1 hbx
    clear hr hbx HR HW2
    have HEQ := Lib.hid (equal_any _ _ L L w3 HP.out HQ.out)
    rw [decide_eq_true (rfl : L = L)] at HEQ
    have c0 := kC HBX 0 rfl
    go_wp2_with fail
    clear c0
    refine HEQ.out.mono ?_
    rintro e w4 ⟨rfl, hbx⟩
    replace HBX := kB HBX hbx
    replace HB1 := kU HB1 hbx
    clear hbx
    have c1 := kC HBX 1 rfl
    have c2 := kC HBX 2 rfl
    go_wp2_with fail
    clear c1 c2
    refine (awake_any _).mono ?_
    rintro e w5 ⟨rfl, hbx⟩
    replace HB1 := kU HB1 hbx
    clear hbx
    go_wp2_with fail
    go_ret
    exact ⟨rfl, HB1.out⟩
end Go.Proofs.YtodckaioeomccaaGreat
