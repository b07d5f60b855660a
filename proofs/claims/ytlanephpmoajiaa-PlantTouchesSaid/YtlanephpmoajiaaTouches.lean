/- The walk of the statement PlantTouches. -/
import Derived.Test.YtlanephpmoajiaaRecPl
import Derived.Test.YtlanephpmoajiaaLeads
import Derived.Test.YtlanephpmoajiaaRefTo2
import Derived.Test.YtlanephpmoajiaaOpenF
namespace Go.Proofs.Ytlanephpmoajiaa
open Go.RowKit
set_option linter.unusedVariables false
set_option linter.unusedSimpArgs false
/-- A list and an error, of one's own. -/
def RetL (w : World) (err : Int) (L : List ByteArray) (e : Ending) (w' : World) : Prop := ∃ v, e = .returned (.tuple #[v, .int .i64 err]) ∧ Rd .string w' (fun _ => True) v L ∧ Below w.heap.size w w'
theorem retL_touched {w w' : World} {xs : List ItemD} {f : FaultD} {e : Ending} (h : TouchedNames w xs f e w') : RetL w (faultErr xs f) (touchedL xs f) e w' := by
  obtain ⟨⟨v, he, hr⟩, hb⟩ := h; exact ⟨v, he, hr.mono fun _ _ => trivial, hb⟩
def recallL (xs : List ItemD) (l : List FaultD) : List ByteArray := if recallErr xs l = 0 then namesOf xs (recMs xs l) else []
theorem retL_recall {w w' : World} {xs : List ItemD} {l : List FaultD} {e : Ending} (h : RecallPost w xs l e w') : RetL w (recallErr xs l) (recallL xs l) e w' := by
  obtain ⟨v, he, hr, hb⟩ := h; exact ⟨v, he, hr.mono fun _ _ => trivial, hb⟩
theorem retL_trail {w w' : World} {xs : List ItemD} {f : FaultD} {nm : ByteArray} {e : Ending} (h : TrailPost w xs f nm e w') : RetL w (trailErr xs f nm) (trailL xs f nm) e w' := by
  obtain ⟨v, he, hr, hb⟩ := h; exact ⟨v, he, hr.mono fun _ _ => trivial, hb⟩
theorem alike_same (v u : Value) (L : List ByteArray) (S T : Nat → Prop) (w : World) (h1 : Rd .string w S v L) (h2 : Rd .string w T u L) : Calls Try.prog 24 #[v, u] w fun e w' => e = .returned (.bool true) ∧ Below w.heap.size w w' :=
  (alike_any v u L L S T w h1 h2).mono fun e w' ⟨he, hb⟩ => ⟨by rw [he]; simp, hb⟩
theorem below_late {w u u' : World} (h : Below w.heap.size w u) (h' : Below u.heap.size u u') : Below w.heap.size w u' := h.trans (h'.mono h.size)
set_option maxRecDepth 100000 in
set_option maxHeartbeats 4000000 in
theorem touches_any (v0 : Value) (xs : List ItemD) (vf : Value) (fs : List FaultD) (vw : Value) (ws : List ByteArray) (nm : ByteArray) (w : World) (hv : RdI w (fun _ => True) v0 xs) (hw : ∀ x ∈ xs, ItemWf x) (hf : RdK 3 ftC w (fun _ => True) vf fs) (hff : ∀ f ∈ fs, FaultWf f) (hway : Rd .string w (fun _ => True) vw ws) (hws : ∀ s ∈ ws, s.size ≤ maxLen) (hnm : nm.size ≤ maxLen) :
    Calls Try.prog 12 #[v0, vf, vw, .string nm] w fun e w' => e = .returned (.bool true) ∧ Below w.heap.size w w' := by
  have HV := Lib.hid hv
  have HW := Lib.hid hw
  have HFV := Lib.hid hf
  have HFF := Lib.hid hff
  have HWV := Lib.hid hway
  have HWS := Lib.hid hws
  obtain ⟨A, n, cap, rfl, -⟩ := hv.open_
  obtain ⟨Af, nf, capf, rfl, hnf, -⟩ := hf.open_
  obtain ⟨Aw, m, capw, rfl, hm, -⟩ := hway.open_
  have HNF := Lib.hid hnf
  have HM := Lib.hid hm
  clear hv hw hf hff hway hws hnf hm
  by_cases hc1 : 12 < nf
  · have hi1 : (12 : Int) < (nf : Int) := by omega
    go_enter Try.func12, Try.ntmps12
    go_wp2_with fail
    refine (few_any _ xs _ w HV.out).mono ?_
    rintro e w2 ⟨b, rfl, -, hb2⟩
    have HB2 := Lib.hid hb2
    clear hb2
    cases b
    all_goals
      go_wp2_with (go_at_call 16; refine (awake_any _).mono ?_; rintro e w3 ⟨rfl, hb3⟩)
      go_ret
      exact ⟨rfl, below_late HB2.out hb3⟩
  by_cases hc2 : 20 < m
  · have hi1 : ¬ ((12 : Int) < (nf : Int)) := by omega
    have hi2 : (20 : Int) < (m : Int) := by omega
    go_enter Try.func12, Try.ntmps12
    go_wp2_with fail
    refine (few_any _ xs _ w HV.out).mono ?_
    rintro e w2 ⟨b, rfl, -, hb2⟩
    have HB2 := Lib.hid hb2
    clear hb2
    cases b
    all_goals
      go_wp2_with (go_at_call 16; refine (awake_any _).mono ?_; rintro e w3 ⟨rfl, hb3⟩)
      go_ret
      exact ⟨rfl, below_late HB2.out hb3⟩
  have hi1 : ¬ ((12 : Int) < (nf : Int)) := by omega
  have hi2 : ¬ ((20 : Int) < (m : Int)) := by omega
  have hnf12 : nf ≤ 12 := by omega
  have hm20 : m ≤ 20 := by omega
  clear hc1 hc2
  go_enter Try.func12, Try.ntmps12
  go_wp2_with fail
  refine (few_any _ xs _ w HV.out).mono ?_
  rintro e w2 ⟨b, rfl, hfew, hb2⟩
  have HB2 := Lib.hid hb2
  clear hb2
  cases b with
  | false =>
    clear hfew
    go_wp2_with (go_at_call 16; refine (awake_any _).mono ?_; rintro e w3 ⟨rfl, hb3⟩)
    go_ret
    exact ⟨rfl, below_late HB2.out hb3⟩
  | true =>
    have HF := Lib.hid (hfew rfl)
    clear hfew
    go_wp2_with fail
    refine (books_any _ xs _ w2 (HV.out.below HB2.out) HF.out).mono ?_
    rintro e w3 ⟨p, bv, rfl, F, hbk, hrd, hb3⟩
    have hok := entAll_ok HF.out.each HW.out
    have huq := entAll_uq xs
    have hlen : (entAll xs).length ≤ 24 := by have := entAll_len xs; have := HF.out.len; omega
    obtain ⟨acc, hacc⟩ : ∃ acc, acc = entAll xs := ⟨_, rfl⟩
    rw [← hacc] at hbk hrd hok huq hlen
    have HB3 := Lib.hid (below_late HB2.out hb3)
    have HBK := Lib.hid hbk
    have HRD := Lib.hid hrd
    have HOK := Lib.hid hok
    have HUQ := Lib.hid huq
    have hl1024 : acc.length ≤ 1024 := by omega
    clear hbk hrd hok huq hacc hb3
    go_wp2_with fail
    refine (faults_any _ fs _ w3 (HFV.out.below ftC_0 HB3.out) (by have := HNF.out; omega)).mono ?_
    rintro e w4 ⟨va, vb, rfl, hra, hrb, hb4⟩
    have HB4 := Lib.hid (below_late HB3.out hb4)
    have HBK4 := Lib.hid (HBK.out.below hb4)
    have HRD4 := Lib.hid (HRD.out.below hb4)
    have HSZ : Hid (∀ f ∈ fs, f.item.size ≤ maxLen) := fun f hf => (HFF.out f hf).item
    have C1 := Lib.hid (fun w' (h : Below w4.heap.size w4 w') => (Recall_any p _ F acc va fs _ w' (HBK4.out.below h) HOK.out.found hl1024 (hra.below ftC_0 h) HSZ.out).mono fun _ _ h => retL_recall h)
    have C2 := Lib.hid (fun w' (h : Below w4.heap.size w4 w') => (refRecall_any bv acc vb fs _ _ w' (HRD4.out.below h) HUQ.out hl1024 (hrb.below ftC_0 h)).mono fun _ _ h => retL_recall h)
    have C3 := Lib.hid (fun f (hf : f ∈ fs) w' (h : Below w4.heap.size w4 w') => (Touched_any p _ F acc f w' (HBK4.out.below h) HOK.out.found hl1024 (HSZ.out f hf)).mono fun _ _ h => retL_touched h)
    have C4 := Lib.hid (fun f w' (h : Below w4.heap.size w4 w') => (refTouched_any bv acc f _ w' (HRD4.out.below h) HUQ.out hl1024).mono fun _ _ h => retL_touched h)
    have C5 := Lib.hid (fun f (hf : f ∈ fs) w' (h : Below w4.heap.size w4 w') => leads_any p _ F (.slice Aw m capw) acc f ws _ w' (HBK4.out.below h) (HWV.out.below (below_late HB4.out h)) hl1024 (by have := HM.out; omega) (HSZ.out f hf) HWS.out)
    have C6 := Lib.hid (fun f v L (hL : L.length ≤ 100) w' (h : Below w4.heap.size w4 w') S (hr : Rd .string w' S v L) => refLeads_any bv v acc f L _ S w' (HRD4.out.below h) hr hl1024 hL)
    have C7 := Lib.hid (fun f (hf : f ∈ fs) w' (h : Below w4.heap.size w4 w') => (trail_any p _ F acc f nm w' (HBK4.out.below h) HOK.out.found HUQ.out hlen (HSZ.out f hf) hnm).mono fun _ _ h => retL_trail h)
    have C8 := Lib.hid (fun w' (h : Below w4.heap.size w4 w') => HWV.out.below (below_late HB4.out h))
    obtain ⟨Aa, na, ca, rfl, hna, hca, hma, hca2⟩ := (hra.lt ftC_0).open_
    obtain ⟨Ab, nb, cb, rfl, hnb, hcb, hmb, hcb2⟩ := (hrb.lt ftC_0).open_
    obtain rfl : na = nf := by have := HNF.out; omega
    obtain rfl : nb = na := by have := HNF.out; omega
    have HCA := Lib.hid hca2
    have HCB := Lib.hid hcb2
    have hr0 := int_cases (recallErr acc fs)
    obtain ⟨re, hre⟩ : ∃ re, re = recallErr acc fs := ⟨_, rfl⟩
    obtain ⟨RL, hRL⟩ : ∃ RL, RL = recallL acc fs := ⟨_, rfl⟩
    rw [← hre, ← hRL] at C1 C2
    clear hra hrb hb4 hna hnb hca2 hcb2 hr0 hre hRL
    go_wp2_with fail
    refine (C1.out w4 (Below.refl _ _)).mono ?_
    rintro e w5 ⟨v5, rfl, hr5, hb5⟩
    have HR5 := Lib.hid hr5
    have HB5 := Lib.hid hb5
    clear hr5 hb5
    go_wp2_with fail
    refine (C2.out w5 HB5.out).mono ?_
    rintro e w6 ⟨v6, rfl, hr6, hb6⟩
    have HAL := Lib.hid (alike_same v5 v6 RL _ _ w6 (HR5.out.below hb6) hr6)
    have HB6 : Hid (Below w4.heap.size w4 w6) := HB5.out.trans (hb6.mono HB5.out.size)
    have hne : (re != re) = false := by simp
    clear hr6 hb6
    go_wp2_with fail
    refine HAL.out.mono ?_
    rintro e w7 ⟨rfl, hb7⟩
    have HB7 : Hid (Below w4.heap.size w4 w7) := HB6.out.trans (hb7.mono HB6.out.size)
    clear hb7 hne
    go_wp2_with fail
    go_loopw [77] (fun iv wr => ∃ k : Nat, k ≤ nb ∧ iv = .int .i64 (k : Int) ∧ Below w4.heap.size w4 wr) (fun iv _ => nb - (intOf iv).toNat)
    case atStart => exact ⟨0, Nat.zero_le _, rfl, HB7.out⟩
    case round =>
      obtain ⟨k, hk, rfl, hbel⟩ := hrel
      have HBR := Lib.hid hbel
      clear hbel
      by_cases hlt : k < nb
      · obtain ⟨b1, o1, f, rfl, ⟨_, hb1l⟩, hfk, hfc⟩ := HCA.out k hlt
        obtain ⟨b2, o2, f', rfl, ⟨_, hb2l⟩, hfk', hfc'⟩ := HCB.out k hlt
        obtain rfl : f = f' := Option.some.inj (hfk.symm.trans hfk')
        have hmem := mem_of_get? hfk
        have p0 : wr.cell? ⟨b1, o1 + k * 3, none⟩ = some (.string f.item) := (HBR.out.cell (p := ⟨b1, _, none⟩) hb1l).trans (hfc 0 _ rfl)
        have p1 : wr.cell? ⟨b1, o1 + k * 3 + 1, none⟩ = some (.int .i64 f.since) := (HBR.out.cell (p := ⟨b1, _, none⟩) hb1l).trans (hfc 1 _ rfl)
        have p2 : wr.cell? ⟨b1, o1 + k * 3 + 2, none⟩ = some (.int .i64 f.until_) := (HBR.out.cell (p := ⟨b1, _, none⟩) hb1l).trans (hfc 2 _ rfl)
        have D3 := Lib.hid (C3.out f hmem)
        have D4 := Lib.hid (C4.out f)
        have D5 := Lib.hid (C5.out f hmem)
        have D6 := Lib.hid (C6.out f)
        have D7 := Lib.hid (C7.out f hmem)
        have hfe := int_cases (faultErr acc f)
        have HMISS := Lib.hid (fun he hh => trail_miss HUQ.out (f := f) (nm := nm) he hh)
        have HHIT := Lib.hid (fun he hh => trail_hit HUQ.out (f := f) (nm := nm) he hh)
        have HBAD := Lib.hid (fun he => trail_bad (xs := acc) (f := f) (nm := nm) he)
        obtain ⟨fe, hfeq⟩ : ∃ fe, fe = faultErr acc f := ⟨_, rfl⟩
        obtain ⟨TL, hTL⟩ : ∃ TL, TL = touchedL acc f := ⟨_, rfl⟩
        obtain ⟨r, hr⟩ : ∃ r, r = leadsB acc f ws := ⟨_, rfl⟩
        rw [← hfeq, ← hTL] at D3 D4
        rw [← hr] at D5
        rw [← hfeq] at hfe HMISS HHIT HBAD
        rw [← hTL] at HMISS HHIT
        have HR := Lib.hid hr
        have HFC := Lib.hid hfc
        have HFC' := Lib.hid hfc'
        obtain ⟨it, si, un⟩ := f
        simp only [ftC] at p0 p1 p2 D3 D4 D5 D6 D7
        have hki : (k : Int) < (nb : Int) := by omega
        clear hfk hfk' hmem hfc hfc' hfeq hTL hr
        go_wp2_with fail
        clear p0 p1 p2
        refine (D3.out wr HBR.out).mono ?_
        rintro e wx ⟨vx, rfl, hrx, hbx⟩
        have HBX : Hid (Below w4.heap.size w4 wx) := below_late HBR.out hbx
        have HRX := Lib.hid hrx
        have p0 : wx.cell? ⟨b2, o2 + k * 3, none⟩ = some (.string it) := (HBX.out.cell (p := ⟨b2, _, none⟩) hb2l).trans (HFC'.out 0 _ rfl)
        have p1 : wx.cell? ⟨b2, o2 + k * 3 + 1, none⟩ = some (.int .i64 si) := (HBX.out.cell (p := ⟨b2, _, none⟩) hb2l).trans (HFC'.out 1 _ rfl)
        have p2 : wx.cell? ⟨b2, o2 + k * 3 + 2, none⟩ = some (.int .i64 un) := (HBX.out.cell (p := ⟨b2, _, none⟩) hb2l).trans (HFC'.out 2 _ rfl)
        clear hrx hbx
        go_wp2_with fail
        clear p0 p1 p2
        refine (D4.out wx HBX.out).mono ?_
        rintro e wy ⟨vy, rfl, hry, hby⟩
        have HBY : Hid (Below w4.heap.size w4 wy) := below_late HBX.out hby
        have HRY := Lib.hid hry
        have HAL2 := Lib.hid (fun u (h : Below wy.heap.size wy u) => alike_same vx vy TL _ _ u ((HRX.out.below hby).below h) (hry.below h))
        have p0 : wy.cell? ⟨b1, o1 + k * 3, none⟩ = some (.string it) := (HBY.out.cell (p := ⟨b1, _, none⟩) hb1l).trans (HFC.out 0 _ rfl)
        have p1 : wy.cell? ⟨b1, o1 + k * 3 + 1, none⟩ = some (.int .i64 si) := (HBY.out.cell (p := ⟨b1, _, none⟩) hb1l).trans (HFC.out 1 _ rfl)
        have p2 : wy.cell? ⟨b1, o1 + k * 3 + 2, none⟩ = some (.int .i64 un) := (HBY.out.cell (p := ⟨b1, _, none⟩) hb1l).trans (HFC.out 2 _ rfl)
        have q0 : wy.cell? ⟨b2, o2 + k * 3, none⟩ = some (.string it) := (HBY.out.cell (p := ⟨b2, _, none⟩) hb2l).trans (HFC'.out 0 _ rfl)
        have q1 : wy.cell? ⟨b2, o2 + k * 3 + 1, none⟩ = some (.int .i64 si) := (HBY.out.cell (p := ⟨b2, _, none⟩) hb2l).trans (HFC'.out 1 _ rfl)
        have q2 : wy.cell? ⟨b2, o2 + k * 3 + 2, none⟩ = some (.int .i64 un) := (HBY.out.cell (p := ⟨b2, _, none⟩) hb2l).trans (HFC'.out 2 _ rfl)
        have hb1y : b1 < wy.heap.size := World.block_lt_of_cell? wy _ p0
        have hb2y : b2 < wy.heap.size := World.block_lt_of_cell? wy _ q0
        have hnfe : (fe != fe) = false := by simp
        have hnr : (r != r) = false := by simp
        have hk0 : (0 : Int) ≤ (k : Int) := by omega
        have hkn : k < nb := hlt
        clear hry hby
        go_wp2_with fail
        refine seq_start (S := fun w' => w'.cell? ⟨b1, o1 + k * 3, none⟩ = some (.string it) ∧ w'.cell? ⟨b1, o1 + k * 3 + 1, none⟩ = some (.int .i64 si) ∧ w'.cell? ⟨b1, o1 + k * 3 + 2, none⟩ = some (.int .i64 un) ∧ w'.cell? ⟨b2, o2 + k * 3, none⟩ = some (.string it) ∧ w'.cell? ⟨b2, o2 + k * 3 + 1, none⟩ = some (.int .i64 si) ∧ w'.cell? ⟨b2, o2 + k * 3 + 2, none⟩ = some (.int .i64 un)) (by kernel_rfl) (by kernel_rfl) (by exact ⟨p0, p1, p2, q0, q1, q2⟩) ?_
        repeat (first
          | (refine seq_take0 (v := ?_) ?_ (fun _ _ _ h => h) (by kernel_rfl) ?_ ?_; rotate_left; (focus rfl); (focus (intro w' hSw; (try dsimp only at hSw); go_simp; (try with_reducible rfl); done)); (try simp only [Act.put, List.setIfInBounds_toArray, List.set_cons_zero, List.set_cons_succ]))
          | (refine seq_takeG (v := ?_) (g := ?_) (d := ?_) (b := ?_) (u := ?_) ?_ ?_ ?_ ?_ (fun _ _ _ h => h) (by kernel_rfl) ?_ ?_; rotate_left 5; (focus rfl); (focus rfl); (focus rfl); (focus (first | rfl | (go_simp; done))); (focus (intro w' hSw; (try dsimp only at hSw); go_simp; (try with_reducible rfl); done)); (try simp only [Act.put, List.setIfInBounds_toArray, List.set_cons_zero, List.set_cons_succ]))
          | (refine seq_skipG (g := ?_) (d := ?_) (b := ?_) (u := ?_) ?_ ?_ ?_ ?_ (fun _ _ _ h => h) (by kernel_rfl) ?_; rotate_left 4; (focus rfl); (focus rfl); (focus rfl); (focus (first | rfl | (go_simp; done))); (try simp only [Act.put, List.setIfInBounds_toArray, List.set_cons_zero, List.set_cons_succ])))
        refine seq_op (by kernel_rfl) (by rfl) (fun K hK => ?_)
        go_simp
        refine (HAL2.out _ ((Below.refl _ wy).drew)).mono ?_
        rintro e wz ⟨rfl, hbz⟩
        have h1 : ∀ {b o : Nat}, b < wy.heap.size → wz.cell? ⟨b, o, none⟩ = wy.cell? ⟨b, o, none⟩ := fun h => hbz.cell (p := ⟨_, _, none⟩) h
        refine hK.out _ _ ⟨(h1 hb1y).trans p0, (h1 hb1y).trans p1, (h1 hb1y).trans p2, (h1 hb2y).trans q0, (h1 hb2y).trans q1, (h1 hb2y).trans q2⟩ ?_
        clear hK K
        have HBZ : Hid (Below wy.heap.size wy wz) := ((Below.refl _ wy).drew).trans hbz
        have HB4Z : Hid (Below w4.heap.size w4 wz) := below_late HBY.out HBZ.out
        repeat (first
          | (refine seq_take0 (v := ?_) ?_ (fun _ _ _ h => h) (by kernel_rfl) ?_ ?_; rotate_left; (focus rfl); (focus (intro w' hSw; (try dsimp only at hSw); go_simp; (try with_reducible rfl); done)); (try simp only [Act.put, List.setIfInBounds_toArray, List.set_cons_zero, List.set_cons_succ]))
          | (refine seq_takeG (v := ?_) (g := ?_) (d := ?_) (b := ?_) (u := ?_) ?_ ?_ ?_ ?_ (fun _ _ _ h => h) (by kernel_rfl) ?_ ?_; rotate_left 5; (focus rfl); (focus rfl); (focus rfl); (focus (first | rfl | (go_simp; done))); (focus (intro w' hSw; (try dsimp only at hSw); go_simp; (try with_reducible rfl); done)); (try simp only [Act.put, List.setIfInBounds_toArray, List.set_cons_zero, List.set_cons_succ]))
          | (refine seq_skipG (g := ?_) (d := ?_) (b := ?_) (u := ?_) ?_ ?_ ?_ ?_ (fun _ _ _ h => h) (by kernel_rfl) ?_; rotate_left 4; (focus rfl); (focus rfl); (focus rfl); (focus (first | rfl | (go_simp; done))); (try simp only [Act.put, List.setIfInBounds_toArray, List.set_cons_zero, List.set_cons_succ])))
        repeat (refine seq_swap ?_; first
          | (refine seq_take0 (v := ?_) ?_ (fun _ _ _ h => h) (by kernel_rfl) ?_ ?_; rotate_left; (focus rfl); (focus (intro w' hSw; (try dsimp only at hSw); go_simp; (try with_reducible rfl); done)); (try simp only [Act.put, List.setIfInBounds_toArray, List.set_cons_zero, List.set_cons_succ]))
          | (refine seq_takeG (v := ?_) (g := ?_) (d := ?_) (b := ?_) (u := ?_) ?_ ?_ ?_ ?_ (fun _ _ _ h => h) (by kernel_rfl) ?_ ?_; rotate_left 5; (focus rfl); (focus rfl); (focus rfl); (focus (first | rfl | (go_simp; done))); (focus (intro w' hSw; (try dsimp only at hSw); go_simp; (try with_reducible rfl); done)); (try simp only [Act.put, List.setIfInBounds_toArray, List.set_cons_zero, List.set_cons_succ]))
          | (refine seq_skipG (g := ?_) (d := ?_) (b := ?_) (u := ?_) ?_ ?_ ?_ ?_ (fun _ _ _ h => h) (by kernel_rfl) ?_; rotate_left 4; (focus rfl); (focus rfl); (focus rfl); (focus (first | rfl | (go_simp; done))); (try simp only [Act.put, List.setIfInBounds_toArray, List.set_cons_zero, List.set_cons_succ])))
        refine seq_op (by kernel_rfl) (by rfl) (fun K hK => ?_)
        go_simp
        refine (D5.out _ HB4Z.out).mono ?_
        rintro e wu ⟨rfl, hbu⟩
        have h2 : ∀ {b o : Nat}, b < wy.heap.size → wu.cell? ⟨b, o, none⟩ = wy.cell? ⟨b, o, none⟩ := fun h => (hbu.cell (p := ⟨_, _, none⟩) (Nat.lt_of_lt_of_le h HBZ.out.size)).trans (h1 h)
        refine hK.out _ _ ⟨(h2 hb1y).trans p0, (h2 hb1y).trans p1, (h2 hb1y).trans p2, (h2 hb2y).trans q0, (h2 hb2y).trans q1, (h2 hb2y).trans q2⟩ ?_
        clear hK K
        have HB4U : Hid (Below w4.heap.size w4 wu) := below_late HB4Z.out hbu
        have HBU : Hid (Below wy.heap.size wy wu) := below_late HBZ.out hbu
        repeat (first
          | (refine seq_take0 (v := ?_) ?_ (fun _ _ _ h => h) (by kernel_rfl) ?_ ?_; rotate_left; (focus rfl); (focus (intro w' hSw; (try dsimp only at hSw); go_simp; (try with_reducible rfl); done)); (try simp only [Act.put, List.setIfInBounds_toArray, List.set_cons_zero, List.set_cons_succ]))
          | (refine seq_takeG (v := ?_) (g := ?_) (d := ?_) (b := ?_) (u := ?_) ?_ ?_ ?_ ?_ (fun _ _ _ h => h) (by kernel_rfl) ?_ ?_; rotate_left 5; (focus rfl); (focus rfl); (focus rfl); (focus (first | rfl | (go_simp; done))); (focus (intro w' hSw; (try dsimp only at hSw); go_simp; (try with_reducible rfl); done)); (try simp only [Act.put, List.setIfInBounds_toArray, List.set_cons_zero, List.set_cons_succ]))
          | (refine seq_skipG (g := ?_) (d := ?_) (b := ?_) (u := ?_) ?_ ?_ ?_ ?_ (fun _ _ _ h => h) (by kernel_rfl) ?_; rotate_left 4; (focus rfl); (focus rfl); (focus rfl); (focus (first | rfl | (go_simp; done))); (try simp only [Act.put, List.setIfInBounds_toArray, List.set_cons_zero, List.set_cons_succ])))
        refine seq_op (by kernel_rfl) (by rfl) (fun K hK => ?_)
        go_simp
        refine (D6.out (.slice Aw m capw) ws (by have := HM.out; omega) _ HB4U.out _ (C8.out _ HB4U.out)).mono ?_
        rintro e wv ⟨rfl, hbv⟩
        rw [← HR.out]
        have h3 : ∀ {b o : Nat}, b < wy.heap.size → wv.cell? ⟨b, o, none⟩ = wy.cell? ⟨b, o, none⟩ := fun h => (hbv.cell (p := ⟨_, _, none⟩) (Nat.lt_of_lt_of_le h HBU.out.size)).trans (h2 h)
        refine hK.out _ _ ⟨(h3 hb1y).trans p0, (h3 hb1y).trans p1, (h3 hb1y).trans p2, (h3 hb2y).trans q0, (h3 hb2y).trans q1, (h3 hb2y).trans q2⟩ ?_
        clear hK K
        have HBV : Hid (Below w4.heap.size w4 wv) := below_late HB4U.out hbv
        have HBYV : Hid (Below wy.heap.size wy wv) := below_late HBU.out hbv
        have n0 := (h3 hb1y).trans p0
        have n1 := (h3 hb1y).trans p1
        have n2 := (h3 hb1y).trans p2
        repeat (first
          | (refine seq_take0 (v := ?_) ?_ (fun _ _ _ h => h) (by kernel_rfl) ?_ ?_; rotate_left; (focus rfl); (focus (intro w' hSw; (try dsimp only at hSw); go_simp; (try with_reducible rfl); done)); (try simp only [Act.put, List.setIfInBounds_toArray, List.set_cons_zero, List.set_cons_succ]))
          | (refine seq_takeG (v := ?_) (g := ?_) (d := ?_) (b := ?_) (u := ?_) ?_ ?_ ?_ ?_ (fun _ _ _ h => h) (by kernel_rfl) ?_ ?_; rotate_left 5; (focus rfl); (focus rfl); (focus rfl); (focus (first | rfl | (go_simp; done))); (focus (intro w' hSw; (try dsimp only at hSw); go_simp; (try with_reducible rfl); done)); (try simp only [Act.put, List.setIfInBounds_toArray, List.set_cons_zero, List.set_cons_succ]))
          | (refine seq_skipG (g := ?_) (d := ?_) (b := ?_) (u := ?_) ?_ ?_ ?_ ?_ (fun _ _ _ h => h) (by kernel_rfl) ?_; rotate_left 4; (focus rfl); (focus rfl); (focus rfl); (focus (first | rfl | (go_simp; done))); (try simp only [Act.put, List.setIfInBounds_toArray, List.set_cons_zero, List.set_cons_succ])))
        refine seq_done (by kernel_rfl) ?_
        clear p0 p1 p2 q0 q1 q2 h1 h2 h3 hbz hbu hbv hnfe hnr
        go_wp2_with fail
        clear n0 n1 n2
        refine (D7.out wv HBV.out).mono ?_
        rintro e wt ⟨vt, rfl, hrt, hbt⟩
        have HBT : Hid (Below w4.heap.size w4 wt) := below_late HBV.out hbt
        have HRYT := Lib.hid (HRY.out.below (below_late HBYV.out hbt))
        rcases hfe with ⟨hz, h0⟩ | ⟨hz, h0⟩
        · cases hh : hasN TL nm with
          | false =>
            obtain ⟨t1, t2⟩ := HMISS.out h0 hh
            rw [t1]
            rw [t2] at hrt
            obtain ⟨At, nt, ct, rfl, hnt, -⟩ := hrt.open_
            obtain rfl : nt = 0 := by simpa using hnt.symm
            have HHA := Lib.hid (has_any vy TL _ nm wt HRYT.out)
            rw [hh] at HHA
            clear t1 t2 hrt hh hnt hbt
            subst h0
            go_wp2_with (go_at_call 25; refine HHA.out.mono ?_; rintro e w' ⟨rfl, rfl⟩)
            go_roundw
            case rel => exact ⟨k + 1, by omega, by go_num, HBT.out⟩
            case measure => simp [intOf]; omega
          | true =>
            obtain ⟨t1, t2, t3, t4, t5⟩ := HHIT.out h0 hh
            rw [t1]
            obtain ⟨TR, hTR⟩ : ∃ TR, TR = trailL acc ⟨it, si, un⟩ nm := ⟨_, rfl⟩
            rw [← hTR] at t2 t3 t4 t5 hrt
            have HD8 := Lib.hid (D6.out vt TR (by omega) wt HBT.out _ hrt)
            rw [t2] at HD8
            obtain ⟨At, nt, ct, rfl, hnt, hct, hmt, hcellt⟩ := hrt.open_
            have HHA := Lib.hid (has_any vy TL _ nm wt HRYT.out)
            rw [hh] at HHA
            obtain ⟨bt, ot, st, rfl, _, hst, hcl⟩ := hcellt (nt - 1) (by omega)
            rw [hnt] at t5
            obtain rfl : st = nm := Option.some.inj (hst.symm.trans t5)
            have p0 : wt.cell? ⟨b2, o2 + k * 3, none⟩ = some (.string it) := (HBT.out.cell (p := ⟨b2, _, none⟩) hb2l).trans (HFC'.out 0 _ rfl)
            have p1 : wt.cell? ⟨b2, o2 + k * 3 + 1, none⟩ = some (.int .i64 si) := (HBT.out.cell (p := ⟨b2, _, none⟩) hb2l).trans (HFC'.out 1 _ rfl)
            have p2 : wt.cell? ⟨b2, o2 + k * 3 + 2, none⟩ = some (.int .i64 un) := (HBT.out.cell (p := ⟨b2, _, none⟩) hb2l).trans (HFC'.out 2 _ rfl)
            have hn1 : 1 ≤ nt := by omega
            have hn2 : nt ≤ 100 := by omega
            clear t1 t2 t3 t4 t5 hrt hh hnt hbt hTR hcellt hst
            subst h0
            have hj1 : (0 : Int) ≤ (nt : Int) - 1 := by omega
            have hj2 : (nt : Int) - 1 < (nt : Int) := by omega
            have hj3 : ((nt : Int) - 1).toNat = nt - 1 := by omega
            have hbtl : bt < wt.heap.size := World.block_lt_of_cell? wt _ hcl
            go_wp2_with (go_at_call 25; refine HHA.out.mono ?_; rintro e w' ⟨rfl, rfl⟩)
            refine HD8.out.mono ?_
            rintro e ws2 ⟨rfl, hbs⟩
            have HBS : Hid (Below w4.heap.size w4 ws2) := below_late HBT.out hbs
            have hcl2 : ws2.cell? ⟨bt, ot + (nt - 1), none⟩ = some (.string st) := (hbs.cell (p := ⟨bt, _, none⟩) hbtl).trans hcl
            clear p0 p1 p2 hcl hbs
            go_wp2_with fail
            go_roundw
            case rel => exact ⟨k + 1, by omega, by go_num, HBS.out⟩
            case measure => simp [intOf]; omega
        · obtain ⟨t1, t2⟩ := HBAD.out h0
          rw [t1]
          rw [t2] at hrt
          obtain ⟨At, nt, ct, rfl, hnt, -⟩ := hrt.open_
          obtain rfl : nt = 0 := by simpa using hnt.symm
          have hnfe : (fe != fe) = false := by simp
          clear t1 t2 hrt hnt hbt h0
          go_wp2_with fail
          go_roundw
          case rel => exact ⟨k + 1, by omega, by go_num, HBT.out⟩
          case measure => simp [intOf]; omega
      · have HFIN := Lib.hid (below_late HB4.out HBR.out)
        have hki : ¬ ((k : Int) < (nb : Int)) := by omega
        go_wp2_with (go_at_call 16; refine (awake_any _).mono ?_; rintro e w9 ⟨rfl, hb9⟩)
        go_ret
        exact ⟨rfl, below_late HFIN.out hb9⟩
end Go.Proofs.Ytlanephpmoajiaa
