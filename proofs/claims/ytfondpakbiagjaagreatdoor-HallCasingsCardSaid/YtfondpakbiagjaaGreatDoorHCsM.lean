/- The reference's checkEvent, joined; two rows of ints side by side. The walk of the reference's Refuse (printed by rref.py). -/
import Derived.Test.YtfondpakbiagjaaGreatDoorHCsK
namespace Go.Proofs.YtfondpakbiagjaaGreatDoor
open Go.RowKit
set_option linter.unusedVariables false
set_option linter.unusedSimpArgs false
set_option maxRecDepth 100000
set_option maxHeartbeats 4000000
theorem rcheck_any (v : Value) (xs : List EvD) (k : Nat) (e : EvD) (l : Int) (w : World) (h : RdE w v xs) (hk : xs[k]? = some e) (hn : xs.length ≤ 1000) (hl : ∀ m e0, k = m + 1 → xs[m]? = some e0 → l = e0.day) :
    Calls Tryz.prog 49 #[v, .int .i64 (k : Int)] w fun r w' => r = .returned (.int .i64 (evErr k l e)) ∧ Below w.heap.size w w' := by
  obtain ⟨d, kd, p⟩ := e
  have fin : ∀ n : Int, evErr k l ⟨d, kd, p⟩ = n → ∀ r w', (r = Ending.returned (.int .i64 n) ∧ Below w.heap.size w w') → r = .returned (.int .i64 (evErr k l ⟨d, kd, p⟩)) ∧ Below w.heap.size w w' := fun n he r w' h => by rw [he]; exact h
  by_cases hd : 0 ≤ d ∧ d ≤ 1000000
  case neg =>
    have he := evErr_1 (i := k) (l := l) (e := ⟨d, kd, p⟩) (fun hh => hd hh.1)
    by_cases h1 : d < 0
    · exact (chk_day1 v xs k kd d p w h hk hn h1).mono (fin 1 he)
    · exact (chk_day2 v xs k kd d p w h hk hn (by omega)).mono (fin 1 he)
  by_cases hq : 0 ≤ kd ∧ kd ≤ 3
  case neg =>
    have he := evErr_1 (i := k) (l := l) (e := ⟨d, kd, p⟩) (fun hh => hq hh.2.1)
    by_cases h1 : kd < 0
    · exact (chk_kind1 v xs k kd d p w h hk hn hd h1).mono (fin 1 he)
    · exact (chk_kind2 v xs k kd d p w h hk hn hd (by omega)).mono (fin 1 he)
  by_cases hpl : 2 ≤ kd ∧ ¬ (0 ≤ p ∧ p ≤ 23)
  · have he := evErr_1 (i := k) (l := l) (e := ⟨d, kd, p⟩) (fun hh => hpl.2 (hh.2.2 hpl.1))
    exact (chk_place v xs k kd d p w h hk hn hd ⟨hpl.1, hq.2⟩ (by unfold placeB; rw [bool_and]; exact decide_eq_false hpl.2)).mono (fin 1 he)
  have hok : EvOk ⟨d, kd, p⟩ := ⟨hd, hq, fun h2 => by by_cases h3 : 0 ≤ p ∧ p ≤ 23; exact h3; exact absurd ⟨h2, h3⟩ hpl⟩
  cases k with
  | zero =>
    rcases (by omega : kd = 0 ∨ kd = 1 ∨ kd = 2 ∨ kd = 3) with rfl | rfl | rfl | rfl
    · exact (chk_first0 v xs d p w h hk hn hd).mono (fin 0 (evErr_0 hok ⟨fun hh => absurd hh.1 (Nat.lt_irrefl 0), by simp⟩))
    · exact (chk_first1 v xs d p w h hk hn hd).mono (fin 7 (evErr_7 hok fun hh => absurd (hh.2.1 rfl) (by simp)))
    · exact (chk_first2 v xs d p w h hk hn hd (by unfold placeB; rw [bool_and]; exact decide_eq_true (hok.2.2 (by simp)))).mono (fin 7 (evErr_7 hok fun hh => absurd (hh.2.1 rfl) (by simp)))
    · exact (chk_first3 v xs d p w h hk hn hd (by unfold placeB; rw [bool_and]; exact decide_eq_true (hok.2.2 (by simp)))).mono (fin 7 (evErr_7 hok fun hh => absurd (hh.2.1 rfl) (by simp)))
  | succ m =>
    obtain ⟨e0, h0⟩ : ∃ e0, xs[m]? = some e0 := ⟨_, List.getElem?_eq_getElem (by have := (List.getElem?_eq_some_iff.1 hk).1; omega)⟩
    obtain rfl := hl m e0 rfl h0
    rw [Int.natCast_succ]
    by_cases he : d < e0.day
    · have h7 := evErr_7 (i := m + 1) (l := e0.day) hok fun hh => hh.1 ⟨Nat.succ_pos _, he⟩
      rcases (by omega : kd = 0 ∨ kd = 1 ∨ kd = 2 ∨ kd = 3) with rfl | rfl | rfl | rfl
      · exact (chk_early0 v xs m d p w h hk e0 h0 hn hd he).mono (fin 7 h7)
      · exact (chk_early1 v xs m d p w h hk e0 h0 hn hd he).mono (fin 7 h7)
      · exact (chk_early2 v xs m d p w h hk e0 h0 hn hd (by unfold placeB; rw [bool_and]; exact decide_eq_true (hok.2.2 (by simp))) he).mono (fin 7 h7)
      · exact (chk_early3 v xs m d p w h hk e0 h0 hn hd (by unfold placeB; rw [bool_and]; exact decide_eq_true (hok.2.2 (by simp))) he).mono (fin 7 h7)
    · rcases (by omega : kd = 0 ∨ kd = 1 ∨ kd = 2 ∨ kd = 3) with rfl | rfl | rfl | rfl
      · exact (chk_late0 v xs m d p w h hk e0 h0 hn hd he).mono (fin 7 (evErr_7 hok fun hh => absurd (hh.2.2 rfl) (Nat.succ_ne_zero m)))
      · exact (chk_late1 v xs m d p w h hk e0 h0 hn hd he).mono (fin 0 (evErr_0 hok ⟨fun hh => he hh.2, ⟨fun hh => absurd hh (Nat.succ_ne_zero m), fun hh => absurd hh (by simp)⟩⟩))
      · exact (chk_late2 v xs m d p w h hk e0 h0 hn hd (by unfold placeB; rw [bool_and]; exact decide_eq_true (hok.2.2 (by simp))) he).mono (fin 0 (evErr_0 hok ⟨fun hh => he hh.2, ⟨fun hh => absurd hh (Nat.succ_ne_zero m), fun hh => absurd hh (by simp)⟩⟩))
      · exact (chk_late3 v xs m d p w h hk e0 h0 hn hd (by unfold placeB; rw [bool_and]; exact decide_eq_true (hok.2.2 (by simp))) he).mono (fin 0 (evErr_0 hok ⟨fun hh => he hh.2, ⟨fun hh => absurd hh (Nat.succ_ne_zero m), fun hh => absurd hh (by simp)⟩⟩))
/-- Two rows of one's own. -/
structure RW (w : World) (B : Nat) (ov rv : Value) (o r : List Int) : Prop where
  o : OwnI w B ov o
  r : OwnI w B rv r
  ne : ∀ k, ov.ownBlock = some k → rv.ownBlock ≠ some k
variable {w w' : World} {B : Nat} {ov rv v : Value} {o r o' : List Int}
theorem RW.stay (h : RW w B ov rv o r) (hb : Below w.heap.size w w') : RW w' B ov rv o r := ⟨h.o.stay hb, h.r.stay hb, h.ne⟩
theorem RW.newO (h : RW w B ov rv o r) (hg : w.grownBy w' ov.ownBlock) (hf : ∀ b, v.ownBlock = some b → ov.ownBlock = some b ∨ w.heap.size ≤ b) (hv : OwnI w' B v o') : RW w' B v rv o' r := by
  refine ⟨hv, h.r.kept hg (by
    cases hq : rv.ownBlock with
    | none => exact .inl rfl
    | some k => exact .inr fun e => h.ne k e.symm hq), fun k h1 h2 => ?_⟩
  rcases hf k h1 with h3 | h3
  · exact h.ne k h3 h2
  · have := (World.ownsRow.lt h.r k h2).2; omega
theorem RW.newR (h : RW w B ov rv o r) (hg : w.grownBy w' rv.ownBlock) (hf : ∀ b, v.ownBlock = some b → rv.ownBlock = some b ∨ w.heap.size ≤ b) (hv : OwnI w' B v o') : RW w' B ov v o o' := by
  refine ⟨h.o.kept hg (by
    cases hq : ov.ownBlock with
    | none => exact .inl rfl
    | some k => exact .inr fun e => h.ne k hq e.symm), hv, fun k h1 h2 => ?_⟩
  rcases hf k h2 with h3 | h3
  · exact h.ne k h1 h3
  · have := (World.ownsRow.lt h.o k h1).2; omega
end Go.Proofs.YtfondpakbiagjaaGreatDoor
namespace Go.Proofs.YtfondpakbiagjaaGreatDoor
open Go.RowKit
set_option linter.unusedVariables false
set_option linter.unusedSimpArgs false
set_option maxRecDepth 100000
set_option maxHeartbeats 4000000
theorem step_last {c c' : CasD} {e : EvD} (h : casStep c e = some c') : c'.last = e.day := by
  unfold casStep at h
  split at h
  · injection h with h; subst h; rfl
  · split at h
    · injection h with h; subst h; rfl
    · split at h
      · injection h with h; subst h; rfl
      · split at h
        · cases h
        · injection h with h; subst h; rfl
theorem step_born {c c' : CasD} {e : EvD} (h : casStep c e = some c') : (e.kind = 0 → c'.born = e.day) ∧ (e.kind ≠ 0 → c'.born = c.born) := by
  unfold casStep at h
  split at h
  · rename_i hk; injection h with h; subst h; exact ⟨fun _ => rfl, fun hn => absurd hk hn⟩
  · rename_i hk
    split at h
    · injection h with h; subst h; exact ⟨fun hn => absurd hn hk, fun _ => rfl⟩
    · split at h
      · injection h with h; subst h; exact ⟨fun hn => absurd hn hk, fun _ => rfl⟩
      · split at h
        · cases h
        · injection h with h; subst h; exact ⟨fun hn => absurd hn hk, fun _ => rfl⟩
/-- What the loop of the reference keeps. -/
structure RRel (w : World) (xs : List EvD) (a r p x : Int) (wr : World) (k : Nat) (c : CasD) (ov rv : Value) : Prop where
  rw : RW wr (w.heap.size + 1) ov rv c.opn c.rep
  inn : CasIn k c
  run : casRun 0 cas0 xs = casRun k c (xs.drop k)
  bel : Below w.heap.size w wr
  lim : wr.heap[w.heap.size]? = some (.cells #[.int .i64 a, .int .i64 r, .int .i64 p, .int .i64 x] 59 (0, 0))
  lst : ∀ m e0, k = m + 1 → xs[m]? = some e0 → c.last = e0.day
  brn : ∀ e0, 0 < k → xs[0]? = some e0 → c.born = e0.day
theorem RRel.next {w : World} {xs : List EvD} {a r p x : Int} {wr w' : World} {k : Nat} {c c' : CasD} {ov rv ov' rv' : Value} {e : EvD} (h : RRel w xs a r p x wr k c ov rv) (he : xs[k]? = some e) (h0 : evErr k c.last e = 0) (hs : casStep c e = some c')
    (hrw : RW w' (w.heap.size + 1) ov' rv' c'.opn c'.rep) (hb : Below (w.heap.size + 1) wr w') : RRel w xs a r p x w' (k + 1) c' ov' rv' := by
  refine ⟨hrw, h.inn.step (evErr_zero h0).1 hs, h.run.trans (run_some he h0 hs), h.bel.trans (hb.mono (Nat.le_succ _)), (hb.block _ (Nat.lt_succ_self _)).trans h.lim, fun m e0 hm h1 => ?_, fun e0 _ h1 => ?_⟩
  · obtain rfl : k = m := by omega
    rw [he] at h1
    rw [step_last hs]; injection h1 with h1; rw [h1]
  · have hin := (evErr_zero h0).2
    by_cases hk : k = 0
    · subst hk
      rw [he] at h1
      injection h1 with h1
      rw [(step_born hs).1 (hin.2.1 rfl), h1]
    · rw [(step_born hs).2 (fun hh => hk (hin.2.2 hh))]
      exact h.brn e0 (Nat.pos_of_ne_zero hk) h1
theorem rrefuse_any (v : Value) (xs : List EvD) (t a r p x : Int) (w : World) (h : RdE w v xs) (ht : I64 t) :
    Calls Tryz.prog 18 #[v, .int .i64 t, .agg #[.int .i64 a, .int .i64 r, .int .i64 p, .int .i64 x]] w (RefPost w (refuseP xs t a r p x)) := by
  have HRE := Lib.hid h
  obtain ⟨A, cap, rfl, hlen, hat⟩ := h.at
  have HA := Lib.hid hat
  obtain ⟨n, hn⟩ : ∃ n, n = xs.length := ⟨_, rfl⟩
  have HN := Lib.hid hn
  rw [← hn] at HRE ⊢
  obtain ⟨W1, HW1, HB1, HS1, j1⟩ := st_al0 w #[.int .i64 a, .int .i64 r, .int .i64 p, .int .i64 x] 59
  have HJ1 := Lib.hid j1
  have hbad : ∀ (n : Int) W, Below w.heap.size w W → refuseP xs t a r p x = (n, []) → RefPost w (refuseP xs t a r p x) (.returned (.tuple #[.slice none 0 0, .int .i64 n])) W := fun n W hW he => by
    rw [he]; exact ⟨_, rfl, Rd.none_ _ _ _, hW⟩
  have HBAD := Lib.hid hbad
  clear h hat hn j1 hbad
  by_cases hs : n = 0 ∨ 64 < n
  · have he : Hid (refuseP xs t a r p x = (4, [])) := by show _ = _; unfold refuseP; rw [if_pos (by rw [← HN.out]; exact hs)]
    rcases hs with rfl | hs
    · go_enter Tryz.func18, Tryz.ntmps18
      go_wp2_with fail
      rw [← HW1.out]
      go_ret2
      exact HBAD.out _ _ HJ1.out he.out
    · have h1 : (64 : Int) < (n : Int) := by omega
      have h2 : ¬ (n : Int) < 1 := by omega
      go_enter Tryz.func18, Tryz.ntmps18
      go_wp2_with fail
      rw [← HW1.out]
      go_ret2
      exact HBAD.out _ _ HJ1.out he.out
  have hn1 : ¬ (64 : Int) < (n : Int) := by omega
  have hn2 : ¬ (n : Int) < 1 := by omega
  by_cases ha : a < 0
  · have he : Hid (refuseP xs t a r p x = (1, [])) := by show _ = _; unfold refuseP; rw [if_neg (by rw [← HN.out]; exact hs), if_pos (by omega)]
    clear hs
    go_enter Tryz.func18, Tryz.ntmps18
    go_wp2_with fail
    rw [← HW1.out]
    go_ret2
    exact HBAD.out _ _ HJ1.out he.out
  by_cases hr : r < 0
  · have he : Hid (refuseP xs t a r p x = (1, [])) := by show _ = _; unfold refuseP; rw [if_neg (by rw [← HN.out]; exact hs), if_pos (by omega)]
    clear hs
    go_enter Tryz.func18, Tryz.ntmps18
    go_wp2_with fail
    rw [← HW1.out]
    go_ret2
    exact HBAD.out _ _ HJ1.out he.out
  by_cases hp : p < 0
  · have he : Hid (refuseP xs t a r p x = (1, [])) := by show _ = _; unfold refuseP; rw [if_neg (by rw [← HN.out]; exact hs), if_pos (by omega)]
    clear hs
    go_enter Tryz.func18, Tryz.ntmps18
    go_wp2_with fail
    rw [← HW1.out]
    go_ret2
    exact HBAD.out _ _ HJ1.out he.out
  by_cases hx : x < 0
  · have he : Hid (refuseP xs t a r p x = (1, [])) := by show _ = _; unfold refuseP; rw [if_neg (by rw [← HN.out]; exact hs), if_pos (by omega)]
    clear hs
    go_enter Tryz.func18, Tryz.ntmps18
    go_wp2_with fail
    rw [← HW1.out]
    go_ret2
    exact HBAD.out _ _ HJ1.out he.out
  have HE : Hid (refuseP xs t a r p x = if (casRun 0 cas0 xs).1 ≠ 0 then ((casRun 0 cas0 xs).1, []) else if t < (casRun 0 cas0 xs).2.last then (7, []) else (0, bitsL (casBits (casRun 0 cas0 xs).2 t a r p x) 5)) := by
    show _ = _; unfold refuseP; rw [if_neg (by rw [← HN.out]; exact hs), if_neg (by omega)]
  obtain ⟨W2, HW2, HB2, HS2, j2⟩ := st_alk 1 2 #[] 3 HS1 rfl
  obtain ⟨W3, HW3, HB3, HS3, j3⟩ := st_alk 2 3 #[] 3 HS2 rfl
  have HR0 : Hid (RRel w xs a r p x W3 0 cas0 (.slice (some ⟨w.heap.size + 1, 0, none⟩) 0 0) (.slice (some ⟨w.heap.size + 2, 0, none⟩) 0 0)) := by
    refine ⟨⟨⟨rfl, .inr ⟨_, 0, #[], rfl, Nat.le_refl _, (kB HB2 j3).out, Nat.le_refl _, by decide, rfl, rfl⟩⟩, ⟨rfl, .inr ⟨_, 0, #[], rfl, Nat.le_succ _, HB3.out, Nat.le_refl _, by decide, rfl, rfl⟩⟩, fun k h1 h2 => ?_⟩, cas0_in, rfl, ((HJ1.out.trans (j2.mono HJ1.out.size)).trans (j3.mono (Nat.le_trans HJ1.out.size j2.size))), (kB (kB HB1 j2) j3).out, fun m e0 hm => by omega, fun e0 h0 => absurd h0 (Nat.lt_irrefl 0)⟩
    simp only [Value.ownBlock, Option.some.injEq] at h1 h2
    omega
  have HT := Lib.hid ht
  clear hs ht j2 j3 HS1 HS2 HS3
  go_enter Tryz.func18, Tryz.ntmps18
  go_wp2_with fail
  rw [← HW1.out, ← HW2.out, ← HW3.out]
  go_loopw [8, 9, 10, 11] (fun ov2 rv2 ret2 iv wr => ∃ (k : Nat) (c : CasD) (Ao Ar : Option Addr) (lo ko lr kr : Nat), k ≤ n ∧ iv = .int .i64 (k : Int) ∧ ret2 = .int .i64 c.ret ∧ ov2 = .slice Ao lo ko ∧ rv2 = .slice Ar lr kr ∧ Hid (lo = c.opn.length) ∧ Hid (lr = c.rep.length) ∧ Hid (RRel w xs a r p x wr k c (.slice Ao lo ko) (.slice Ar lr kr))) (fun _ _ _ iv _ => n - (RowKit.intOf iv).toNat)
  case atStart => exact ⟨0, cas0, _, _, 0, 0, 0, 0, Nat.zero_le _, rfl, rfl, rfl, rfl, rfl, rfl, HR0.out⟩
  case round =>
    clear HR0 HW1 HW2 HW3 HB1 HB2 HB3 HJ1
    obtain ⟨k, c, Ao, Ar, lo, ko, lr, kr, hk, rfl, rfl, rfl, rfl, HLO, HLR, HR⟩ := hrel
    by_cases hlt : k < n
    · obtain ⟨⟨d, kd, pl⟩, hek⟩ : ∃ e, xs[k]? = some e := ⟨_, List.getElem?_eq_getElem (by have := HN.out; omega)⟩
      obtain ⟨b, off, rfl, hb, hrg⟩ := HA.out k _ hek
      have HEK := Lib.hid hek
      have HHB := Lib.hid hb
      have HCH := Lib.hid (rcheck_any _ xs k ⟨d, kd, pl⟩ c.last wr (HRE.out.below HR.out.bel) hek (by have := HN.out; omega) HR.out.lst)
      have hcells : ∀ W, Below w.heap.size w W → W.cell? ⟨b, off + k * 3 + 1, none⟩ = some (.int .i64 kd) ∧ W.cell? ⟨b, off + k * 3 + 2, none⟩ = some (.int .i64 pl) := fun W hW =>
        ⟨(hW.cell (p := ⟨b, off + k * 3 + 1, none⟩) HHB.out).trans (hrg 1 _ rfl), (hW.cell (p := ⟨b, off + k * 3 + 2, none⟩) HHB.out).trans (hrg 2 _ rfl)⟩
      have HCE := Lib.hid hcells
      have hk0 : (0 : Int) ≤ (k : Int) := by omega
      have hkn : (k : Int) < (n : Int) := by omega
      have hwk : IntKind.i64.wrap ((k : Int) + 1) = (k : Int) + 1 := IntWalk.i64_in _ (by omega)
      clear hek hb hrg hcells
      go_wp2_with fail
      refine HCH.out.mono ?_
      rintro e w6 ⟨rfl, j6⟩
      have HJ6 : Hid (Below w.heap.size w w6) := HR.out.bel.trans (j6.mono HR.out.bel.size)
      have HRW6 := Lib.hid (HR.out.rw.stay j6)
      have HB6 : Hid (Below (w.heap.size + 1) wr w6) := j6.mono (blk_lt HR.out.lim)
      have HSZ6 : Hid (w.heap.size + 1 ≤ w6.heap.size) := Nat.le_trans (blk_lt HR.out.lim) j6.size
      clear HCH j6
      by_cases h0 : evErr k c.last ⟨d, kd, pl⟩ = 0
      case neg =>
        have HRU := Lib.hid (run_err HEK.out h0)
        obtain ⟨er, her⟩ : ∃ q, q = evErr k c.last ⟨d, kd, pl⟩ := ⟨_, rfl⟩
        rw [← her] at HRU h0 ⊢
        have hnb : (er == 0) = false := beq_false_of_ne h0
        have HNE := Lib.hid h0
        clear her h0
        go_wp2_with fail
        go_ret2
        refine HBAD.out er _ HJ6.out ?_
        rw [HE.out, HR.out.run, HRU.out, if_pos HNE.out]
      have HOK := Lib.hid (evErr_zero h0)
      have hkk := HOK.out.1.2.1
      have H0 := Lib.hid h0
      rw [h0]
      obtain ⟨q1, q2⟩ := HCE.out w6 HJ6.out
      have hkk' : kd = 0 ∨ kd = 1 ∨ kd = 2 ∨ kd = 3 := by have h5 : 0 ≤ kd ∧ kd ≤ 3 := hkk; omega
      clear h0 hkk
      rcases hkk' with rfl | rfl | rfl | rfl
      · have HST : Hid (casStep c ⟨d, 0, pl⟩ = some ⟨d, d, c.ret, c.rep, c.opn⟩) := rfl
        go_wp2_with fail
        go_roundw
        case rel => exact ⟨k + 1, ⟨d, d, c.ret, c.rep, c.opn⟩, _, _, lo, ko, lr, kr, by omega, by go_num, rfl, rfl, rfl, HLO, HLR, HR.out.next HEK.out H0.out HST.out HRW6.out HB6.out⟩
        case measure => simp [RowKit.intOf]; omega
      · have HST : Hid (casStep c ⟨d, 1, pl⟩ = some ⟨c.born, d, c.ret + 1, c.rep, c.opn⟩) := rfl
        have hwr : IntKind.i64.wrap (c.ret + 1) = c.ret + 1 := IntWalk.i64_in _ (by have := HR.out.inn.r0; have := HR.out.inn.r1; omega)
        go_wp2_with fail
        go_roundw
        case rel => exact ⟨k + 1, ⟨c.born, d, c.ret + 1, c.rep, c.opn⟩, _, _, lo, ko, lr, kr, by omega, by go_num, rfl, rfl, rfl, HLO, HLR, HR.out.next HEK.out H0.out HST.out HRW6.out HB6.out⟩
        case measure => simp [RowKit.intOf]; omega
      · have HST : Hid (casStep c ⟨d, 2, pl⟩ = some ⟨c.born, d, c.ret, c.rep, c.opn ++ [pl]⟩) := rfl
        have HML : Hid (lo ≤ 100000) := by show _ ≤ _; have := HLO.out; have := HR.out.inn.no; omega
        go_wp2_with (at_builtin; refine wpList_pushI rfl _ _ rfl rfl rfl rfl rfl HLO.out.symm HRW6.out.o HML.out HSZ6.out ?_; intro A5 c5 w7 HO7 HG7; replace HO7 := Lib.hid HO7; replace HG7 := Lib.hid HG7)
        go_roundw
        case rel =>
          refine ⟨k + 1, ⟨c.born, d, c.ret, c.rep, c.opn ++ [pl]⟩, _, _, lo + 1, c5, lr, kr, by omega, by go_num, rfl, rfl, rfl, by show _ = _; rw [HLO.out]; simp, HLR, HR.out.next HEK.out H0.out HST.out (HRW6.out.newO HG7.out.g HG7.out.f HO7.out) (HB6.out.trans (HG7.out.below HSZ6.out (fun q hq => (World.ownsRow.lt HRW6.out.o q hq).1)))⟩
        case measure => simp [RowKit.intOf]; omega
      · have HRM := Lib.hid (rremove_any _ c.opn pl w6 _ HRW6.out.o.rd (by have := HR.out.inn.no; omega))
        go_wp2_with fail
        refine HRM.out.mono ?_
        rintro e w7 (⟨o', hrm, v', rfl, hv', j7⟩ | ⟨hrm, rfl, hw⟩)
        · have HST : Hid (casStep c ⟨d, 3, pl⟩ = some ⟨c.born, d, c.ret, c.rep ++ [pl], o'⟩) := by show _ = _; unfold casStep; simp [hrm]
          obtain ⟨A7, k7, rfl⟩ := hv'.slice
          have HRW7 := Lib.hid (HRW6.out.newO ⟨j7.os, j7.tape, j7.output, j7.size, fun q hq _ => j7.block q hq⟩ (fun q hq => .inr (World.ownsRow.lt hv' q hq).1) (hv'.mono HSZ6.out))
          have HB7 : Hid (Below (w.heap.size + 1) wr w7) := HB6.out.trans (j7.mono HSZ6.out)
          have HSZ7 : Hid (w.heap.size + 1 ≤ w7.heap.size) := Nat.le_trans HSZ6.out j7.size
          obtain ⟨q3, q4⟩ := HCE.out w7 (HJ6.out.trans (j7.mono HJ6.out.size))
          have HML : Hid (lr ≤ 100000) := by show _ ≤ _; have := HLR.out; have := HR.out.inn.nr; omega
          obtain ⟨l7, hl7⟩ : ∃ l, l = o'.length := ⟨_, rfl⟩
          have HL7 := Lib.hid hl7
          rw [← hl7] at HRW7 ⊢
          clear hrm hv' j7 HRM q1 q2 q3 hl7
          go_wp2_with (at_builtin; refine wpList_pushI rfl _ _ rfl rfl rfl rfl rfl HLR.out.symm HRW7.out.r HML.out HSZ7.out ?_; intro A8 c8 w8 HO8 HG8; replace HO8 := Lib.hid HO8; replace HG8 := Lib.hid HG8)
          go_roundw
          case rel =>
            refine ⟨k + 1, ⟨c.born, d, c.ret, c.rep ++ [pl], o'⟩, _, _, l7, k7, lr + 1, c8, by omega, by go_num, rfl, rfl, rfl, HL7, by show _ = _; rw [HLR.out]; simp, HR.out.next HEK.out H0.out HST.out (HRW7.out.newR HG8.out.g HG8.out.f HO8.out) (HB7.out.trans (HG8.out.below HSZ7.out (fun q hq => (World.ownsRow.lt HRW7.out.r q hq).1)))⟩
          case measure => simp [RowKit.intOf]; omega
        · have HRU := Lib.hid (run_none HEK.out H0.out (by unfold casStep; simp [hrm]))
          obtain rfl := hw.symm
          clear hw hrm HRM
          go_wp2_with fail
          go_ret2
          refine HBAD.out 5 _ HJ6.out ?_
          rw [HE.out, HR.out.run, HRU.out, if_pos (by show (5 : Int) ≠ 0; decide)]
    · obtain rfl : k = n := by omega
      have hkn : ¬ (k : Int) < (k : Int) := by omega
      have HRU : Hid (casRun 0 cas0 xs = (0, c)) := HR.out.run.trans (run_end k c xs (by have := HN.out; omega))
      obtain ⟨m, rfl⟩ : ∃ m, k = m + 1 := ⟨k - 1, by omega⟩
      obtain ⟨el, hel⟩ : ∃ e, xs[m]? = some e := ⟨_, List.getElem?_eq_getElem (by have := HN.out; omega)⟩
      obtain ⟨ef, hef⟩ : ∃ e, xs[0]? = some e := ⟨_, List.getElem?_eq_getElem (by have := HN.out; omega)⟩
      have HLAST := Lib.hid (HR.out.lst m el rfl hel)
      have HBORN := Lib.hid (HR.out.brn ef (Nat.succ_pos m) hef)
      obtain ⟨b, off, rfl, hb, hrg⟩ := HA.out m _ hel
      obtain ⟨b', off', hbo, -, hr0⟩ := HA.out 0 _ hef
      injection hbo with hbo
      injection hbo with hb1 hb2
      subst hb1 hb2
      have cl : wr.cell? ⟨b, off + m * 3, none⟩ = some (.int .i64 c.last) := by rw [HLAST.out]; exact (HR.out.bel.cell (p := ⟨b, off + m * 3 + 0, none⟩) hb).trans (hrg 0 _ rfl)
      have hfirst : ∀ W, Below wr.heap.size wr W → W.cell? ⟨b, off, none⟩ = some (.int .i64 c.born) := fun W hW => by
        rw [HBORN.out]
        have h1 := (HR.out.bel.trans (hW.mono HR.out.bel.size)).cell (p := ⟨b, off, none⟩) hb
        exact h1.trans (by have := hr0 0 _ rfl; simpa using this)
      have HFIRST := Lib.hid hfirst
      have hm0 : (0 : Int) ≤ (m : Int) := by omega
      have hwm : IntKind.i64.wrap (m : Int) = (m : Int) := IntWalk.i64_in _ (by omega)
      have hwm2 : IntKind.i64.wrap ((m : Int) + 1 - 1) = (m : Int) := by rw [IntWalk.i64_in _ (by omega)]; omega
      clear hel hef hb hrg hr0 hfirst
      by_cases hlast : t < c.last
      · go_wp2_with fail
        go_ret2
        refine HBAD.out 7 _ HR.out.bel ?_
        rw [HE.out, HRU.out, if_neg (by show ¬ (0 : Int) ≠ 0; decide), if_pos hlast]
      · have HFIN : Hid (refuseP xs t a r p x = (0, bitsL (casBits c t a r p x) 5)) := by show _ = _; rw [HE.out, HRU.out, if_neg (by show ¬ (0 : Int) ≠ 0; decide), if_neg hlast]
        have hlb : decide (t < c.last) = false := decide_eq_false hlast
        have hwb : IntKind.i64.wrap (t - c.born) = t - c.born := IntWalk.i64_in _ (by have := HT.out; have := HR.out.inn.b; have := HR.out.inn.l; omega)
        have HWB := Lib.hid hwb
        have HTB := Lib.hid hlast
        obtain ⟨b0, hb0⟩ : ∃ q, q = decide (a < t - c.born) := ⟨_, rfl⟩
        obtain ⟨b1, hb1⟩ : ∃ q, q = decide (r ≤ c.ret) := ⟨_, rfl⟩
        obtain ⟨b2, hb2⟩ : ∃ q, q = decide (p < (lr : Int)) := ⟨_, rfl⟩
        obtain ⟨b3, hb3⟩ : ∃ q, q = nearB c.rep x := ⟨_, rfl⟩
        obtain ⟨b4, hb4⟩ : ∃ q, q = decide (0 < lo) := ⟨_, rfl⟩
        obtain ⟨bs, hbs⟩ : ∃ q, q = [b0, b1, b2, b3, b4] := ⟨_, rfl⟩
        have HBS : Hid (casBits c t a r p x = bs) := by show _ = _; unfold casBits; rw [hbs, hb0, hb1, hb2, hb3, hb4, HLR.out, HLO.out]
        rw [HBS.out] at HFIN
        have HG0 : Hid (bs.getD 0 false = b0) := by show _ = _; rw [hbs]; rfl
        have HG1 : Hid (bs.getD 1 false = b1) := by show _ = _; rw [hbs]; rfl
        have HG2 : Hid (bs.getD 2 false = b2) := by show _ = _; rw [hbs]; rfl
        have HG3 : Hid (bs.getD 3 false = b3) := by show _ = _; rw [hbs]; rfl
        have HG4 : Hid (bs.getD 4 false = b4) := by show _ = _; rw [hbs]; rfl
        have HB0 := Lib.hid hb0
        have HB1 := Lib.hid hb1
        have HB2 := Lib.hid hb2
        have HB3 := Lib.hid hb3
        have HB4 := Lib.hid hb4
        have HLIM := Lib.hid HR.out.lim
        obtain ⟨W7, HW7, HB7, HS7, j7⟩ := st_al0 wr #[] 3
        have HJX := Lib.hid j7
        have HO : Hid (OwnI W7 wr.heap.size (.slice (some ⟨wr.heap.size, 0, none⟩) 0 0) []) := ⟨rfl, .inr ⟨_, 0, #[], rfl, Nat.le_refl _, HB7.out, Nat.le_refl _, by decide, rfl, rfl⟩⟩
        have cf := HFIRST.out W7 j7
        have q0 := kC (cs := [.int .i64 a, .int .i64 r, .int .i64 p, .int .i64 x]) (kB HLIM j7) 0 rfl
        clear hb0 hb1 hb2 hb3 hb4 hbs j7 hlast HS7 HB7 HTB
        go_wp2_with fail
        rw [← HW7.out]
        refine seq_start (S := fun w' => w'.cell? ⟨b, off, none⟩ = some (.int .i64 c.born) ∧ w'.cell? ⟨w.heap.size, 0, none⟩ = some (.int .i64 a)) (by kernel_rfl) (by kernel_rfl) (by exact ⟨cf, q0⟩) ?_
        replace HJX : Hid (Below wr.heap.size wr W7.drew) := HJX.out.drew
        replace HO : Hid (OwnI W7.drew wr.heap.size (.slice (some ⟨wr.heap.size, 0, none⟩) 0 0) []) := HO.out.stay (Below.refl _ _).drew
        obtain ⟨V, hV⟩ : ∃ V, V = W7.drew := ⟨_, rfl⟩
        rw [← hV] at HJX HO ⊢
        clear cf q0 cl hV HW7
        repeat (first | refine tk0 (h := ?_) | refine tkG (h := ?_) | refine skG (h := ?_))
        refine seq_done (by kernel_rfl) ?_
        have HM : Hid (0 = (bitsL bs 0).length) := rfl
        go_upto_if 116 with fail
        rw [← HB0.out]
        go_cut [15] (fun v wx => ∃ (A' : Option Addr) (mq c' : Nat), v = .slice A' mq c' ∧ Hid (mq = (bitsL bs 1).length) ∧ Hid (OwnI wx wr.heap.size (.slice A' mq c') (bitsL bs 1)) ∧ Hid (Below wr.heap.size wr wx))
        case first =>
          have HML : Hid (0 ≤ 100000) := by show _ ≤ _; have := HM.out; have := bits_len bs 0; omega
          cases hbit : b0 with
          | true =>
            have HY := Lib.hid (bits_yes (bs := bs) (k := 0) (HG0.out.trans hbit))
            clear hbit
            go_wp2_with (at_builtin; refine wpList_pushI rfl _ _ rfl rfl rfl rfl rfl HM.out.symm HO.out HML.out HJX.out.size ?_; intro A5 c5 w5 HO5 HG5; replace HO5 := Lib.hid HO5; replace HG5 := Lib.hid HG5)
            go_meet
            case rel => exact ⟨A5, 0 + 1, c5, rfl, by show _ = _; rw [HY.out, List.length_append, ← HM.out]; rfl, by show OwnI _ _ _ _; rw [HY.out]; exact HO5.out, HJX.out.trans (HG5.out.below HJX.out.size (fun q hq => (World.ownsRow.lt HO.out q hq).1))⟩
          | false =>
            have HY := Lib.hid (bits_no (bs := bs) (k := 0) (HG0.out.trans hbit))
            clear hbit
            go_wp2_with fail
            go_meet
            case rel => exact ⟨_, 0, _, rfl, by show _ = _; rw [HY.out]; exact HM.out, by show OwnI _ _ _ _; rw [HY.out]; exact HO.out, HJX.out⟩
        case rest =>
        clear HO HJX HM
        obtain ⟨A', mq, c', rfl, HM, HO, HJX⟩ := hcut
        have q1 := kC (cs := [.int .i64 a, .int .i64 r, .int .i64 p, .int .i64 x]) (kB HLIM HJX.out) 1 rfl
        go_upto_if 123 with fail
        rw [← HB1.out]
        clear q1
        go_cut [15] (fun v wx => ∃ (A' : Option Addr) (mq c' : Nat), v = .slice A' mq c' ∧ Hid (mq = (bitsL bs 2).length) ∧ Hid (OwnI wx wr.heap.size (.slice A' mq c') (bitsL bs 2)) ∧ Hid (Below wr.heap.size wr wx))
        case first =>
          have HML : Hid (mq ≤ 100000) := by show _ ≤ _; have := HM.out; have := bits_len bs 1; omega
          cases hbit : b1 with
          | true =>
            have HY := Lib.hid (bits_yes (bs := bs) (k := 1) (HG1.out.trans hbit))
            clear hbit
            go_wp2_with (at_builtin; refine wpList_pushI rfl _ _ rfl rfl rfl rfl rfl HM.out.symm HO.out HML.out HJX.out.size ?_; intro A5 c5 w5 HO5 HG5; replace HO5 := Lib.hid HO5; replace HG5 := Lib.hid HG5)
            go_meet
            case rel => exact ⟨A5, mq + 1, c5, rfl, by show _ = _; rw [HY.out, List.length_append, ← HM.out]; rfl, by show OwnI _ _ _ _; rw [HY.out]; exact HO5.out, HJX.out.trans (HG5.out.below HJX.out.size (fun q hq => (World.ownsRow.lt HO.out q hq).1))⟩
          | false =>
            have HY := Lib.hid (bits_no (bs := bs) (k := 1) (HG1.out.trans hbit))
            clear hbit
            go_wp2_with fail
            go_meet
            case rel => exact ⟨_, mq, _, rfl, by show _ = _; rw [HY.out]; exact HM.out, by show OwnI _ _ _ _; rw [HY.out]; exact HO.out, HJX.out⟩
        case rest =>
        clear HO HJX HM
        obtain ⟨A', mq, c', rfl, HM, HO, HJX⟩ := hcut
        have q2 := kC (cs := [.int .i64 a, .int .i64 r, .int .i64 p, .int .i64 x]) (kB HLIM HJX.out) 2 rfl
        go_upto_if 131 with fail
        rw [← HB2.out]
        clear q2
        go_cut [15] (fun v wx => ∃ (A' : Option Addr) (mq c' : Nat), v = .slice A' mq c' ∧ Hid (mq = (bitsL bs 3).length) ∧ Hid (OwnI wx wr.heap.size (.slice A' mq c') (bitsL bs 3)) ∧ Hid (Below wr.heap.size wr wx))
        case first =>
          have HML : Hid (mq ≤ 100000) := by show _ ≤ _; have := HM.out; have := bits_len bs 2; omega
          cases hbit : b2 with
          | true =>
            have HY := Lib.hid (bits_yes (bs := bs) (k := 2) (HG2.out.trans hbit))
            clear hbit
            go_wp2_with (at_builtin; refine wpList_pushI rfl _ _ rfl rfl rfl rfl rfl HM.out.symm HO.out HML.out HJX.out.size ?_; intro A5 c5 w5 HO5 HG5; replace HO5 := Lib.hid HO5; replace HG5 := Lib.hid HG5)
            go_meet
            case rel => exact ⟨A5, mq + 1, c5, rfl, by show _ = _; rw [HY.out, List.length_append, ← HM.out]; rfl, by show OwnI _ _ _ _; rw [HY.out]; exact HO5.out, HJX.out.trans (HG5.out.below HJX.out.size (fun q hq => (World.ownsRow.lt HO.out q hq).1))⟩
          | false =>
            have HY := Lib.hid (bits_no (bs := bs) (k := 2) (HG2.out.trans hbit))
            clear hbit
            go_wp2_with fail
            go_meet
            case rel => exact ⟨_, mq, _, rfl, by show _ = _; rw [HY.out]; exact HM.out, by show OwnI _ _ _ _; rw [HY.out]; exact HO.out, HJX.out⟩
        case rest =>
        clear HO HJX HM
        obtain ⟨A', mq, c', rfl, HM, HO, HJX⟩ := hcut
        have q3 := kC (cs := [.int .i64 a, .int .i64 r, .int .i64 p, .int .i64 x]) (kB HLIM HJX.out) 3 rfl
        have HNR := Lib.hid (rnear_any _ c.rep x _ _ (HR.out.rw.stay HJX.out).r.rd HR.out.inn.pr (by have := HR.out.inn.nr; omega))
        go_wp2_with fail
        refine HNR.out.mono ?_
        rintro e wn ⟨rfl, jn⟩
        replace HO := Lib.hid (HO.out.stay jn)
        replace HJX := kU HJX jn
        clear jn HNR q3
        go_upto_if 138 with fail
        rw [← HB3.out]
        go_cut [15] (fun v wx => ∃ (A' : Option Addr) (mq c' : Nat), v = .slice A' mq c' ∧ Hid (mq = (bitsL bs 4).length) ∧ Hid (OwnI wx wr.heap.size (.slice A' mq c') (bitsL bs 4)) ∧ Hid (Below wr.heap.size wr wx))
        case first =>
          have HML : Hid (mq ≤ 100000) := by show _ ≤ _; have := HM.out; have := bits_len bs 3; omega
          cases hbit : b3 with
          | true =>
            have HY := Lib.hid (bits_yes (bs := bs) (k := 3) (HG3.out.trans hbit))
            clear hbit
            go_wp2_with (at_builtin; refine wpList_pushI rfl _ _ rfl rfl rfl rfl rfl HM.out.symm HO.out HML.out HJX.out.size ?_; intro A5 c5 w5 HO5 HG5; replace HO5 := Lib.hid HO5; replace HG5 := Lib.hid HG5)
            go_meet
            case rel => exact ⟨A5, mq + 1, c5, rfl, by show _ = _; rw [HY.out, List.length_append, ← HM.out]; rfl, by show OwnI _ _ _ _; rw [HY.out]; exact HO5.out, HJX.out.trans (HG5.out.below HJX.out.size (fun q hq => (World.ownsRow.lt HO.out q hq).1))⟩
          | false =>
            have HY := Lib.hid (bits_no (bs := bs) (k := 3) (HG3.out.trans hbit))
            clear hbit
            go_wp2_with fail
            go_meet
            case rel => exact ⟨_, mq, _, rfl, by show _ = _; rw [HY.out]; exact HM.out, by show OwnI _ _ _ _; rw [HY.out]; exact HO.out, HJX.out⟩
        case rest =>
        clear HO HJX HM
        obtain ⟨A', mq, c', rfl, HM, HO, HJX⟩ := hcut
        go_upto_if 144 with fail
        rw [← HB4.out]
        go_cut [15] (fun v wx => ∃ (A' : Option Addr) (mq c' : Nat), v = .slice A' mq c' ∧ Hid (mq = (bitsL bs 5).length) ∧ Hid (OwnI wx wr.heap.size (.slice A' mq c') (bitsL bs 5)) ∧ Hid (Below wr.heap.size wr wx))
        case first =>
          have HML : Hid (mq ≤ 100000) := by show _ ≤ _; have := HM.out; have := bits_len bs 4; omega
          cases hbit : b4 with
          | true =>
            have HY := Lib.hid (bits_yes (bs := bs) (k := 4) (HG4.out.trans hbit))
            clear hbit
            go_wp2_with (at_builtin; refine wpList_pushI rfl _ _ rfl rfl rfl rfl rfl HM.out.symm HO.out HML.out HJX.out.size ?_; intro A5 c5 w5 HO5 HG5; replace HO5 := Lib.hid HO5; replace HG5 := Lib.hid HG5)
            go_meet
            case rel => exact ⟨A5, mq + 1, c5, rfl, by show _ = _; rw [HY.out, List.length_append, ← HM.out]; rfl, by show OwnI _ _ _ _; rw [HY.out]; exact HO5.out, HJX.out.trans (HG5.out.below HJX.out.size (fun q hq => (World.ownsRow.lt HO.out q hq).1))⟩
          | false =>
            have HY := Lib.hid (bits_no (bs := bs) (k := 4) (HG4.out.trans hbit))
            clear hbit
            go_wp2_with fail
            go_meet
            case rel => exact ⟨_, mq, _, rfl, by show _ = _; rw [HY.out]; exact HM.out, by show OwnI _ _ _ _; rw [HY.out]; exact HO.out, HJX.out⟩
        case rest =>
        clear HO HJX HM
        obtain ⟨A', mq, c', rfl, HM, HO, HJX⟩ := hcut
        go_wp2_with fail
        go_ret2
        rw [HFIN.out]
        exact ⟨_, rfl, HO.out.rd, HR.out.bel.trans (HJX.out.mono HR.out.bel.size)⟩
end Go.Proofs.YtfondpakbiagjaaGreatDoor
