/- What Refuse answers, in plain Lean; its walk. The walk of Refuse. -/
import Derived.Test.YtfondpakbiagjaaGreatDoorHCsH
namespace Go.Proofs.YtfondpakbiagjaaGreatDoor
open Go.RowKit
set_option linter.unusedVariables false
set_option linter.unusedSimpArgs false
set_option maxRecDepth 100000
set_option maxHeartbeats 4000000
def cas0 : CasD := ⟨0, 0, 0, [], []⟩
theorem evErr_zero {i : Nat} {l : Int} {e : EvD} (h : evErr i l e = 0) : EvOk e ∧ EvIn i l e := by
  by_cases h1 : EvOk e
  · by_cases h2 : EvIn i l e
    · exact ⟨h1, h2⟩
    · rw [evErr_7 h1 h2] at h; exact absurd h (by decide)
  · rw [evErr_1 h1] at h; exact absurd h (by decide)
theorem drop_cons {α : Type} {xs : List α} {k : Nat} {x : α} (h : xs[k]? = some x) : xs.drop k = x :: xs.drop (k + 1) := by
  obtain ⟨h1, h2⟩ := List.getElem?_eq_some_iff.1 h
  rw [List.drop_eq_getElem_cons h1, h2]
open Classical in
theorem run_err {xs : List EvD} {k : Nat} {c : CasD} {e : EvD} (h : xs[k]? = some e) (he : evErr k c.last e ≠ 0) : casRun k c (xs.drop k) = (evErr k c.last e, c) := by
  rw [drop_cons h, casRun, if_neg he]
open Classical in
theorem run_none {xs : List EvD} {k : Nat} {c : CasD} {e : EvD} (h : xs[k]? = some e) (he : evErr k c.last e = 0) (hs : casStep c e = none) : casRun k c (xs.drop k) = (5, c) := by
  rw [drop_cons h, casRun, if_pos he, hs]
open Classical in
theorem run_some {xs : List EvD} {k : Nat} {c c' : CasD} {e : EvD} (h : xs[k]? = some e) (he : evErr k c.last e = 0) (hs : casStep c e = some c') : casRun k c (xs.drop k) = casRun (k + 1) c' (xs.drop (k + 1)) := by
  rw [drop_cons h, casRun, if_pos he, hs]
theorem run_end (k : Nat) (c : CasD) (xs : List EvD) (h : xs.length ≤ k) : casRun k c (xs.drop k) = (0, c) := by
  rw [List.drop_eq_nil_of_le h, casRun]
/-- What the states hold. -/
structure CasIn (k : Nat) (c : CasD) : Prop where
  no : c.opn.length ≤ k
  nr : c.rep.length ≤ k
  r0 : 0 ≤ c.ret
  r1 : c.ret ≤ k
  pr : Plc c.rep
  b : 0 ≤ c.born ∧ c.born ≤ 1000000
  l : 0 ≤ c.last ∧ c.last ≤ 1000000
theorem cas0_in : CasIn 0 cas0 := ⟨Nat.le_refl _, Nat.le_refl _, by decide, by decide, fun z h => by simp [cas0] at h, by decide, by decide⟩
theorem rmv_len {x : Int} : ∀ {l o : List Int}, rmv l x = some o → o.length ≤ l.length
  | [], _, h => by simp [rmv] at h
  | z :: r, o, h => by
    unfold rmv at h
    split at h
    · injection h with h; subst h; simp
    · obtain ⟨o', h1, rfl⟩ := Option.map_eq_some_iff.1 h
      have := rmv_len h1
      simp; omega
theorem CasIn.step {k : Nat} {c c' : CasD} {e : EvD} (h : CasIn k c) (he : EvOk e) (hs : casStep c e = some c') : CasIn (k + 1) c' := by
  obtain ⟨d, q, p⟩ := e
  obtain ⟨hd, hk, hp⟩ := he
  obtain ⟨h1, h2, h3, h4, h5, h6, h7⟩ := h
  unfold casStep at hs
  simp only at hs hd hk hp
  split at hs
  · injection hs with hs; subst hs; exact ⟨by show c.opn.length ≤ _; omega, by show c.rep.length ≤ _; omega, h3, by show c.ret ≤ _; omega, h5, hd, hd⟩
  · split at hs
    · injection hs with hs; subst hs; exact ⟨by show c.opn.length ≤ _; omega, by show c.rep.length ≤ _; omega, by show 0 ≤ c.ret + 1; omega, by show c.ret + 1 ≤ _; omega, h5, h6, hd⟩
    · split at hs
      · injection hs with hs; subst hs; exact ⟨by show (c.opn ++ [p]).length ≤ _; simp; omega, by show c.rep.length ≤ _; omega, h3, by show c.ret ≤ _; omega, h5, h6, hd⟩
      · split at hs
        · cases hs
        · rename_i o ho
          injection hs with hs; subst hs
          have := rmv_len ho
          refine ⟨by show o.length ≤ _; omega, by show (c.rep ++ [p]).length ≤ _; simp; omega, h3, by show c.ret ≤ _; omega, fun z hz => ?_, h6, hd⟩
          rcases List.mem_append.1 hz with hz | hz
          · exact h5 z hz
          · rw [List.mem_singleton.1 hz]; exact hp (by omega)
def bitsL (bs : List Bool) (k : Nat) : List Int := ((List.range k).filter fun j => bs.getD j false).map fun (j : Nat) => (j : Int) + 1
theorem bits_yes {bs : List Bool} {k : Nat} (h : bs.getD k false = true) : bitsL bs (k + 1) = bitsL bs k ++ [(k : Int) + 1] := by
  unfold bitsL
  rw [List.range_succ, List.filter_append, List.map_append, List.filter_cons, if_pos h]
  rfl
theorem bits_no {bs : List Bool} {k : Nat} (h : bs.getD k false = false) : bitsL bs (k + 1) = bitsL bs k := by
  unfold bitsL
  rw [List.range_succ, List.filter_append, List.map_append, List.filter_cons, if_neg (by rw [h]; decide)]
  simp
theorem bits_len (bs : List Bool) (k : Nat) : (bitsL bs k).length ≤ k := by
  unfold bitsL
  rw [List.length_map]
  exact Nat.le_trans (List.length_filter_le _ _) (by simp)
noncomputable def casBits (c : CasD) (t a r p x : Int) : List Bool := [decide (a < t - c.born), decide (r ≤ c.ret), decide (p < (c.rep.length : Int)), nearB c.rep x, decide (0 < c.opn.length)]
noncomputable def refuseP (xs : List EvD) (t a r p x : Int) : Int × List Int :=
  if xs.length = 0 ∨ 64 < xs.length then (4, []) else if a < 0 ∨ r < 0 ∨ p < 0 ∨ x < 0 then (1, [])
  else if (casRun 0 cas0 xs).1 ≠ 0 then ((casRun 0 cas0 xs).1, []) else if t < (casRun 0 cas0 xs).2.last then (7, []) else (0, bitsL (casBits (casRun 0 cas0 xs).2 t a r p x) 5)
end Go.Proofs.YtfondpakbiagjaaGreatDoor
namespace Go.Proofs.YtfondpakbiagjaaGreatDoor
open Go.RowKit
set_option linter.unusedVariables false
set_option linter.unusedSimpArgs false
set_option maxRecDepth 100000
set_option maxHeartbeats 4000000
theorem run_min4 {P : Program} {w : World} (ts : Array TypeId) (t : TypeId) (x y z u : Int) : (Builtin.min_ ts t #[.int .i64 x, .int .i64 y, .int .i64 z, .int .i64 u]).run P w = .ok (.int .i64 (min (min (min x y) z) u)) w := by
  have h : ∀ a b : Int, min b a = if a < b then a else b := fun a b => by split <;> omega
  rw [h u, h z, h y]
  simp [Builtin.min_, Builtin.min2]
/-- What a call of Refuse leaves. -/
def RefPost (w : World) (res : Int × List Int) (r : Ending) (w' : World) : Prop := ∃ v, r = .returned (.tuple #[v, .int .i64 res.1]) ∧ Rd (Value.int .i64) w' (fun _ => True) v res.2 ∧ Below w.heap.size w w'
theorem refuse_any (v : Value) (xs : List EvD) (t a r p x : Int) (w : World) (h : RdE w v xs) (ht : I64 t) :
    Calls Tryz.prog 17 #[v, .int .i64 t, .agg #[.int .i64 a, .int .i64 r, .int .i64 p, .int .i64 x]] w (RefPost w (refuseP xs t a r p x)) := by
  obtain ⟨A, cap, rfl, hlen, hat⟩ := h.at
  have HA := Lib.hid hat
  obtain ⟨n, hn⟩ : ∃ n, n = xs.length := ⟨_, rfl⟩
  have HN := Lib.hid hn
  rw [← hn]
  obtain ⟨W1, HW1, HB1, HS1, j1⟩ := st_al0 w #[.int .i64 a, .int .i64 r, .int .i64 p, .int .i64 x] 66
  have c0 := kC HB1 0 rfl
  have c1 := kC HB1 1 rfl
  have c2 := kC HB1 2 rfl
  have c3 := kC HB1 3 rfl
  have HJ1 := Lib.hid j1
  have hbad : ∀ (n : Int) W, Below w.heap.size w W → refuseP xs t a r p x = (n, []) → RefPost w (refuseP xs t a r p x) (.returned (.tuple #[.slice none 0 0, .int .i64 n])) W := fun n W hW he => by
    rw [he]; exact ⟨_, rfl, Rd.none_ _ _ _, hW⟩
  have HBAD := Lib.hid hbad
  clear h hat hn j1 hbad
  by_cases hs : n = 0 ∨ 64 < n
  · have he : Hid (refuseP xs t a r p x = (4, [])) := by show _ = _; unfold refuseP; rw [if_pos (by rw [← HN.out]; exact hs)]
    rcases hs with rfl | hs
    · go_enter Tryz.func17, Tryz.ntmps17
      go_wp2_with fail
      rw [← HW1.out]
      go_ret2
      exact HBAD.out _ _ HJ1.out he.out
    · have h1 : (64 : Int) < (n : Int) := by omega
      have h2 : ¬ (n : Int) = 0 := by omega
      have h2b : ((n : Int) == 0) = false := beq_false_of_ne h2
      go_enter Tryz.func17, Tryz.ntmps17
      go_wp2_with fail
      rw [← HW1.out]
      go_ret2
      exact HBAD.out _ _ HJ1.out he.out
  have hn1 : ¬ (64 : Int) < (n : Int) := by omega
  have hn2 : ¬ (n : Int) = 0 := by omega
  have hn2b : ((n : Int) == 0) = false := beq_false_of_ne hn2
  have hm4 : ∀ W, (Builtin.min_ #[3, 3, 3, 3] 3 #[.int .i64 a, .int .i64 r, .int .i64 p, .int .i64 x]).run Tryz.prog W = .ok (.int .i64 (min (min (min a r) p) x)) W := fun W => run_min4 _ _ _ _ _ _
  obtain ⟨mm, hmm⟩ : ∃ m, m = min (min (min a r) p) x := ⟨_, rfl⟩
  rw [← hmm] at hm4
  by_cases hl : a < 0 ∨ r < 0 ∨ p < 0 ∨ x < 0
  · have he : Hid (refuseP xs t a r p x = (1, [])) := by show _ = _; unfold refuseP; rw [if_neg (by rw [← HN.out]; exact hs), if_pos hl]
    have hmn : mm < 0 := by omega
    clear hs hl hmm
    go_enter Tryz.func17, Tryz.ntmps17
    go_wp2_with fail
    rw [← HW1.out]
    go_wp2_with fail
    go_ret2
    exact HBAD.out _ _ HJ1.out he.out
  have hmn : ¬ mm < 0 := by omega
  have hl2 : 0 ≤ a ∧ 0 ≤ r ∧ 0 ≤ p ∧ 0 ≤ x := by omega
  have HE : Hid (refuseP xs t a r p x = if (casRun 0 cas0 xs).1 ≠ 0 then ((casRun 0 cas0 xs).1, []) else if t < (casRun 0 cas0 xs).2.last then (7, []) else (0, bitsL (casBits (casRun 0 cas0 xs).2 t a r p x) 5)) := by
    show _ = _; unfold refuseP; rw [if_neg (by rw [← HN.out]; exact hs), if_neg hl]
  obtain ⟨W2, HW2, HB2, HS2, j2⟩ := st_alk 1 2 #[.int .i64 0, .int .i64 0, .int .i64 0, .slice none 0 0, .slice none 0 0] 112 HS1 rfl
  obtain ⟨cb, hcb⟩ : ∃ q, q = w.heap.size + 1 := ⟨_, rfl⟩
  rw [← hcb] at HB2
  have HCB : Hid (w.heap.size < cb) := by show _ < _; rw [hcb]; omega
  have HJ2 := kU HJ1 j2
  have HC0 : Hid (CasW W2 cb (.slice none 0 0) (.slice none 0 0) cas0) := ⟨HB2.out, OwnI.nil _ _, OwnI.nil _ _, fun k hk => by cases hk⟩
  have HT := Lib.hid ht
  have HB12 := kB HB1 j2
  have HL2 := Lib.hid hl2
  have HCBE := Lib.hid hcb
  clear hs hl hmm hcb hl2 ht j2 HS1 HS2
  go_enter Tryz.func17, Tryz.ntmps17
  go_wp2_with fail
  rw [← HW1.out]
  go_wp2_with fail
  rw [← HW2.out, ← HCBE.out]
  go_loopw [35] (fun iv wr => ∃ (k : Nat) (c : CasD) (rv ov : Value), k ≤ n ∧ iv = .int .i64 (k : Int) ∧ Hid (CasW wr cb rv ov c) ∧ Hid (CasIn k c) ∧ Hid (casRun 0 cas0 xs = casRun k c (xs.drop k)) ∧ Hid (Below w.heap.size w wr) ∧ Hid (wr.heap[w.heap.size]? = some (.cells #[.int .i64 a, .int .i64 r, .int .i64 p, .int .i64 x] 66 (0, 0)))) (fun iv _ => n - (RowKit.intOf iv).toNat)
  case atStart => exact ⟨0, cas0, _, _, Nat.zero_le _, rfl, HC0, cas0_in, rfl, HJ2.out, HB12.out⟩
  case round =>
    clear HC0 HJ2 HB12 c0 c1 c2 c3 HW1 HW2 HB1 HB2 HJ1
    obtain ⟨k, c, rv, ov, hk, rfl, HC, HI, HRUN, HJ, HBL⟩ := hrel
    by_cases hlt : k < n
    · obtain ⟨⟨d, kd, pl⟩, hek⟩ : ∃ e, xs[k]? = some e := ⟨_, List.getElem?_eq_getElem (by have := HN.out; omega)⟩
      obtain ⟨b, off, rfl, hb, hrg⟩ := HA.out k _ hek
      have hL : wr.rangeAt b (off + k * 3) [.int .i64 d, .int .i64 kd, .int .i64 pl] := fun j v hv => (HJ.out.cell (p := ⟨b, off + k * 3 + j, none⟩) hb).trans (hrg j v hv)
      obtain ⟨hth, W5, HW5, HB5, j5⟩ := box_new wr 63 (z := [.int .i64 0, .int .i64 0, .int .i64 0]) (cs := [.int .i64 d, .int .i64 kd, .int .i64 pl]) (n := 3) rfl rfl
      have HTH := Lib.hid hth
      have HEK := Lib.hid hek
      have HADD : Hid (Calls Tryz.prog 47 #[.pointer (some ⟨cb, 0, none⟩), .int .i64 (k : Int), .agg #[.int .i64 d, .int .i64 kd, .int .i64 pl]] W5 (AddPost W5 k cb c ⟨d, kd, pl⟩)) :=
        add_any k cb rv ov c ⟨d, kd, pl⟩ W5 (HC.out.stay j5) ⟨by have := HI.out.no; omega, by have := HI.out.nr; omega⟩ ⟨HI.out.r0, by have := HI.out.r1; omega⟩
      replace HJ := kU HJ j5
      replace HBL := kB HBL j5
      have hk0 : (0 : Int) ≤ (k : Int) := by omega
      have hkn : (k : Int) < (n : Int) := by omega
      have hwk : IntKind.i64.wrap ((k : Int) + 1) = (k : Int) + 1 := IntWalk.i64_in _ (by omega)
      have e0 := kC HB5 0 rfl
      have e1 := kC HB5 1 rfl
      have e2 := kC HB5 2 rfl
      clear hek hb hrg hth j5
      go_wp2_with (first | (refine wpList_load_mid (by rfl) 63 _ (by rfl) b (off + k * 3) (by rfl) _ _ (by exact hL) Tryz.underlying63 rfl (by kernel_rfl) ?_) | (refine smd 63 wr.heap.size 0 (ht := HTH) (h := ?_); rw [← HW5.out]))
      refine HADD.out.mono ?_
      rintro e w6 ⟨jb, hcases⟩
      have HJ6 : Hid (Below w.heap.size w w6) := HJ.out.trans (jb.mono (Nat.le_of_lt HCB.out))
      have HBL6 : Hid (w6.heap[w.heap.size]? = some (.cells #[.int .i64 a, .int .i64 r, .int .i64 p, .int .i64 x] 66 (0, 0))) := (jb.block _ HCB.out).trans HBL.out
      clear HADD jb e0 e1 e2 hL HTH HW5 HB5 HBL HJ
      rcases hcases with ⟨hne, rfl⟩ | ⟨h0, hs, rfl⟩ | ⟨c', rv', ov', h0, hs, rfl, hc'⟩
      · have HR := Lib.hid (run_err HEK.out hne)
        obtain ⟨er, her⟩ : ∃ q, q = evErr k c.last ⟨d, kd, pl⟩ := ⟨_, rfl⟩
        rw [← her] at HR hne ⊢
        have hnb : (er == 0) = false := beq_false_of_ne hne
        have HNE := Lib.hid hne
        clear her hne
        go_wp2_with fail
        go_ret2
        refine HBAD.out er _ HJ6.out ?_
        rw [HE.out, HRUN.out, HR.out, if_pos HNE.out]
      · have HR := Lib.hid (run_none HEK.out h0 hs)
        clear h0 hs
        go_wp2_with fail
        go_ret2
        refine HBAD.out 5 _ HJ6.out ?_
        rw [HE.out, HRUN.out, HR.out, if_pos (by show (5 : Int) ≠ 0; decide)]
      · have HR := Lib.hid (run_some HEK.out h0 hs)
        have HI' := Lib.hid (HI.out.step (evErr_zero h0).1 hs)
        have HC' := Lib.hid hc'
        clear h0 hs hc'
        go_wp2_with fail
        go_roundw
        case rel => exact ⟨k + 1, c', rv', ov', by omega, by go_num, HC'.out, HI'.out, HRUN.out.trans HR.out, HJ6.out, HBL6.out⟩
        case measure => simp [RowKit.intOf]; omega
    · obtain rfl : k = n := by omega
      have hkn : ¬ (k : Int) < (k : Int) := by omega
      have HR : Hid (casRun 0 cas0 xs = (0, c)) := HRUN.out.trans (run_end k c xs (by have := HN.out; omega))
      have HBK := Lib.hid HC.out.blk
      have l1 := kC (cs := [.int .i64 c.born, .int .i64 c.last, .int .i64 c.ret, rv, ov]) HBK 1 rfl
      by_cases hlast : t < c.last
      · go_wp2_with fail
        go_ret2
        refine HBAD.out 7 _ HJ.out ?_
        rw [HE.out, HR.out, if_neg (by show ¬ (0 : Int) ≠ 0; decide), if_pos hlast]
      · have HLS := Lib.hid hlast
        have hlb : decide (t < c.last) = false := decide_eq_false hlast
        have HFIN : Hid (refuseP xs t a r p x = (0, bitsL (casBits c t a r p x) 5)) := by show _ = _; rw [HE.out, HR.out, if_neg (by show ¬ (0 : Int) ≠ 0; decide), if_neg hlast]
        have hwb : IntKind.i64.wrap (t - c.born) = t - c.born := IntWalk.i64_in _ (by have := HT.out; have := HI.out.b; have := HI.out.l; omega)
        obtain ⟨Ar, kr, rfl⟩ := HC.out.rr.slice
        obtain ⟨Ao, ko, rfl⟩ := HC.out.ro.slice
        have HNR : Hid (Calls Tryz.prog 48 #[.slice Ar c.rep.length kr, .int .i64 x] wr.drew fun e w' => e = .returned (.bool (nearB c.rep x)) ∧ w' = wr.drew) :=
          near_any _ c.rep x wr.drew _ ((HC.out.stay (Below.refl wr.heap.size wr).drew).rr.rd) HI.out.pr (by have := HI.out.nr; omega)
        have m0 := kC (cs := [.int .i64 c.born, .int .i64 c.last, .int .i64 c.ret, .slice Ar c.rep.length kr, .slice Ao c.opn.length ko]) HBK 0 rfl
        have m2 := kC (cs := [.int .i64 c.born, .int .i64 c.last, .int .i64 c.ret, .slice Ar c.rep.length kr, .slice Ao c.opn.length ko]) HBK 2 rfl
        have m3 := kC (cs := [.int .i64 c.born, .int .i64 c.last, .int .i64 c.ret, .slice Ar c.rep.length kr, .slice Ao c.opn.length ko]) HBK 3 rfl
        have m4 := kC (cs := [.int .i64 c.born, .int .i64 c.last, .int .i64 c.ret, .slice Ar c.rep.length kr, .slice Ao c.opn.length ko]) HBK 4 rfl
        have q0 := kC (cs := [.int .i64 a, .int .i64 r, .int .i64 p, .int .i64 x]) HBL 0 rfl
        have q1 := kC (cs := [.int .i64 a, .int .i64 r, .int .i64 p, .int .i64 x]) HBL 1 rfl
        have q2 := kC (cs := [.int .i64 a, .int .i64 r, .int .i64 p, .int .i64 x]) HBL 2 rfl
        have q3 := kC (cs := [.int .i64 a, .int .i64 r, .int .i64 p, .int .i64 x]) HBL 3 rfl
        have HJd : Hid (Below w.heap.size w wr.drew) := HJ.out.drew
        go_wp2_with fail
        refine seq_start (S := fun w' => (w'.cell? ⟨cb, 0, none⟩ = some (.int .i64 c.born) ∧ w'.cell? ⟨cb, 2, none⟩ = some (.int .i64 c.ret) ∧ w'.cell? ⟨cb, 3, none⟩ = some (.slice Ar c.rep.length kr) ∧ w'.cell? ⟨cb, 4, none⟩ = some (.slice Ao c.opn.length ko)) ∧ w'.cell? ⟨w.heap.size, 0, none⟩ = some (.int .i64 a) ∧ w'.cell? ⟨w.heap.size, 1, none⟩ = some (.int .i64 r) ∧ w'.cell? ⟨w.heap.size, 2, none⟩ = some (.int .i64 p) ∧ w'.cell? ⟨w.heap.size, 3, none⟩ = some (.int .i64 x)) (by kernel_rfl) (by kernel_rfl) (by exact ⟨⟨m0, m2, m3, m4⟩, q0, q1, q2, q3⟩) ?_
        clear hlast l1 HBK HR HRUN HE HBAD
        repeat (first | refine tk0 (h := ?_) | refine tkG (h := ?_) | refine skG (h := ?_))
        repeat (refine seq_swap ?_; first | refine tk0 (h := ?_) | refine tkG (h := ?_) | refine skG (h := ?_))
        refine plq 2 (h := ?_)
        repeat (first | refine tk0 (h := ?_) | refine tkG (h := ?_) | refine skG (h := ?_))
        refine sop (h := fun K9 hK9 => ?_)
        go_simp
        refine HNR.out.mono ?_
        rintro e w5 ⟨rfl, hw⟩
        subst hw
        refine ckk hK9 ⟨⟨m0, m2, m3, m4⟩, q0, q1, q2, q3⟩ (h := ?_)
        clear hK9 K9
        repeat (first | refine tk0 (h := ?_) | refine tkG (h := ?_) | refine skG (h := ?_))
        refine seq_done (by kernel_rfl) ?_
        generalize hb0 : decide (a < t - c.born) = b0
        generalize hb1 : decide (r ≤ c.ret) = b1
        generalize hb2 : decide (p < (c.rep.length : Int)) = b2
        generalize hb3 : nearB c.rep x = b3
        generalize hb4 : decide (0 < c.opn.length) = b4
        have HBS : Hid (casBits c t a r p x = [b0, b1, b2, b3, b4]) := by show _ = _; unfold casBits; rw [hb0, hb1, hb2, hb3, hb4]
        rw [HBS.out] at HFIN
        obtain ⟨bs, hbs⟩ : ∃ q, q = [b0, b1, b2, b3, b4] := ⟨_, rfl⟩
        rw [← hbs] at HFIN
        have ix : ∀ (j : Nat), j < 5 → ∀ W, (Instr.index 114 (.agg #[.bool b0, .bool b1, .bool b2, .bool b3, .bool b4]) (.int .i64 (j : Int))).run Tryz.prog W = .ok (.bool (bs.getD j false)) W := fun j hj W => by
          subst hbs
          rcases (by omega : j = 0 ∨ j = 1 ∨ j = 2 ∨ j = 3 ∨ j = 4) with rfl | rfl | rfl | rfl | rfl <;> kernel_rfl
        have HIX := Lib.hid ix
        clear hb0 hb1 hb2 hb3 hb4 hbs ix m0 m2 m3 m4 q0 q1 q2 q3 HNR HC HI
        go_wp2_with fail
        go_loopw [12, 79] (fun ov2 iv w2 => ∃ (j : Nat) (A' : Option Addr) (m c' : Nat), j ≤ 5 ∧ iv = .int .i64 (j : Int) ∧ ov2 = .slice A' m c' ∧ Hid (m = (bitsL bs j).length) ∧ Hid (OwnI w2 w.heap.size (.slice A' m c') (bitsL bs j)) ∧ Hid (Below w.heap.size w w2)) (fun _ iv _ => 5 - (RowKit.intOf iv).toNat)
        case atStart => exact ⟨0, none, 0, 0, Nat.zero_le _, rfl, rfl, rfl, OwnI.nil _ _, HJd.out⟩
        case round =>
          obtain ⟨j, A', m, c', hj, rfl, rfl, HM, HO, HJ2⟩ := hrel
          by_cases hj5 : j < 5
          · have hx := HIX.out j hj5
            have hjj : (j : Int) < 5 := by omega
            have hw1 : IntKind.i64.wrap (1 + (j : Int)) = (j : Int) + 1 := by rw [IntWalk.i64_in _ (by omega)]; omega
            have hw2 : IntKind.i64.wrap ((j : Int) + 1) = (j : Int) + 1 := IntWalk.i64_in _ (by omega)
            cases hbit : bs.getD j false with
            | true =>
              have HY := Lib.hid (bits_yes hbit)
              rw [hbit] at hx
              have HML : Hid (m ≤ 100000) := by show _ ≤ _; have := HM.out; have := bits_len bs j; omega
              clear hbit
              go_wp2_with (at_builtin; refine wpList_pushI rfl _ _ rfl rfl rfl rfl rfl HM.out.symm HO.out HML.out HJ2.out.size ?_; intro A5 c5 w5 HO5 HG5; replace HO5 := Lib.hid HO5; replace HG5 := Lib.hid HG5)
              go_roundw
              case rel => exact ⟨j + 1, A5, m + 1, c5, by omega, by go_num, rfl, by show _ = _; rw [HY.out, List.length_append, ← HM.out]; rfl, by show OwnI _ _ _ _; rw [HY.out]; exact HO5.out, HJ2.out.trans (HG5.out.below HJ2.out.size (fun q hq => (World.ownsRow.lt HO.out q hq).1))⟩
              case measure => simp [RowKit.intOf]; omega
            | false =>
              have HY := Lib.hid (bits_no hbit)
              rw [hbit] at hx
              clear hbit
              go_wp2_with fail
              go_roundw
              case rel => exact ⟨j + 1, A', m, c', by omega, by go_num, rfl, by show _ = _; rw [HY.out]; exact HM.out, by show OwnI _ _ _ _; rw [HY.out]; exact HO.out, HJ2.out⟩
              case measure => simp [RowKit.intOf]; omega
          · obtain rfl : j = 5 := by omega
            go_wp2_with fail
            go_ret2
            rw [HFIN.out]
            exact ⟨_, rfl, HO.out.rd, HJ2.out⟩
end Go.Proofs.YtfondpakbiagjaaGreatDoor
