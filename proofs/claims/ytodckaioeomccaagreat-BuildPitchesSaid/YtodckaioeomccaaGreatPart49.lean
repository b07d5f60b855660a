/- The walk of extend where places are missing. The contract of extend. -/
import Derived.Test.YtodckaioeomccaaGreatPart22
import Derived.Test.YtodckaioeomccaaGreatPart43
import Derived.Test.YtodckaioeomccaaGreatPart15
namespace Go.Proofs.YtodckaioeomccaaGreat
open Go.RowKit Go.Proofs.Plc
set_option linter.unusedVariables false
set_option linter.unusedSimpArgs false
set_option maxRecDepth 100000 in
set_option maxHeartbeats 4000000 in
theorem ext_node (Q : Qd → Prop) (gv pv bv : Value) (o ap : Int) (gs ps bl : List Int) (x : Qd) (st : St) (B b : Nat) (w : World) (F : Nat → St → St)
  (hs : SI w B b gv pv bv o ap ps bl x) (hst : StIs Q st bv bl x) (hg : Rd intV w (fun k => k < B) gv gs) (hl : ps.length < gs.length) (hn : gs.length ≤ 4) (hps : ∀ i, 0 ≤ at0 ps i ∧ at0 ps i < 24)
  (IH : ∀ (p : Nat) (bl : List Int) (x : Qd) (pv bv : Value) (st : St) (w : World), p < 24 → SI w B b gv pv bv o ap (ps ++ [(p : Int)]) bl x → StIs Q st bv bl x → Rd intV w (fun k => k < B) gv gs →
   Calls Tryz.prog 94 #[.pointer (some ⟨b, 0, none⟩)] w (ExtPost Q w B b gv pv o ap (ps ++ [(p : Int)]) (F p st))) :
  Calls Tryz.prog 94 #[.pointer (some ⟨b, 0, none⟩)] w (ExtPost Q w B b gv pv o ap ps (loopS (fun p s => if closeB ap ps p = true then s else F p s) (if ps = [] then 1 else 24) st)) := by
 obtain ⟨i0, hi, hz0, hz1, hz2⟩ := info_parts info3
 have hbB := hs.ble
 have hbw := blk_lt hs.blk
 have H0 : Hid (∀ k, pv.ownBlock = some k → B ≤ k ∧ k < w.heap.size) := fun k hk => hs.pl.lt k hk
 obtain ⟨W1, HW1, HB1, HSZ1, hbx⟩ := st_al0 w #[.pointer (some ⟨b, 0, none⟩)] 181
 have HS1 := h0d (hs.below hbx)
 have HX1 : Hid (RdX w W1 B b gv pv pv gs) := ⟨KeepS.of_below hbx, fun k hk => .inl hk, HB1.out, hg.below hbx⟩
 obtain ⟨A', n', cap', hgv, hgn, -⟩ := (hg.mono (S' := fun _ => True) fun _ _ => trivial).open_
 obtain ⟨A, c, hpv⟩ := hs.pl.slice
 obtain ⟨n, hpn⟩ : ∃ n, n = ps.length := ⟨_, rfl⟩
 have hnn : n < n' := by omega
 have hne : ((n : Int) == (n' : Int)) = false := beq_false_of_ne (by omega)
 have hn4 : n ≤ 4 := by omega
 have HPN := h0d hpn
 have c1 := kC HB1 0 rfl
 have c2 := HS1.out.blk.ps
 have c3 := HS1.out.blk.gs
 rw [hpv, ← hpn] at c2
 rw [hgv] at c3
 have HIH := h0d IH
 have HPS := h0d hps
 have HST := h0d hst
 have hE0 : (ps = []) ↔ n = 0 := by rw [hpn]; exact List.length_eq_zero_iff.symm
 obtain ⟨M, hM⟩ : ∃ M : Nat, M = if ps = [] then 1 else 24 := ⟨_, rfl⟩
 have HM1 : Hid (n = 0 → M = 1) := fun h => by rw [hM, if_pos (hE0.2 h)]
 have HM2 : Hid (n ≠ 0 → M = 24) := fun h => by rw [hM, if_neg (fun e => h (hE0.1 e))]
 rw [← hM]
 rw [HW1.out] at c1 c2 c3
 clear hs hst hg hl hn hps IH hbx hgv hgn hpv hpn HSZ1 HB1 hE0 hM
 obtain ⟨G, hG⟩ : ∃ G : Nat → St → St, G = fun p s => if closeB ap ps p = true then s else F p s := ⟨_, rfl⟩
 rw [← hG]
 have HGN : Hid (∀ p s, G p s = if closeB ap ps p = true then s else F p s) := fun p s => by rw [hG]
 have HL1 : Hid (∀ p s, loopS G (p + 1) s = G p (loopS G p s)) := fun p s => rfl
 have HL0 : Hid (loopS G 0 st = st) := rfl
 clear hG
 go_enter Tryz.func94, Tryz.ntmps94
 go_wp2_with fail
 go_quiet (fail)
 rw [← HW1.out]
 obtain ⟨W2, hW2⟩ : ∃ W, W = W1.drewN nq := ⟨_, rfl⟩
 have hb2 : Below W1.heap.size W1 W2 := by rw [hW2]; exact below_drewN _ nq
 rw [← hW2]
 replace HS1 := h0d (HS1.out.below hb2)
 replace HX1 := h0d (HX1.out.below hb2)
 clear hW2 hb2 c1 c2 c3 HW1
 go_wp2_with fail
 go_loopw [44] (fun iv wr => ∃ p : Nat, p ≤ 24 ∧ iv = .int .i64 (p : Int) ∧ Hid (∃ pv' bv' bl' x', SI wr B b gv pv' bv' o ap ps bl' x' ∧ StIs Q (loopS G p st) bv' bl' x' ∧ RdX w wr B b gv pv pv' gs) ∧ (n = 0 → p ≤ 1)) (fun iv _ => 24 - (intOf iv).toNat)
 case atStart => exact ⟨0, by omega, rfl, ⟨pv, bv, bl, x, HS1.out, by rw [HL0.out]; exact HST.out, HX1.out⟩, fun _ => by omega⟩
 case round =>
  obtain ⟨p, hp, rfl, HR, hp1⟩ := hrel
  clear HS1 HX1 HST
  obtain ⟨pv1, bv1, bl1, x1, hs1, hst1, hx1⟩ := HR.out
  have HS1 := h0d hs1
  have HX1 := h0d hx1
  have HST := h0d hst1
  clear hs1 hst1 hx1 HR
  have c1 : wr.cell? ⟨w.heap.size, 0, none⟩ = some (.pointer (some ⟨b, 0, none⟩)) := blk_cell HX1.out.box 0
  obtain ⟨A, c, hpv⟩ := HS1.out.pl.slice
  rw [← HPN.out] at hpv
  subst hpv
  have c2 : wr.cell? ⟨b, 99, none⟩ = some (.slice A n c) := HS1.out.blk.ps
  have HLS := h0d (HL1.out p st)
  by_cases hp24 : p < 24
  ·have hp24' : (p : Int) < 24 := by omega
   by_cases hret : n = 0 ∧ 0 < p
   ·obtain ⟨h0, h1⟩ := hret
    obtain rfl : p = 1 := by have := hp1 h0; omega
    have hn0 : ((n : Int) == 0) = true := by rw [h0]; rfl
    have HM := HM1.out h0
    go_wp2_with fail
    exact bodyPost_ret (v := .tuple #[]) (by simp [results, Tryz.results94]) rfl ⟨rfl, _, _, _, _, HS1.out, by first | exact HST.out | (rw [HM]; exact HST.out), HX1.out.keep, fun k hk => (HX1.out.own k hk).imp id (fun h => by omega)⟩
   ·have key : (((n : Int) == 0) = true ∧ ¬ (0 : Int) < (p : Int)) ∨ ((n : Int) == 0) = false := by
     rcases Nat.eq_zero_or_pos n with h0 | h0
     ·exact .inl ⟨by rw [h0]; rfl, by have := hp1 h0; omega⟩
     ·exact .inr (beq_false_of_ne (by omega))
    have HNX : Hid (n = 0 → p + 1 ≤ 1) := fun h => by omega
    rcases key with ⟨hn0, hpz⟩ | hn0
    all_goals
     go_wp2_with fail
     clear hn0
     obtain ⟨W2, hW2⟩ : ∃ W, W = wr.drew := ⟨_, rfl⟩
     have hb2 : Below wr.heap.size wr W2 := by rw [hW2]; exact (Below.refl _ _).drew
     replace HS1 := h0d (HS1.out.below hb2)
     replace HX1 := h0d (HX1.out.below hb2)
     have HC2 : Hid (W2.cell? ⟨b, 99, none⟩ = some (.slice A n c)) := HS1.out.blk.ps
     clear c1 c2 hb2
     refine seq_start (S := fun w' => w'.cell? ⟨w.heap.size, 0, none⟩ = some (.pointer (some ⟨b, 0, none⟩)) ∧ w'.cell? ⟨b, 99, none⟩ = some (.slice A n c)) (by kernel_rfl) (by kernel_rfl) (by rw [← hW2]; exact ⟨blk_cell HX1.out.box 0, HC2.out⟩) ?_
     rw [← hW2]
     clear hW2
     repeat (first | refine tk0 (h := ?_) | refine tkG (h := ?_) | refine skG (h := ?_))
     refine sop (h := fun K9 hK9 => ?_)
     go_simp
     refine (close1_any (p : Int) _ _).mono ?_
     rintro e w3 ⟨rfl, hw3⟩
     have hb3 : Below W2.heap.size W2 w3 := by rw [hw3]; exact (Below.refl _ _).alloc (Nat.le_refl _) _
     have hk3 := heap_alloc_new W2 (.cells #[.int .i64 (p : Int)] 3)
     rw [← hw3] at hk3
     have HBP : Hid (w3.cell? ⟨W2.heap.size, 0, none⟩ = some (.int .i64 (p : Int))) := blk_cell hk3 0
     replace HS1 := h0d (HS1.out.below hb3)
     replace HX1 := h0d (HX1.out.below hb3)
     have HC3 : Hid (w3.cell? ⟨b, 99, none⟩ = some (.slice A n c)) := HS1.out.blk.ps
     clear hb3 hk3 hw3 HC2
     refine ckk hK9 (by exact ⟨blk_cell HX1.out.box 0, HC3.out⟩) (h := ?_)
     clear hK9 K9
     repeat (first | refine tk0 (h := ?_) | refine tkG (h := ?_) | refine skG (h := ?_))
     refine sop (h := fun K9 hK9 => ?_)
     go_simp
     refine (close_any ap ps p b W2.heap.size w.heap.size (.slice A n c) w3 hp24 HPS.out HS1.out.pl.rd HBP.out (blk_cell HX1.out.box 0) HS1.out.blk.ap).mono ?_
     rintro e w4 ⟨rfl, hb4⟩
     replace HS1 := h0d (HS1.out.below hb4)
     replace HX1 := h0d (HX1.out.below hb4)
     have HC4 : Hid (w4.cell? ⟨b, 99, none⟩ = some (.slice A n c)) := HS1.out.blk.ps
     clear hb4 HBP HC3
     refine ckk hK9 (by exact ⟨blk_cell HX1.out.box 0, HC4.out⟩) (h := ?_)
     clear hK9 K9
     refine seq_done (by kernel_rfl) ?_
     have HGS := h0d (HGN.out p (loopS G p st))
     cases hcl : closeB ap ps p with
     | true =>
      have HST1 : Hid (StIs Q (loopS G (p + 1) st) bv1 bl1 x1) := by show StIs _ _ _ _ _; rw [HLS.out, HGS.out, if_pos hcl]; exact HST.out
      clear hcl HGS
      go_wp2_with fail
      go_roundw
      case rel => exact ⟨p + 1, by omega, by go_num, ⟨_, _, _, _, HS1.out, HST1.out, HX1.out⟩, HNX.out⟩
      case measure => simp [intOf]; omega
     | false =>
      have HLS1 : Hid (loopS G (p + 1) st = F p (loopS G p st)) := by show _ = _; rw [HLS.out, HGS.out, if_neg (by rw [hcl]; simp)]
      clear hcl HGS
      go_wp2_with fail
      obtain ⟨W5, hW5⟩ : ∃ W, W = w4.drew := ⟨_, rfl⟩
      have hb5 : Below w4.heap.size w4 W5 := by rw [hW5]; exact (Below.refl _ _).drew
      replace HS1 := h0d (HS1.out.below hb5)
      replace HX1 := h0d (HX1.out.below hb5)
      have HC5 : Hid (W5.cell? ⟨b, 99, none⟩ = some (.slice A n c)) := HS1.out.blk.ps
      clear hb5 HC4
      refine seq_start (S := fun w' => w'.cell? ⟨w.heap.size, 0, none⟩ = some (.pointer (some ⟨b, 0, none⟩))) (by kernel_rfl) (by kernel_rfl) (by rw [← hW5]; exact blk_cell HX1.out.box 0) ?_
      rw [← hW5]
      clear hW5
      have HB6 : Hid (Below W5.heap.size W5 (W5.alloc (.cells #[.int .i64 (p : Int)] 3))) := (Below.refl _ _).alloc (Nat.le_refl _) _
      have HOW : Hid ((W5.alloc (.cells #[.int .i64 (p : Int)] 3)).ownsRow B 3 1 (.slice A n c) n (ps.map intV)) := by
       have := (HS1.out.below HB6.out).pl
       unfold OwnL at this
       rw [← HPN.out] at this
       exact this
      have HBS : Hid (B ≤ (W5.alloc (.cells #[.int .i64 (p : Int)] 3)).heap.size) := Nat.le_trans hbB (Nat.le_of_lt (blk_lt (HS1.out.below HB6.out).blk))
      have HC6 : Hid ((W5.alloc (.cells #[.int .i64 (p : Int)] 3)).cell? ⟨b, 99, none⟩ = some (.slice A n c)) := (HS1.out.below HB6.out).blk.ps
      have HX6 := h0d (HX1.out.below HB6.out)
      repeat (first | refine tk0 (h := ?_) | refine tkG (h := ?_) | refine skG (h := ?_))
      refine seq_swap ?_
      (first | refine tk0 (h := ?_) | refine tkG (h := ?_) | refine skG (h := ?_))
      refine seq_both ?_ ?_ ?_ ?_ ?_
      ·kernel_rfl
      ·rfl
      ·rfl
      focus
       intro K9 hK9
       have c2 := HC5.out
       go_simp
       clear c2
       refine ckk hK9 (by exact blk_cell HX1.out.box 0) (h := ?_)
       clear hK9 K9
       refine sop (h := fun K9 hK9 => ?_)
       go_simp
       refine ckk hK9 (by exact blk_cell HX6.out.box 0) (h := ?_)
       clear hK9 K9
      rotate_left
      focus
       intro K9 hK9
       go_simp
       refine ckk hK9 (by exact blk_cell HX6.out.box 0) (h := ?_)
       clear hK9 K9
       refine sop (h := fun K9 hK9 => ?_)
       have c2 := HC6.out
       go_simp
       clear c2
       refine ckk hK9 (by exact blk_cell HX6.out.box 0) (h := ?_)
       clear hK9 K9
      all_goals
       refine sop (h := fun K9 hK9 => ?_)
       refine op_append_own rfl _ _ 22 rfl B 3 i0 (.int .i64 0) 1 8 Tryz.underlying22 hi hz0 hz1 hz2 rfl (by decide) (.slice A n c) n (ps.map intV) (by rfl) HOW.out ⟨W5.heap.size, 0, none⟩ 1 1 [.int .i64 (p : Int)] (by rfl) rfl (cells_new W5 #[.int .i64 (p : Int)] 3 (0, 0)) (fun u hu => by rw [List.mem_singleton.1 hu]; rfl) (by unfold maxLen; omega) (by omega) HBS.out ?_
       intro v' w7 hown hgr hfr
       obtain ⟨A7, c7, rfl⟩ := ownsRow_slice hown
       have HSM := h0d (HS1.out.mid HB6.out hgr)
       have HXM := h0d (HX1.out.mid (fun k hk => (H0.out k hk).2) HB6.out hgr)
       have HSP := h0d (HS1.out.push (p := (p : Int)) HB6.out hgr (by rw [← HPN.out]; exact hown) hfr)
       have HXP := h0d (HX1.out.push H0.out hbw hbB (fun k hk => (HS1.out.pl.lt k hk).1) HB6.out hgr hfr)
       have HL7 : Hid (∀ k, (Value.slice A7 (n + 1) c7).ownBlock = some k → B ≤ k) := fun k hk => (hown.lt k hk).1
       clear hown hgr hfr
       refine ckk hK9 (by exact blk_cell HXM.out 0) (h := ?_)
       clear hK9 K9
       repeat (first | refine tk0 (h := ?_) | refine tkG (h := ?_) | refine skG (h := ?_))
       refine sop (h := fun K9 hK9 => ?_)
       have c9 := HSM.out.ps
       have f9 := HSM.out.free 99
       go_simp
       clear c9 f9
       refine ckk hK9 (by exact blk_cell HXP.out.box 0) (h := ?_)
       clear hK9 K9
       refine seq_done (by kernel_rfl) ?_
       have HIP := h0d (HIH.out p bl1 x1 (.slice A7 (n + 1) c7) bv1 (loopS G p st) _ hp24 HSP.out HST.out HXP.out.gs)
       obtain ⟨W8, hW8⟩ : ∃ W, W = w7.setCell ⟨b, 99, none⟩ (.slice A7 (n + 1) c7) := ⟨_, rfl⟩
       rw [← hW8] at HIP HSP HXP ⊢
       clear hW8 HSM HXM HS1 HX1 HOW HB6 HBS HC5 HC6 HX6
       have cb : W8.cell? ⟨w.heap.size, 0, none⟩ = some (.pointer (some ⟨b, 0, none⟩)) := blk_cell HXP.out.box 0
       go_wp2_with fail
       clear cb
       refine HIP.out.mono ?_
       rintro e w9 ⟨rfl, pv9, bv9, bl9, x9, hs9, hst9, hk9, hf9⟩
       have HX9 := h0d (HXP.out.deep hbw hbB (fun k hk => (H0.out k hk).2) HL7.out hk9 hf9)
       obtain ⟨g9, c9, rfl⟩ := hs9.pl.some (by simp)
       have HS9 := h0d hs9
       have HST9 : Hid (StIs Q (loopS G (p + 1) st) bv9 bl9 x9) := by show StIs _ _ _ _ _; rw [HLS1.out]; exact hst9
       obtain ⟨n1, hn1⟩ : ∃ q, q = n + 1 := ⟨_, rfl⟩
       have HN1 : Hid ((ps ++ [(p : Int)]).length = n1) := by show _ = _; rw [hn1, List.length_append, HPN.out]; rfl
       have hcl : n1 ≤ c9 := by
        rcases hs9.pl.2 with ⟨h, _⟩ | ⟨g', c', cur, h, _, _, h2, _⟩
        ·cases h
        ·injection h with _ _ h3
         subst h3
         rw [HN1.out] at h2; exact h2
       clear hs9 hst9 hk9 hf9 HIP HSP HXP HL7
       have c1 : w9.cell? ⟨w.heap.size, 0, none⟩ = some (.pointer (some ⟨b, 0, none⟩)) := blk_cell HX9.out.box 0
       have c2 : w9.cell? ⟨b, 99, none⟩ = some (.slice (some ⟨g9, 0, none⟩) n1 c9) := by rw [← HN1.out]; exact HS9.out.blk.ps
       have f2 := HS9.out.blk.free 99
       have hw1 : IntKind.i64.wrap ((n1 : Int) - 1) = (n : Int) := by rw [IntWalk.i64_in _ (by omega)]; omega
       have hw2 : IntKind.i64.wrap (n : Int) = (n : Int) := IntWalk.i64_in _ (by omega)
       have hnc : n ≤ c9 := by omega
       have hs0 : (0 : Int) ≤ (n : Int) := by omega
       have hs1 : (n : Int) ≤ (c9 : Int) := by omega
       go_wp2_with fail
       clear c1 c2 f2
       obtain ⟨W10, hW10⟩ : ∃ W, W = w9.drew := ⟨_, rfl⟩
       have hb10 : Below w9.heap.size w9 W10 := by rw [hW10]; exact (Below.refl _ _).drew
       replace HS9 := h0d (HS9.out.below hb10)
       replace HX9 := h0d (HX9.out.below hb10)
       have HC9 : Hid (W10.cell? ⟨b, 99, none⟩ = some (.slice (some ⟨g9, 0, none⟩) n1 c9)) := by show _ = _; rw [← HN1.out]; exact HS9.out.blk.ps
       refine seq_start (S := fun w' => w'.cell? ⟨w.heap.size, 0, none⟩ = some (.pointer (some ⟨b, 0, none⟩))) (by kernel_rfl) (by kernel_rfl) (by rw [← hW10]; exact blk_cell HX9.out.box 0) ?_
       rw [← hW10]
       clear hW10 hb10
       repeat (first | refine tk0 (h := ?_) | refine tkG (h := ?_) | refine skG (h := ?_))
       refine seq_swap ?_
       (first | refine tk0 (h := ?_) | refine tkG (h := ?_) | refine skG (h := ?_))
       refine seq_swap ?_
       (first | refine tk0 (h := ?_) | refine tkG (h := ?_) | refine skG (h := ?_))
       refine seq_swap ?_
       (first | refine tk0 (h := ?_) | refine tkG (h := ?_) | refine skG (h := ?_))
       refine seq_both ?_ ?_ ?_ ?_ ?_
       ·kernel_rfl
       ·rfl
       ·rfl
       focus
        intro K9 hK9
        have c2 := HC9.out
        go_simp
        clear c2
        refine ckk hK9 (by exact blk_cell HX9.out.box 0) (h := ?_)
        clear hK9 K9
        refine sop (h := fun K9 hK9 => ?_)
        have c2 := HC9.out
        go_simp
        clear c2
        refine ckk hK9 (by exact blk_cell HX9.out.box 0) (h := ?_)
        clear hK9 K9
       rotate_left
       focus
        intro K9 hK9
        have c2 := HC9.out
        go_simp
        clear c2
        refine ckk hK9 (by exact blk_cell HX9.out.box 0) (h := ?_)
        clear hK9 K9
        refine seq_swap ?_
        (first | refine tk0 (h := ?_) | refine tkG (h := ?_) | refine skG (h := ?_))
        refine seq_swap ?_
        (first | refine tk0 (h := ?_) | refine tkG (h := ?_) | refine skG (h := ?_))
        refine sop (h := fun K9 hK9 => ?_)
        have c2 := HC9.out
        go_simp
        clear c2
        refine ckk hK9 (by exact blk_cell HX9.out.box 0) (h := ?_)
        clear hK9 K9
       all_goals
        repeat (first | refine tk0 (h := ?_) | refine tkG (h := ?_) | refine skG (h := ?_))
        refine sop (h := fun K9 hK9 => ?_)
        have c2 := HC9.out
        have f2 := HS9.out.blk.free 99
        go_simp
        clear c2 f2
        have HSF := h0d HS9.out.pop
        have HXF := h0d (HX9.out.pop (m := ps.length) hbB hbw)
        rw [← HPN.out] at HSF HXF
        refine ckk hK9 (by exact blk_cell HXF.out.box 0) (h := ?_)
        clear hK9 K9
        refine seq_done (by kernel_rfl) ?_
        go_wp2_with fail
        go_roundw
        case rel => exact ⟨p + 1, by omega, by go_num, ⟨_, _, _, _, HSF.out, HST9.out, HXF.out⟩, HNX.out⟩
        case measure => simp [intOf]; omega
  ·obtain rfl : p = 24 := by omega
   have hp24' : ¬ (24 : Int) < 24 := by omega
   have HM := HM2.out (fun h => by have := hp1 h; omega)
   clear c1 c2
   go_wp2_with fail
   exact bodyPost_ret (v := .tuple #[]) (by simp [results, Tryz.results94]) rfl ⟨rfl, _, _, _, _, HS1.out, by first | exact HST.out | (rw [HM]; exact HST.out), HX1.out.keep, fun k hk => (HX1.out.own k hk).imp id (fun h => by omega)⟩
end Go.Proofs.YtodckaioeomccaaGreat
namespace Go.Proofs.YtodckaioeomccaaGreat
open Go.RowKit Go.Proofs.Plc
set_option linter.unusedVariables false
def PsOk (ps : List Int) : Prop := ∀ i, 0 ≤ at0 ps i ∧ at0 ps i < 24
theorem PsOk.snoc {ps : List Int} (h : PsOk ps) {p : Nat} (hp : p < 24) : PsOk (ps ++ [(p : Int)]) := fun i => by
 unfold at0
 rw [List.getD_eq_getElem?_getD]
 rcases Nat.lt_trichotomy i ps.length with h1 | h1 | h1
 ·rw [List.getElem?_append_left h1]
  have := h i
  unfold at0 at this
  rwa [List.getD_eq_getElem?_getD] at this
 ·subst h1
  rw [List.getElem?_append_right (Nat.le_refl _), Nat.sub_self]
  simp; omega
 ·rw [List.getElem?_eq_none (by simp; omega)]
  simp
theorem ext_any (lt : Qd → Qd → Bool) (Q : Qd → Prop) (gv : Value) (o : Nat) (ap : Int) (gs : List Int) (B b : Nat) (hn : gs.length ≤ 4) (hn0 : gs ≠ []) (hgs : Grams gs) (ho : 1 ≤ o) (ho3 : o ≤ 3)
  (HL : ∀ x y w, Q x → Q y → Calls Tryz.prog 181 #[quadV x, quadV y] w fun e w' => e = .returned (.bool (lt x y)) ∧ Below w.heap.size w w')
  (HQ : ∀ ps : List Int, ps.length = gs.length → PsOk ps → ∀ j : Nat, j < o → Q (normN gs ps ((j : Int) + 1) ps.length)) :
  ∀ (k : Nat) (ps bl : List Int) (x : Qd) (pv bv : Value) (st : St) (w : World), SI w B b gv pv bv o ap ps bl x → StIs Q st bv bl x → Rd intV w (fun k => k < B) gv gs → ps.length + k = gs.length → PsOk ps →
   Calls Tryz.prog 94 #[.pointer (some ⟨b, 0, none⟩)] w (ExtPost Q w B b gv pv o ap ps (extS ap (updS lt gs o) k ps st))
 | 0, ps, bl, x, pv, bv, st, w, hs, hst, hg, hl, hps =>
  ext_leaf lt Q gv pv bv o ap gs ps bl x st B b w hs hst (hg.mono fun _ _ => trivial) (by omega) (fun e => hn0 (List.length_eq_zero_iff.1 (by rw [e] at hl; simpa using hl.symm))) (by omega) hgs hps ho ho3 HL (HQ ps (by omega) hps)
 | k + 1, ps, bl, x, pv, bv, st, w, hs, hst, hg, hl, hps =>
  ext_node Q gv pv bv o ap gs ps bl x st B b w (fun p s => extS ap (updS lt gs o) k (ps ++ [(p : Int)]) s) hs hst hg (by omega) hn hps
   (fun p bl x pv bv st w hp hs hst hg => ext_any lt Q gv o ap gs B b hn hn0 hgs ho ho3 HL HQ k (ps ++ [(p : Int)]) bl x pv bv st w hs hst hg (by rw [List.length_append]; simp; omega) (hps.snoc hp))
end Go.Proofs.YtodckaioeomccaaGreat
