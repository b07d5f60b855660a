/- The searcher and its rows in memory. The walk of extend where all splices have places. What happens in a round of extend's loop. Drawn regions in which memory is laid in several orders: what is known whatever the order. -/
import Derived.Test.YtodckaioeomccaaGreatPart22
import Derived.Test.YtodckaioeomccaaGreatPart38
import Derived.Test.YtodckaioeomccaaGreatPart31
import Derived.WalkSmall
import Derived.Test.YtodckaioeomccaaGreatPart28
namespace Go.Proofs.YtodckaioeomccaaGreat
open Go.RowKit Go.Proofs.Plc
set_option linter.unusedVariables false
set_option linter.unusedSimpArgs false
theorem sr_split (gv : Value) (o ap : Int) (pv bv : Value) (q : Qd) : srL gv o ap pv bv q = (gv :: .int .i64 o :: .int .i64 ap :: cosI.map intV) ++ (pv :: bv :: quadL q) := rfl
theorem sr_pre (gv : Value) (o ap : Int) : (gv :: .int .i64 o :: .int .i64 ap :: cosI.map intV : List Value).length = 99 := by simp [cosI_len]
theorem sr_set (gv : Value) (o ap : Int) (pv bv : Value) (q : Qd) (i : Nat) (u : Value) : (srL gv o ap pv bv q).set (99 + i) u = (gv :: .int .i64 o :: .int .i64 ap :: cosI.map intV) ++ (pv :: bv :: quadL q).set i u := by
 rw [sr_split, List.set_append_right _ _ (by rw [sr_pre]; omega), sr_pre, Nat.add_sub_cancel_left]
theorem SrB.put {w : World} {b : Nat} {gv : Value} {o ap : Int} {pv bv : Value} {q : Qd} (h : SrB w b gv o ap pv bv q) (i : Nat) (u : Value) {pv' bv' : Value} {q' : Qd} (e : (pv :: bv :: quadL q).set i u = pv' :: bv' :: quadL q') :
  SrB (w.setCell ⟨b, 99 + i, none⟩ u) b gv o ap pv' bv' q' := by
 have := blk_set (i := 99 + i) u h
 unfold SrB
 rw [this, List.setIfInBounds_toArray, sr_set, e]
 rfl
theorem SrB.free {w : World} {b : Nat} {gv : Value} {o ap : Int} {pv bv : Value} {q : Qd} (h : SrB w b gv o ap pv bv q) (i : Nat) : w.frozen? ⟨b, i, none⟩ = false := blk_free h i
theorem SrB.best {w : World} {b : Nat} {gv : Value} {o ap : Int} {pv bv : Value} {q : Qd} (h : SrB w b gv o ap pv bv q) (bv' : Value) (q' : Qd) :
  SrB (((((w.setCell ⟨b, 100, none⟩ bv').setCell ⟨b, 101, none⟩ (.int .i64 q'.a)).setCell ⟨b, 102, none⟩ (.int .i64 q'.b)).setCell ⟨b, 103, none⟩ (.int .i64 q'.c)).setCell ⟨b, 104, none⟩ (.int .i64 q'.d)) b gv o ap pv bv' q' :=
 ((((h.put 1 bv' (q' := q) rfl).put 2 (.int .i64 q'.a) (q' := ⟨q'.a, q.b, q.c, q.d⟩) rfl).put 3 (.int .i64 q'.b) (q' := ⟨q'.a, q'.b, q.c, q.d⟩) rfl).put 4 (.int .i64 q'.c) (q' := ⟨q'.a, q'.b, q'.c, q.d⟩) rfl).put 5 (.int .i64 q'.d) rfl
theorem SrB.worst {w : World} {b : Nat} {gv : Value} {o ap : Int} {pv bv : Value} {q : Qd} (h : SrB w b gv o ap pv bv q) :
  w.cell? ⟨b, 101, none⟩ = some (.int .i64 q.a) ∧ w.cell? ⟨b, 102, none⟩ = some (.int .i64 q.b) ∧ w.cell? ⟨b, 103, none⟩ = some (.int .i64 q.c) ∧ w.cell? ⟨b, 104, none⟩ = some (.int .i64 q.d) :=
 ⟨h.at_ (sr_ps _ _ _ _ _ _ 2), h.at_ (sr_ps _ _ _ _ _ _ 3), h.at_ (sr_ps _ _ _ _ _ _ 4), h.at_ (sr_ps _ _ _ _ _ _ 5)⟩
structure SI (w : World) (B b : Nat) (gv pv bv : Value) (o ap : Int) (ps bl : List Int) (x : Qd) : Prop where
 blk : SrB w b gv o ap pv bv x
 pl : OwnL w B pv ps
 be : OwnL w B bv bl
 ble : B ≤ b
 ne : ∀ k, pv.ownBlock = some k → bv.ownBlock ≠ some k
 nb : pv.ownBlock ≠ some b
 nc : bv.ownBlock ≠ some b
theorem SI.below {w w' : World} {B b : Nat} {gv pv bv : Value} {o ap : Int} {ps bl : List Int} {x : Qd} (h : SI w B b gv pv bv o ap ps bl x) (hb : Below w.heap.size w w') : SI w' B b gv pv bv o ap ps bl x :=
 ⟨h.blk.below hb, h.pl.stay hb, h.be.stay hb, h.ble, h.ne, h.nb, h.nc⟩
theorem own_grown {w w' : World} {B b : Nat} {v : Value} {l : List Int} (h : OwnL w B v l) (hg : w.grownBy w' (some b)) (hne : v.ownBlock ≠ some b) : OwnL w' B v l :=
 World.ownsRow.kept h hg (.inr hne)
theorem set1_grown (w : World) (b i : Nat) (u : Value) : w.grownBy (w.setCell ⟨b, i, none⟩ u) (some b) :=
 ⟨rfl, rfl, rfl, by simp, fun k _ hk => by
  have hne : k ≠ b := fun e => hk (by rw [e])
  rw [heap_setCell_other _ _ _ _ hne]⟩
theorem set5_grown (w : World) (b : Nat) (u0 u1 u2 u3 u4 : Value) : w.grownBy (((((w.setCell ⟨b, 100, none⟩ u0).setCell ⟨b, 101, none⟩ u1).setCell ⟨b, 102, none⟩ u2).setCell ⟨b, 103, none⟩ u3).setCell ⟨b, 104, none⟩ u4) (some b) :=
 gr_trans (gr_trans (gr_trans (gr_trans (set1_grown w b 100 u0) (set1_grown _ b 101 u1)) (set1_grown _ b 102 u2)) (set1_grown _ b 103 u3)) (set1_grown _ b 104 u4)
def StIs (Q : Qd → Prop) (st : St) (bv : Value) (bl : List Int) (x : Qd) : Prop := match st with
 | none => bv = .slice none 0 0 ∧ bl = [] ∧ x = .zero
 | some (l, q) => bl = l ∧ x = q ∧ l ≠ [] ∧ Q q
def KeepS (b : Nat) (pv : Value) (w w' : World) : Prop := Keep (fun k => k < w.heap.size ∧ k ≠ b ∧ pv.ownBlock ≠ some k) w w'
def ExtPost (Q : Qd → Prop) (w : World) (B b : Nat) (gv pv : Value) (o ap : Int) (ps : List Int) (st : St) (e : Ending) (w' : World) : Prop :=
 e = .returned (.tuple #[]) ∧ ∃ pv' bv' bl' x', SI w' B b gv pv' bv' o ap ps bl' x' ∧ StIs Q st bv' bl' x' ∧ KeepS b pv w w' ∧ ∀ k, pv'.ownBlock = some k → pv.ownBlock = some k ∨ w.heap.size ≤ k
theorem KeepS.of_below {b : Nat} {pv : Value} {w w' : World} (h : Below w.heap.size w w') : KeepS b pv w w' := ⟨h.os, h.tape, h.output, h.size, fun k hk => h.block k hk.1⟩
theorem KeepS.best {b : Nat} {pv : Value} {w w' : World} (h : KeepS b pv w w') (u0 u1 u2 u3 u4 : Value) : KeepS b pv w (((((w'.setCell ⟨b, 100, none⟩ u0).setCell ⟨b, 101, none⟩ u1).setCell ⟨b, 102, none⟩ u2).setCell ⟨b, 103, none⟩ u3).setCell ⟨b, 104, none⟩ u4) := by
 have hg := set5_grown w' b u0 u1 u2 u3 u4
 exact ⟨hg.os.trans h.os, hg.tape.trans h.tape, hg.output.trans h.output, Nat.le_trans h.size hg.size, fun k hk => (hg.block k (Nat.lt_of_lt_of_le hk.1 h.size) (fun e => hk.2.1 (Option.some.inj e))).trans (h.block k hk)⟩
theorem SI.best {w w' : World} {B b gn cn : Nat} {gv pv bv : Value} {o ap : Int} {ps bl : List Int} {x : Qd} (h : SI w B b gv pv bv o ap ps bl x) (hb : Below w.heap.size w w') (ho : OwnL w' w.heap.size (.slice (some ⟨gn, 0, none⟩) ps.length cn) ps) (hB : B ≤ w.heap.size) (q' : Qd) :
  SI (((((w'.setCell ⟨b, 100, none⟩ (.slice (some ⟨gn, 0, none⟩) ps.length cn)).setCell ⟨b, 101, none⟩ (.int .i64 q'.a)).setCell ⟨b, 102, none⟩ (.int .i64 q'.b)).setCell ⟨b, 103, none⟩ (.int .i64 q'.c)).setCell ⟨b, 104, none⟩ (.int .i64 q'.d)) B b gv pv (.slice (some ⟨gn, 0, none⟩) ps.length cn) o ap ps ps q' := by
 have h' := h.below hb
 have hg := set5_grown w' b (.slice (some ⟨gn, 0, none⟩) ps.length cn) (.int .i64 q'.a) (.int .i64 q'.b) (.int .i64 q'.c) (.int .i64 q'.d)
 have hlt := blk_lt h.blk
 obtain ⟨_, hgn, hgc⟩ := own_block ho
 have hnb : (Value.slice (some ⟨gn, 0, none⟩) ps.length cn).ownBlock ≠ some b := fun e => by simp [Value.ownBlock] at e; omega
 refine ⟨h'.blk.best _ q', own_grown h'.pl hg h'.nb, own_grown (ownsRow_mono ho hB) hg hnb, h'.ble, fun k hk e => ?_, h'.nb, hnb⟩
 simp [Value.ownBlock] at e
 have := (h.pl.lt k hk).2
 omega
def updY (lt : Qd → Qd → Bool) (ps : List Int) (Y : Qd) : St → St
 | none => some (ps, Y)
 | some (l, q) => if lt Y q = true then some (ps, Y) else some (l, q)
theorem updS_eq (lt : Qd → Qd → Bool) (gs : List Int) (o : Nat) (ps : List Int) (st : St) : updS lt gs o ps st = updY lt ps (worstN lt gs ps o) st := by cases st <;> rfl
end Go.Proofs.YtodckaioeomccaaGreat
namespace Go.Proofs.YtodckaioeomccaaGreat
open Go.RowKit Go.Proofs.Plc
set_option linter.unusedVariables false
set_option linter.unusedSimpArgs false
theorem nil_eq : ∀ w, (binOp .eql 22 (.slice none 0 0) (.slice none 0 0)).run Tryz.prog w = .ok (.bool true) w := fun w => by kernel_rfl
theorem nil_ne (g n c : Nat) : ∀ w, (binOp .eql 22 (.slice (some ⟨g, 0, none⟩) n c) (.slice none 0 0)).run Tryz.prog w = .ok (.bool false) w := fun w => by kernel_rfl
theorem below_drewN (w : World) (n : Nat) : Below w.heap.size w (w.drewN n) := ⟨rfl, rfl, rfl, Nat.le_refl _, fun _ _ => rfl⟩
set_option maxRecDepth 100000 in
set_option maxHeartbeats 4000000 in
theorem ext_leaf (lt : Qd → Qd → Bool) (Q : Qd → Prop) (gv pv bv : Value) (o : Nat) (ap : Int) (gs ps bl : List Int) (x : Qd) (st : St) (B b : Nat) (w : World)
  (hs : SI w B b gv pv bv o ap ps bl x) (hst : StIs Q st bv bl x) (hg : RdL w gv gs) (hl : ps.length = gs.length) (hl0 : ps ≠ []) (hn : ps.length ≤ 4) (hgs : Grams gs) (hps : ∀ i, 0 ≤ at0 ps i ∧ at0 ps i < 24) (ho : 1 ≤ o) (ho3 : o ≤ 3)
  (HL : ∀ x y w, Q x → Q y → Calls Tryz.prog 181 #[quadV x, quadV y] w fun e w' => e = .returned (.bool (lt x y)) ∧ Below w.heap.size w w')
  (HQ : ∀ j : Nat, j < o → Q (normN gs ps ((j : Int) + 1) ps.length)) :
  Calls Tryz.prog 94 #[.pointer (some ⟨b, 0, none⟩)] w (ExtPost Q w B b gv pv o ap ps (updS lt gs o ps st)) := by
 obtain ⟨Y, hY⟩ : ∃ Y, Y = worstN lt gs ps o := ⟨_, rfl⟩
 have HQY : Hid (Q Y) := by
  show Q Y
  rw [hY]
  obtain ⟨o', rfl⟩ : ∃ o', o = o' + 1 := ⟨o - 1, by omega⟩
  exact worst_q HQ o' (by omega)
 have HVA := h0d (fun w hb hg hp => value_any lt Q gv pv bv o ap gs ps x b w hb hg hp hl hn hgs hps ho3 HL HQ)
 rw [← hY] at HVA
 rw [updS_eq, ← hY]
 have hbB := hs.ble
 have hbw := blk_lt hs.blk
 have hbB0 : B ≤ w.heap.size := by omega
 obtain ⟨W1, HW1, HB1, HSZ1, hbx⟩ := st_al0 w #[.pointer (some ⟨b, 0, none⟩)] 181
 have HS1 := h0d (hs.below hbx)
 have HG1 := h0d (hg.below hbx)
 have HBE := h0d hbx
 obtain ⟨g, cap, hpv⟩ := hs.pl.some hl0
 have HPV := h0d hpv
 subst hpv
 obtain ⟨A', n', cap', rfl, hgn, -⟩ := hg.open_
 have HGN : Hid ((ps.length : Int) = (n' : Int)) := by show _ = _; rw [hl, hgn]
 have HST := h0d hst
 have HN4 := h0d hn
 have HL0 := h0d hl0
 have HHL := h0d HL
 have c1 := kC HB1 0 rfl
 have c2 := HS1.out.blk.ps
 have c3 := HS1.out.blk.gs
 obtain ⟨n, hpn⟩ : ∃ n, n = ps.length := ⟨_, rfl⟩
 have HPN := h0d hpn
 rw [← hpn] at c2 HGN
 obtain rfl : n = n' := by have := HGN.out; omega
 clear hs hst hg hl hl0 hn hgs hps HL HQ hY hbx hgn hpn HGN
 rw [HW1.out] at c1 c2 c3
 go_enter Tryz.func94, Tryz.ntmps94
 go_wp2_with fail
 go_quiet (fail)
 rw [← HW1.out]
 obtain ⟨W2, hW2⟩ : ∃ W, W = W1.drewN nq := ⟨_, rfl⟩
 have hb2 : Below W1.heap.size W1 W2 := by rw [hW2]; exact below_drewN _ nq
 rw [← hW2]
 replace HS1 := h0d (HS1.out.below hb2)
 replace HG1 := h0d (HG1.out.below hb2)
 replace HB1 := kB HB1 hb2
 replace HBE := kU HBE hb2
 clear hW2 hb2 c1 c2 c3 HW1 HSZ1
 have c1 := kC HB1 0 rfl
 go_wp2_with fail
 refine (HVA.out _ HS1.out.blk HG1.out HS1.out.pl.rd).mono ?_
 rintro e w3 ⟨rfl, hb3⟩
 replace HS1 := h0d (HS1.out.below hb3)
 replace HB1 := kB HB1 hb3
 replace HBE := kU HBE hb3
 have HW3 : Hid (w.heap.size ≤ w3.heap.size) := HBE.out.size
 clear hb3 c1 HVA HG1
 obtain ⟨W4, HW4, HY4, HSZ4, hb4⟩ := st_al0 w3 #[.int .i64 Y.a, .int .i64 Y.b, .int .i64 Y.c, .int .i64 Y.d] 183
 replace HS1 := h0d (HS1.out.below hb4)
 replace HB1 := kB HB1 hb4
 replace HBE := kU HBE hb4
 obtain ⟨yb, hyb⟩ : ∃ yb, yb = w3.heap.size := ⟨_, rfl⟩
 unfold quadV
 have d1 := kC HB1 0 rfl
 rw [HW4.out] at d1
 have HCL := h0d (fun w h => clone_own (.slice (some ⟨g, 0, none⟩) ps.length cap) ps w (B := B) h (by have := HN4.out; omega) HL0.out)
 clear hb4
 cases st with
 | none =>
  obtain ⟨rfl, rfl, rfl⟩ := HST.out
  have d2 := HS1.out.blk.be
  rw [HW4.out] at d2
  go_wp2_with fail
  rw [← HW4.out]
  clear d1 d2
  refine seq_start (S := fun w' => w'.cell? ⟨w.heap.size, 0, none⟩ = some (.pointer (some ⟨b, 0, none⟩)) ∧ w'.cell? ⟨b, 100, none⟩ = some (.slice none 0 0)) (by kernel_rfl) (by kernel_rfl) (by exact ⟨kD HB1 0, HS1.out.blk.be⟩) ?_
  have hnil := nil_eq
  repeat (first | refine tk0 (h := ?_) | refine tkG (h := ?_) | refine skG (h := ?_))
  refine seq_done (by kernel_rfl) ?_
  clear hnil
  obtain ⟨W5, hW5⟩ : ∃ W, W = W4.drew := ⟨_, rfl⟩
  have hb5 : Below W4.heap.size W4 W5 := by rw [hW5]; exact (Below.refl _ _).drew
  rw [← hW5]
  replace HS1 := h0d (HS1.out.below hb5)
  replace HB1 := kB HB1 hb5
  replace HY4 := kB HY4 hb5
  replace HBE := kU HBE hb5
  clear hW5 hb5
  go_wp2_with fail
  obtain ⟨W6, hW6⟩ : ∃ W, W = W5.drew := ⟨_, rfl⟩
  have hb6 : Below W5.heap.size W5 W6 := by rw [hW6]; exact (Below.refl _ _).drew
  replace HS1 := h0d (HS1.out.below hb6)
  replace HB1 := kB HB1 hb6
  replace HY4 := kB HY4 hb6
  replace HBE := kU HBE hb6
  clear hb6
  have HPS : Hid (W6.cell? ⟨b, 99, none⟩ = some (.slice (some ⟨g, 0, none⟩) n cap)) := by show _ = _; rw [HPN.out]; exact HS1.out.blk.ps
  refine seq_start (S := fun w' => w'.cell? ⟨w.heap.size, 0, none⟩ = some (.pointer (some ⟨b, 0, none⟩)) ∧ w'.cell? ⟨b, 99, none⟩ = some (.slice (some ⟨g, 0, none⟩) n cap) ∧ w'.cell? ⟨w3.heap.size, 0, none⟩ = some (.int .i64 Y.a) ∧ w'.cell? ⟨w3.heap.size, 1, none⟩ = some (.int .i64 Y.b) ∧ w'.cell? ⟨w3.heap.size, 2, none⟩ = some (.int .i64 Y.c) ∧ w'.cell? ⟨w3.heap.size, 3, none⟩ = some (.int .i64 Y.d)) (by kernel_rfl) (by kernel_rfl) (by rw [← hW6]; exact ⟨kD HB1 0, HPS.out, kD HY4 0, kD HY4 1, kD HY4 2, kD HY4 3⟩) ?_
  rw [← hW6]
  clear hW6
  repeat (first | refine tk0 (h := ?_) | refine tkG (h := ?_) | refine skG (h := ?_))
  refine seq_swap ?_
  (first | refine tk0 (h := ?_) | refine tkG (h := ?_) | refine skG (h := ?_))
  refine sop (h := fun K9 hK9 => ?_)
  go_simp
  rw [HPN.out]
  refine (HCL.out _ HS1.out.pl).mono ?_
  rintro e w7 ⟨⟨gn, cn, rfl, hon⟩, hb7⟩
  have HPS7 : Hid (w7.cell? ⟨b, 99, none⟩ = some (.slice (some ⟨g, 0, none⟩) n cap)) := by show _ = _; rw [HPN.out]; exact (HS1.out.below hb7).blk.ps
  have HB7 := kB HB1 hb7
  have HY7 := kB HY4 hb7
  refine ckk hK9 (by exact ⟨kD HB7 0, HPS7.out, kD HY7 0, kD HY7 1, kD HY7 2, kD HY7 3⟩) (h := ?_)
  clear hK9 K9
  repeat (first | refine tk0 (h := ?_) | refine tkG (h := ?_) | refine skG (h := ?_))
  refine sop (h := fun K9 hK9 => ?_)
  have e0 := (HS1.out.below hb7).blk.be
  have e1 := (HS1.out.below hb7).blk.free 100
  go_simp
  obtain ⟨W8, hW8⟩ : ∃ W, W = w7.setCell ⟨b, 100, none⟩ (.slice (some ⟨gn, 0, none⟩) ps.length cn) := ⟨_, rfl⟩
  have hb9 : b ≠ w.heap.size := by omega
  have hb10 : b ≠ w3.heap.size := by have := HW3.out; omega
  have HB8 : Hid (W8.heap[w.heap.size]? = some (.cells #[.pointer (some ⟨b, 0, none⟩)] 181 (0, 0))) := by show _ = _; rw [hW8]; exact blk_other _ HB7.out hb9.symm
  have HY8 : Hid (W8.heap[w3.heap.size]? = some (.cells #[.int .i64 Y.a, .int .i64 Y.b, .int .i64 Y.c, .int .i64 Y.d] 183 (0, 0))) := by show _ = _; rw [hW8]; exact blk_other _ HY7.out hb10.symm
  have HBK : Hid (SrB W8 b (.slice A' n cap') o ap (.slice (some ⟨g, 0, none⟩) ps.length cap) (.slice (some ⟨gn, 0, none⟩) ps.length cn) .zero) := by show SrB _ _ _ _ _ _ _ _; rw [hW8]; exact (HS1.out.below hb7).blk.put 1 _ rfl
  have HPS8 : Hid (W8.cell? ⟨b, 99, none⟩ = some (.slice (some ⟨g, 0, none⟩) n cap)) := by show _ = _; rw [HPN.out]; exact HBK.out.ps
  rw [← hW8]
  have HW8 := h0d hW8
  clear hW8 e0 e1
  refine ckk hK9 (by exact ⟨kD HB8 0, HPS8.out, kD HY8 0, kD HY8 1, kD HY8 2, kD HY8 3⟩) (h := ?_)
  clear hK9 K9
  repeat (first | refine tk0 (h := ?_) | refine tkG (h := ?_) | refine skG (h := ?_))
  refine sop (h := fun K9 hK9 => ?_)
  have HTH : Hid (W8.there b 101 4) := blk_there HBK.out (by rw [List.size_toArray, sr_split, List.length_append, sr_pre]; exact Nat.le_refl _)
  refine wp_store_mid 183 _ _ (by rfl) b 101 #[.int .i64 Y.a, .int .i64 Y.b, .int .i64 Y.c, .int .i64 Y.d] (by rfl) (by rfl) (by exact HTH.out) (by kernel_rfl) (by kernel_rfl) ?_
  have HSI := h0d (HS1.out.best hb7 hon (Nat.le_trans hbB0 HBE.out.size) Y)
  have HKS : Hid (KeepS b (.slice (some ⟨g, 0, none⟩) ps.length cap) w _) := (KeepS.of_below (HBE.out.trans (hb7.mono HBE.out.size))).best (.slice (some ⟨gn, 0, none⟩) ps.length cn) (.int .i64 Y.a) (.int .i64 Y.b) (.int .i64 Y.c) (.int .i64 Y.d)
  rw [← HW8.out] at HSI HKS
  obtain ⟨W9, hW9⟩ : ∃ W, W = (((W8.setCell ⟨b, 101, none⟩ (.int .i64 Y.a)).setCell ⟨b, 102, none⟩ (.int .i64 Y.b)).setCell ⟨b, 103, none⟩ (.int .i64 Y.c)).setCell ⟨b, 104, none⟩ (.int .i64 Y.d) := ⟨_, rfl⟩
  have hE : W8.setCells b 101 (#[.int .i64 Y.a, .int .i64 Y.b, .int .i64 Y.c, .int .i64 Y.d] : Array Value).toList = W9 := by rw [hW9]; rfl
  have hS : W9 = setsW W8 b 101 [.int .i64 Y.a, .int .i64 Y.b, .int .i64 Y.c, .int .i64 Y.d] := hW9
  have HB9 := kO hS HB8 hb9.symm
  have HY9 := kO hS HY8 hb10.symm
  rw [← hW9] at HSI HKS
  have HPS9 : Hid (W9.cell? ⟨b, 99, none⟩ = some (.slice (some ⟨g, 0, none⟩) n cap)) := by show _ = _; rw [HPN.out]; exact HSI.out.blk.ps
  rw [hE]
  refine ckk hK9 (by exact ⟨kD HB9 0, HPS9.out, kD HY9 0, kD HY9 1, kD HY9 2, kD HY9 3⟩) (h := ?_)
  clear hK9 K9 hE hS hW9
  refine seq_done (by kernel_rfl) ?_
  go_wp2_with fail
  exact bodyPost_ret (v := .tuple #[]) (by simp [results, Tryz.results94]) rfl ⟨rfl, _, _, _, _, HSI.out, ⟨rfl, rfl, HL0.out, HQY.out⟩, HKS.out, fun k hk => .inl hk⟩
 | some lq =>
  obtain ⟨l, q⟩ := lq
  obtain ⟨rfl, rfl, hl0, hqx⟩ := HST.out
  obtain ⟨gb, cb, rfl⟩ := HS1.out.be.some hl0
  have HLB : Hid (bl ≠ []) := hl0
  have HQX : Hid (Q x) := hqx
  have HLX := h0d (fun w => HHL.out Y x w HQY.out HQX.out)
  unfold quadV at HLX
  clear hl0 hqx HHL HST
  go_wp2_with fail
  rw [← HW4.out]
  clear d1
  have hnil := nil_ne gb bl.length cb
  obtain ⟨W5, hW5⟩ : ∃ W, W = W4.drew := ⟨_, rfl⟩
  have hb5 : Below W4.heap.size W4 W5 := by rw [hW5]; exact (Below.refl _ _).drew
  replace HS1 := h0d (HS1.out.below hb5)
  replace HB1 := kB HB1 hb5
  replace HY4 := kB HY4 hb5
  replace HBE := kU HBE hb5
  refine seq_start (S := fun w' => w'.cell? ⟨w.heap.size, 0, none⟩ = some (.pointer (some ⟨b, 0, none⟩)) ∧ w'.cell? ⟨b, 100, none⟩ = some (.slice (some ⟨gb, 0, none⟩) bl.length cb) ∧ (w'.cell? ⟨w3.heap.size, 0, none⟩ = some (.int .i64 Y.a) ∧ w'.cell? ⟨w3.heap.size, 1, none⟩ = some (.int .i64 Y.b) ∧ w'.cell? ⟨w3.heap.size, 2, none⟩ = some (.int .i64 Y.c) ∧ w'.cell? ⟨w3.heap.size, 3, none⟩ = some (.int .i64 Y.d)) ∧ w'.cell? ⟨b, 101, none⟩ = some (.int .i64 x.a) ∧ w'.cell? ⟨b, 102, none⟩ = some (.int .i64 x.b) ∧ w'.cell? ⟨b, 103, none⟩ = some (.int .i64 x.c) ∧ w'.cell? ⟨b, 104, none⟩ = some (.int .i64 x.d)) (by kernel_rfl) (by kernel_rfl) (by rw [← hW5]; exact ⟨kD HB1 0, HS1.out.blk.be, ⟨kD HY4 0, kD HY4 1, kD HY4 2, kD HY4 3⟩, HS1.out.blk.worst⟩) ?_
  rw [← hW5]
  clear hW5 hb5
  repeat (first | refine tk0 (h := ?_) | refine tkG (h := ?_) | refine skG (h := ?_))
  refine sop (h := fun K9 hK9 => ?_)
  go_simp
  clear hnil
  refine (HLX.out _).mono ?_
  rintro e w6 ⟨rfl, hb6⟩
  replace HS1 := h0d (HS1.out.below hb6)
  replace HB1 := kB HB1 hb6
  replace HY4 := kB HY4 hb6
  replace HBE := kU HBE hb6
  clear hb6
  refine ckk hK9 (by exact ⟨kD HB1 0, HS1.out.blk.be, ⟨kD HY4 0, kD HY4 1, kD HY4 2, kD HY4 3⟩, HS1.out.blk.worst⟩) (h := ?_)
  clear hK9 K9
  repeat (first | refine tk0 (h := ?_) | refine tkG (h := ?_) | refine skG (h := ?_))
  refine seq_done (by kernel_rfl) ?_
  cases hlt : lt Y x with
  | true =>
   have HUY : Hid (updY lt ps Y (some (bl, x)) = some (ps, Y)) := if_pos hlt
   clear hlt HLX
   go_wp2_with fail
   obtain ⟨W6, hW6⟩ : ∃ W, W = w6.drew := ⟨_, rfl⟩
   have hb6 : Below w6.heap.size w6 W6 := by rw [hW6]; exact (Below.refl _ _).drew
   replace HS1 := h0d (HS1.out.below hb6)
   replace HB1 := kB HB1 hb6
   replace HY4 := kB HY4 hb6
   replace HBE := kU HBE hb6
   clear hb6
   have HPS : Hid (W6.cell? ⟨b, 99, none⟩ = some (.slice (some ⟨g, 0, none⟩) n cap)) := by show _ = _; rw [HPN.out]; exact HS1.out.blk.ps
   refine seq_start (S := fun w' => w'.cell? ⟨w.heap.size, 0, none⟩ = some (.pointer (some ⟨b, 0, none⟩)) ∧ w'.cell? ⟨b, 99, none⟩ = some (.slice (some ⟨g, 0, none⟩) n cap) ∧ w'.cell? ⟨w3.heap.size, 0, none⟩ = some (.int .i64 Y.a) ∧ w'.cell? ⟨w3.heap.size, 1, none⟩ = some (.int .i64 Y.b) ∧ w'.cell? ⟨w3.heap.size, 2, none⟩ = some (.int .i64 Y.c) ∧ w'.cell? ⟨w3.heap.size, 3, none⟩ = some (.int .i64 Y.d)) (by kernel_rfl) (by kernel_rfl) (by rw [← hW6]; exact ⟨kD HB1 0, HPS.out, kD HY4 0, kD HY4 1, kD HY4 2, kD HY4 3⟩) ?_
   rw [← hW6]
   clear hW6
   repeat (first | refine tk0 (h := ?_) | refine tkG (h := ?_) | refine skG (h := ?_))
   refine seq_swap ?_
   (first | refine tk0 (h := ?_) | refine tkG (h := ?_) | refine skG (h := ?_))
   refine sop (h := fun K9 hK9 => ?_)
   go_simp
   rw [HPN.out]
   refine (HCL.out _ HS1.out.pl).mono ?_
   rintro e w7 ⟨⟨gn, cn, rfl, hon⟩, hb7⟩
   have HPS7 : Hid (w7.cell? ⟨b, 99, none⟩ = some (.slice (some ⟨g, 0, none⟩) n cap)) := by show _ = _; rw [HPN.out]; exact (HS1.out.below hb7).blk.ps
   have HB7 := kB HB1 hb7
   have HY7 := kB HY4 hb7
   refine ckk hK9 (by exact ⟨kD HB7 0, HPS7.out, kD HY7 0, kD HY7 1, kD HY7 2, kD HY7 3⟩) (h := ?_)
   clear hK9 K9
   repeat (first | refine tk0 (h := ?_) | refine tkG (h := ?_) | refine skG (h := ?_))
   refine sop (h := fun K9 hK9 => ?_)
   have e0 := (HS1.out.below hb7).blk.be
   have e1 := (HS1.out.below hb7).blk.free 100
   go_simp
   obtain ⟨W8, hW8⟩ : ∃ W, W = w7.setCell ⟨b, 100, none⟩ (.slice (some ⟨gn, 0, none⟩) ps.length cn) := ⟨_, rfl⟩
   have hb9 : b ≠ w.heap.size := by omega
   have hb10 : b ≠ w3.heap.size := by have := HW3.out; omega
   have HB8 : Hid (W8.heap[w.heap.size]? = some (.cells #[.pointer (some ⟨b, 0, none⟩)] 181 (0, 0))) := by show _ = _; rw [hW8]; exact blk_other _ HB7.out hb9.symm
   have HY8 : Hid (W8.heap[w3.heap.size]? = some (.cells #[.int .i64 Y.a, .int .i64 Y.b, .int .i64 Y.c, .int .i64 Y.d] 183 (0, 0))) := by show _ = _; rw [hW8]; exact blk_other _ HY7.out hb10.symm
   have HBK : Hid (SrB W8 b (.slice A' n cap') o ap (.slice (some ⟨g, 0, none⟩) ps.length cap) (.slice (some ⟨gn, 0, none⟩) ps.length cn) x) := by show SrB _ _ _ _ _ _ _ _; rw [hW8]; exact (HS1.out.below hb7).blk.put 1 _ rfl
   have HPS8 : Hid (W8.cell? ⟨b, 99, none⟩ = some (.slice (some ⟨g, 0, none⟩) n cap)) := by show _ = _; rw [HPN.out]; exact HBK.out.ps
   rw [← hW8]
   have HW8 := h0d hW8
   clear hW8 e0 e1
   refine ckk hK9 (by exact ⟨kD HB8 0, HPS8.out, kD HY8 0, kD HY8 1, kD HY8 2, kD HY8 3⟩) (h := ?_)
   clear hK9 K9
   repeat (first | refine tk0 (h := ?_) | refine tkG (h := ?_) | refine skG (h := ?_))
   refine sop (h := fun K9 hK9 => ?_)
   have HTH : Hid (W8.there b 101 4) := blk_there HBK.out (by rw [List.size_toArray, sr_split, List.length_append, sr_pre]; exact Nat.le_refl _)
   refine wp_store_mid 183 _ _ (by rfl) b 101 #[.int .i64 Y.a, .int .i64 Y.b, .int .i64 Y.c, .int .i64 Y.d] (by rfl) (by rfl) (by exact HTH.out) (by kernel_rfl) (by kernel_rfl) ?_
   have HSI := h0d (HS1.out.best hb7 hon (Nat.le_trans hbB0 HBE.out.size) Y)
   have HKS : Hid (KeepS b (.slice (some ⟨g, 0, none⟩) ps.length cap) w _) := (KeepS.of_below (HBE.out.trans (hb7.mono HBE.out.size))).best (.slice (some ⟨gn, 0, none⟩) ps.length cn) (.int .i64 Y.a) (.int .i64 Y.b) (.int .i64 Y.c) (.int .i64 Y.d)
   rw [← HW8.out] at HSI HKS
   obtain ⟨W9, hW9⟩ : ∃ W, W = (((W8.setCell ⟨b, 101, none⟩ (.int .i64 Y.a)).setCell ⟨b, 102, none⟩ (.int .i64 Y.b)).setCell ⟨b, 103, none⟩ (.int .i64 Y.c)).setCell ⟨b, 104, none⟩ (.int .i64 Y.d) := ⟨_, rfl⟩
   have hE : W8.setCells b 101 (#[.int .i64 Y.a, .int .i64 Y.b, .int .i64 Y.c, .int .i64 Y.d] : Array Value).toList = W9 := by rw [hW9]; rfl
   have hS : W9 = setsW W8 b 101 [.int .i64 Y.a, .int .i64 Y.b, .int .i64 Y.c, .int .i64 Y.d] := hW9
   have HB9 := kO hS HB8 hb9.symm
   have HY9 := kO hS HY8 hb10.symm
   rw [← hW9] at HSI HKS
   have HPS9 : Hid (W9.cell? ⟨b, 99, none⟩ = some (.slice (some ⟨g, 0, none⟩) n cap)) := by show _ = _; rw [HPN.out]; exact HSI.out.blk.ps
   rw [hE]
   refine ckk hK9 (by exact ⟨kD HB9 0, HPS9.out, kD HY9 0, kD HY9 1, kD HY9 2, kD HY9 3⟩) (h := ?_)
   clear hK9 K9 hE hS hW9
   refine seq_done (by kernel_rfl) ?_
   go_wp2_with fail
   exact bodyPost_ret (v := .tuple #[]) (by simp [results, Tryz.results94]) rfl ⟨rfl, _, _, _, _, HSI.out, by rw [HUY.out]; exact ⟨rfl, rfl, HL0.out, HQY.out⟩, HKS.out, fun k hk => .inl hk⟩
  | false =>
   have HUY : Hid (updY lt ps Y (some (bl, x)) = some (bl, x)) := if_neg (by rw [hlt]; simp)
   clear hlt HLX
   go_wp2_with fail
   exact bodyPost_ret (v := .tuple #[]) (by simp [results, Tryz.results94]) rfl ⟨rfl, _, _, _, _, HS1.out, by rw [HUY.out]; exact ⟨rfl, rfl, HLB.out, HQX.out⟩, KeepS.of_below HBE.out, fun k hk => .inl hk⟩
end Go.Proofs.YtodckaioeomccaaGreat
namespace Go.Proofs.YtodckaioeomccaaGreat
open Go.RowKit Go.Proofs.Plc
set_option linter.unusedVariables false
set_option linter.unusedSimpArgs false
theorem op_append_own {P : Program} {o : Oper} {a : Act} {w : World} {K : Act → World → Prop} {Q : Exit → Act → World → Prop} (hg : o.guard = none) (s x : Operand) (t : TypeId)
  (ho : o.op = .call { callee := .builtin .append, args := #[s, x], argTypes := #[t, t] })
  (base : Nat) (e : TypeId) (i : TypeInfo) (z : Value) (size bytes : Nat) (ht : P.underlying t = some (.slice e)) (hi : P.info? e = some i) (hz : i.zero = some z)
  (hsize : i.size = size) (hby : i.bytes = bytes) (hzs : z.cells.size = size) (hsz : 0 < size)
  (v : Value) (n : Nat) (xs : List Value) (hs : a.eval s = v) (hown : w.ownsRow base e size v n xs)
  (ad : Addr) (m c : Nat) (news : List Value) (hx : a.eval x = .slice (some ad) m c) (hl : news.length = m * size) (hnews : ∀ j u, news[j]? = some u → w.cell? (ad.add j) = some u) (h1 : ∀ u ∈ news, u.oneCell' = true)
  (h63 : n + m ≤ maxLen) (hbytes : (n + m) * bytes ≤ 140737488355328) (hbase : base ≤ w.heap.size)
  (h : ∀ v' w', w'.ownsRow base e size v' (n + m) (xs ++ news) → w.grownBy w' v.ownBlock → (∀ b, v'.ownBlock = some b → v.ownBlock = some b ∨ w.heap.size ≤ b) → K (a.put o.dst v') w') :
  Oper.wp P o a w K Q := by
 have hw : Region.wanted o (yielded #[] a.tmps) = true := by simp [Region.wanted, hg]
 have := step_append_own (ops := #[]) (K := K) (Q := Q) (E := True) hg s x t ho base e i z size bytes ht hi hz hsize hby hzs hsz v n xs hs hown ad m c news hx hl hnews h1 h63 hbytes hbase h
 rwa [if_pos hw] at this
structure RdX (w W : World) (B b : Nat) (gv pv0 pv : Value) (gs : List Int) : Prop where
 keep : KeepS b pv0 w W
 own : ∀ k, pv.ownBlock = some k → pv0.ownBlock = some k ∨ w.heap.size < k
 box : W.heap[w.heap.size]? = some (.cells #[.pointer (some ⟨b, 0, none⟩)] 181 (0, 0))
 gs : Rd intV W (fun k => k < B) gv gs
theorem RdX.below {w W W' : World} {B b : Nat} {gv pv0 pv : Value} {gs : List Int} (h : RdX w W B b gv pv0 pv gs) (hb : Below W.heap.size W W') : RdX w W' B b gv pv0 pv gs :=
 ⟨⟨hb.os.trans h.keep.os, hb.tape.trans h.keep.tape, hb.output.trans h.keep.output, Nat.le_trans h.keep.size hb.size, fun k hk => (hb.block k (Nat.lt_of_lt_of_le hk.1 h.keep.size)).trans (h.keep.block k hk)⟩, h.own, blk_below h.box hb, h.gs.below hb⟩
theorem RdX.set {w W : World} {B b i : Nat} {gv pv0 pv : Value} {gs : List Int} (h : RdX w W B b gv pv0 pv gs) (hB : B ≤ b) (hb : b < w.heap.size) (u : Value) : RdX w (W.setCell ⟨b, i, none⟩ u) B b gv pv0 pv gs := by
 have hg := set1_grown W b i u
 refine ⟨⟨hg.os.trans h.keep.os, hg.tape.trans h.keep.tape, hg.output.trans h.keep.output, Nat.le_trans h.keep.size hg.size, fun k hk => (hg.block k (Nat.lt_of_lt_of_le hk.1 h.keep.size) (fun e => hk.2.1 (Option.some.inj e))).trans (h.keep.block k hk)⟩, h.own, blk_other _ h.box (by omega), ?_⟩
 exact h.gs.keep ⟨hg.os, hg.tape, hg.output, hg.size, fun k hk => by
  by_cases hkw : k < W.heap.size
  ·exact hg.block k hkw (fun e => by have := Option.some.inj e; omega)
  ·have := hg.size
   rw [Array.getElem?_eq_none (by simp at this ⊢; omega), Array.getElem?_eq_none (by omega)]⟩
theorem SI.mid {W W1 W2 : World} {B b : Nat} {gv pv bv : Value} {o ap : Int} {ps bl : List Int} {x : Qd} (h : SI W B b gv pv bv o ap ps bl x) (hb : Below W.heap.size W W1) (hg : W1.grownBy W2 pv.ownBlock) : SrB W2 b gv o ap pv bv x :=
 (hg.block b (blk_lt (h.below hb).blk) (fun e => h.nb e.symm)).trans (h.below hb).blk
theorem SI.push {W W1 W2 : World} {B b : Nat} {gv pv pv' bv : Value} {o ap p : Int} {ps bl : List Int} {x : Qd} (h : SI W B b gv pv bv o ap ps bl x) (hb : Below W.heap.size W W1) (hg : W1.grownBy W2 pv.ownBlock)
  (ho : W2.ownsRow B 3 1 pv' (ps.length + 1) (ps.map intV ++ [.int .i64 p])) (hf : ∀ k, pv'.ownBlock = some k → pv.ownBlock = some k ∨ W1.heap.size ≤ k) :
  SI (W2.setCell ⟨b, 99, none⟩ pv') B b gv pv' bv o ap (ps ++ [p]) bl x := by
 have h1 := h.below hb
 have hbl := blk_lt h1.blk
 have hs := set1_grown W2 b 99 pv'
 have ho' : OwnL W2 B pv' (ps ++ [p]) := by
  unfold OwnL
  rw [List.length_append, List.map_append]
  exact ho
 have hnb : pv'.ownBlock ≠ some b := fun e => by
  rcases hf b e with h2 | h2
  ·exact h.nb h2
  ·omega
 have hbe : OwnL W2 B bv bl := by
  refine World.ownsRow.kept h1.be hg ?_
  cases hq : bv.ownBlock with
  | none => exact .inl rfl
  | some k => exact .inr fun e => h.ne k e.symm hq
 refine ⟨(h.mid hb hg).put 0 pv' rfl, own_grown ho' hs hnb, own_grown hbe hs h.nc, h.ble, fun k hk e => ?_, hnb, h.nc⟩
 rcases hf k hk with h2 | h2
 ·exact h.ne k h2 e
 ·have := (h1.be.lt k e).2; omega
theorem RdX.mid {w W W1 W2 : World} {B b : Nat} {gv pv0 pv : Value} {gs : List Int} (h : RdX w W B b gv pv0 pv gs) (h0 : ∀ k, pv0.ownBlock = some k → k < w.heap.size) (hb : Below W.heap.size W W1) (hg : W1.grownBy W2 pv.ownBlock) :
  W2.heap[w.heap.size]? = some (.cells #[.pointer (some ⟨b, 0, none⟩)] 181 (0, 0)) := by
 have hx := blk_below h.box hb
 refine (hg.block _ (blk_lt hx) (fun e => ?_)).trans hx
 rcases h.own _ e.symm with h2 | h2
 ·have := h0 _ h2; omega
 ·omega
theorem RdX.push {w W W1 W2 : World} {B b : Nat} {gv pv0 pv pv' : Value} {gs : List Int} (h : RdX w W B b gv pv0 pv gs) (h0 : ∀ k, pv0.ownBlock = some k → B ≤ k ∧ k < w.heap.size) (hbw : b < w.heap.size) (hB : B ≤ b) (hpv : ∀ k, pv.ownBlock = some k → B ≤ k)
  (hb : Below W.heap.size W W1) (hg : W1.grownBy W2 pv.ownBlock) (hf : ∀ k, pv'.ownBlock = some k → pv.ownBlock = some k ∨ W1.heap.size ≤ k) : RdX w (W2.setCell ⟨b, 99, none⟩ pv') B b gv pv0 pv' gs := by
 have hm := h.mid (fun k hk => (h0 k hk).2) hb hg
 have hlt := blk_lt h.box
 have h1 := h.below hb
 have h2 : RdX w W2 B b gv pv0 pv' gs := by
  refine ⟨⟨hg.os.trans h1.keep.os, hg.tape.trans h1.keep.tape, hg.output.trans h1.keep.output, Nat.le_trans h1.keep.size hg.size, fun k hk => (hg.block k (Nat.lt_of_lt_of_le hk.1 h1.keep.size) (fun e => ?_)).trans (h1.keep.block k hk)⟩, fun k hk => ?_, hm, ?_⟩
  ·rcases h.own k e.symm with h3 | h3
   ·exact hk.2.2 h3
   ·have := hk.1; omega
  ·rcases hf k hk with h3 | h3
   ·exact h.own k h3
   ·exact .inr (by have := hb.size; omega)
  ·refine h1.gs.keep ⟨hg.os, hg.tape, hg.output, hg.size, fun k hk => ?_⟩
   refine hg.block k (by have := hb.size; omega) (fun e => ?_)
   have := hpv k e.symm
   omega
 exact h2.set hB hbw pv'
theorem RdX.deep {w W W' : World} {B b : Nat} {gv pv0 pv pv' : Value} {gs : List Int} (h : RdX w W B b gv pv0 pv gs) (hbw : b < w.heap.size) (hB : B ≤ b) (h0 : ∀ k, pv0.ownBlock = some k → k < w.heap.size) (hpv : ∀ k, pv.ownBlock = some k → B ≤ k)
  (hk : KeepS b pv W W') (hf : ∀ k, pv'.ownBlock = some k → pv.ownBlock = some k ∨ W.heap.size ≤ k) : RdX w W' B b gv pv0 pv' gs := by
 have hlt := blk_lt h.box
 have hne : ∀ k, k < w.heap.size → pv0.ownBlock ≠ some k → pv.ownBlock ≠ some k := fun k h1 h2 e => by
  rcases h.own k e with h3 | h3
  ·exact h2 h3
  ·omega
 refine ⟨⟨hk.os.trans h.keep.os, hk.tape.trans h.keep.tape, hk.output.trans h.keep.output, Nat.le_trans h.keep.size hk.size, fun k hq => (hk.block k ⟨Nat.lt_of_lt_of_le hq.1 h.keep.size, hq.2.1, hne k hq.1 hq.2.2⟩).trans (h.keep.block k hq)⟩, fun k hq => ?_, ?_, ?_⟩
 ·rcases hf k hq with h3 | h3
  ·exact h.own k h3
  ·exact .inr (by omega)
 ·refine (hk.block _ ⟨hlt, by omega, fun e => ?_⟩).trans h.box
  rcases h.own _ e with h3 | h3
  ·have := h0 _ h3; omega
  ·omega
 ·refine h.gs.keep ⟨hk.os, hk.tape, hk.output, hk.size, fun k hq => hk.block k ⟨by omega, by omega, fun e => ?_⟩⟩
  have := hpv k e
  omega
theorem SI.pop {W : World} {B b g c : Nat} {gv bv : Value} {o ap p : Int} {ps bl : List Int} {x : Qd} (h : SI W B b gv (.slice (some ⟨g, 0, none⟩) (ps ++ [p]).length c) bv o ap (ps ++ [p]) bl x) :
  SI (W.setCell ⟨b, 99, none⟩ (.slice (some ⟨g, 0, none⟩) ps.length c)) B b gv (.slice (some ⟨g, 0, none⟩) ps.length c) bv o ap ps bl x := by
 have hs := set1_grown W b 99 (.slice (some ⟨g, 0, none⟩) ps.length c)
 have hp : OwnL W B (.slice (some ⟨g, 0, none⟩) ps.length c) ps := by
  have := h.pl
  unfold OwnL at this
  rw [List.length_append, List.map_append] at this
  exact ownsRow_pop (n := ps.length) (by simp) this
 exact ⟨h.blk.put 0 _ rfl, own_grown hp hs h.nb, own_grown h.be hs h.nc, h.ble, h.ne, h.nb, h.nc⟩
theorem RdX.pop {w W : World} {B b g c n m : Nat} {gv pv0 : Value} {gs : List Int} (h : RdX w W B b gv pv0 (.slice (some ⟨g, 0, none⟩) n c) gs) (hB : B ≤ b) (hb : b < w.heap.size) :
  RdX w (W.setCell ⟨b, 99, none⟩ (.slice (some ⟨g, 0, none⟩) m c)) B b gv pv0 (.slice (some ⟨g, 0, none⟩) m c) gs := by
 have h1 := h.set (i := 99) hB hb (.slice (some ⟨g, 0, none⟩) m c)
 exact ⟨h1.keep, h1.own, h1.box, h1.gs⟩
theorem close_any (ap : Int) (ps : List Int) (p b b1 b2 : Nat) (pv : Value) (w : World) (hp : p < 24) (hps : ∀ i, 0 ≤ at0 ps i ∧ at0 ps i < 24) (hv : RdL w pv ps)
  (h1 : w.cell? ⟨b1, 0, none⟩ = some (.int .i64 (p : Int))) (h2 : w.cell? ⟨b2, 0, none⟩ = some (.pointer (some ⟨b, 0, none⟩))) (h3 : w.cell? ⟨b, 2, none⟩ = some (.int .i64 ap)) :
  Calls Tryz.prog 91 #[pv, .func (.func 183) #[] #[.pointer (some ⟨b1, 0, none⟩), .pointer (some ⟨b2, 0, none⟩)]] w fun e w' => e = .returned (.bool (closeB ap ps p)) ∧ Below w.heap.size w w' := by
 have hc : closeB ap ps p = anyIdx (fun i => decide (apartN (p : Int) (at0 ps i) < ap)) (ps.map intV).length := by
  unfold closeB anyIdx
  rw [List.length_map, Bool.eq_iff_iff, List.any_eq_true, List.any_eq_true]
  constructor
  ·rintro ⟨y, hy, h⟩
   obtain ⟨i, hi, rfl⟩ := List.mem_iff_getElem.1 hy
   refine ⟨i, List.mem_range.2 hi, ?_⟩
   unfold at0
   rw [List.getD_eq_getElem?_getD, List.getElem?_eq_getElem hi]
   exact h
  ·rintro ⟨i, hi, h⟩
   have hi := List.mem_range.1 hi
   unfold at0 at h
   rw [List.getD_eq_getElem?_getD, List.getElem?_eq_getElem hi] at h
   exact ⟨_, List.getElem_mem hi, h⟩
 rw [hc]
 refine containsFuncI_any pv (ps.map intV) (fun _ => True) 183 #[.pointer (some ⟨b1, 0, none⟩), .pointer (some ⟨b2, 0, none⟩)] enters_close2 _ w hv.id (fun i u hu w' hb => ?_)
 rw [List.getElem?_map] at hu
 obtain ⟨y, hy, rfl⟩ := Option.map_eq_some_iff.1 hu
 have hy0 : at0 ps i = y := by unfold at0; rw [List.getD_eq_getElem?_getD, hy]; rfl
 have hq := hps i
 rw [hy0] at hq ⊢
 exact close2_any (p : Int) y ap b1 b2 b w' (by omega) hq ((hb.cell (p := ⟨b1, 0, none⟩) (cell_lt h1)).trans h1) ((hb.cell (p := ⟨b2, 0, none⟩) (cell_lt h2)).trans h2) ((hb.cell (p := ⟨b, 2, none⟩) (cell_lt h3)).trans h3)
end Go.Proofs.YtodckaioeomccaaGreat
namespace Go.Proofs.YtodckaioeomccaaGreat
open Go.RowKit
set_option linter.unusedVariables false
section
variable {P : Program} {ops : Array Oper} {Q : Exit → Act → World → Prop} {S : World → Prop} {rest : List (Nat × Oper)} {a b : Act} {wa W : World} {e : TypeId} {k : Nat} {bl : List (Nat × Obj)} {K : Act → World → Prop}
theorem tkM {i : Nat} {o : Oper} {w : World} (ty : TypeId) (x : Operand) (bk of : Nat) (cs : List Value) (d : TypeDesc) (hS : ∀ w, S w → w.rangeAt bk of cs) (hu : P.underlying ty = some d) (hd : d.isRow = true) (hi : (P.info? ty).map (·.size) = some cs.length)
  (ho : o.op = .load ty x := by rfl) (hx : a.eval x = .pointer (some ⟨bk, of, none⟩) := by rfl) (hw : Region.wanted o (yielded ops a.tmps) = true := by rfl) (hQ : ∀ c a w, Q (.panic c) (a.put o.dst (.agg cs.toArray)) w → Q (.panic c) a w := by exact fun _ _ _ h => h) (hok : okTake ops (i, o) rest = true := by kernel_rfl)
  (hb : a.put o.dst (.agg cs.toArray) = b := by first | (simp only [Act.put, List.setIfInBounds_toArray, List.set_cons_zero, List.set_cons_succ]; rfl) | rfl) (h : Seq P ops Q S rest b w) : Seq P ops Q S ((i, o) :: rest) a w := by
 subst hb
 exact seq_yield hQ hok (yieldsIf_load_mid hw ty x ho bk of hx cs d hS hu hd hi) h
end
end Go.Proofs.YtodckaioeomccaaGreat
