/- The searcher of places in memory; the walk of its value. -/
import Derived.Test.YtodckaioeomccaaGreatPart22
import Derived.Test.YtodckaioeomccaaGreatPart14
import Derived.Test.YtodckaioeomccaaGreatPart02
namespace Go.Proofs.YtodckaioeomccaaGreat
open Go.RowKit Go.Proofs.Plc
set_option linter.unusedVariables false
set_option linter.unusedSimpArgs false
def quadL (q : Qd) : List Value := [.int .i64 q.a, .int .i64 q.b, .int .i64 q.c, .int .i64 q.d]
def quadV (q : Qd) : Value := .agg #[.int .i64 q.a, .int .i64 q.b, .int .i64 q.c, .int .i64 q.d]
def cosI : List Int := (List.range 24).flatMap fun k => [(cosT k).a, (cosT k).b, (cosT k).c, (cosT k).d]
theorem cosI_len : cosI.length = 96 := by decide +kernel
def srL (gv : Value) (o ap : Int) (pv bv : Value) (q : Qd) : List Value := .cons gv (.cons (.int .i64 o) (.cons (.int .i64 ap) (cosI.map intV ++ .cons pv (.cons bv (quadL q)))))
theorem sr_ps (gv : Value) (o ap : Int) (pv bv : Value) (q : Qd) (i : Nat) : (srL gv o ap pv bv q)[99 + i]? = (pv :: bv :: quadL q)[i]? := by
 rw [show 99 + i = 96 + i + 1 + 1 + 1 by omega]
 show (gv :: .int .i64 o :: .int .i64 ap :: (cosI.map intV ++ pv :: bv :: quadL q))[96 + i + 1 + 1 + 1]? = _
 rw [List.getElem?_cons_succ, List.getElem?_cons_succ, List.getElem?_cons_succ, List.getElem?_append_right (by rw [List.length_map, cosI_len]; omega), List.length_map, cosI_len, Nat.add_sub_cancel_left]
theorem cosI_at : ∀ k : Fin 24, cosI[4 * k.1]? = some (cosT k.1).a ∧ cosI[4 * k.1 + 1]? = some (cosT k.1).b ∧ cosI[4 * k.1 + 2]? = some (cosT k.1).c ∧ cosI[4 * k.1 + 3]? = some (cosT k.1).d := by decide +kernel
theorem sr_cos {x : Int} {i : Nat} (gv : Value) (o ap : Int) (pv bv : Value) (q : Qd) (h : cosI[i]? = some x) : (srL gv o ap pv bv q)[3 + i]? = some (.int .i64 x) := by
 show (gv :: .int .i64 o :: .int .i64 ap :: (cosI.map intV ++ pv :: bv :: quadL q))[3 + i]? = _
 have hi := (List.getElem?_eq_some_iff.1 h).1
 rw [show 3 + i = i + 1 + 1 + 1 by omega, List.getElem?_cons_succ, List.getElem?_cons_succ, List.getElem?_cons_succ, List.getElem?_append_left (by rw [List.length_map]; exact hi), List.getElem?_map, h]
 rfl
def SrB (w : World) (b : Nat) (gv : Value) (o ap : Int) (pv bv : Value) (q : Qd) : Prop := w.heap[b]? = some (.cells (srL gv o ap pv bv q).toArray 187 (0, 0))
theorem SrB.at_ {w : World} {b : Nat} {gv : Value} {o ap : Int} {pv bv : Value} {q : Qd} (h : SrB w b gv o ap pv bv q) {i : Nat} {u : Value} (hi : (srL gv o ap pv bv q)[i]? = some u) : w.cell? ⟨b, i, none⟩ = some u := by
 have := blk_cell h i
 rw [this]; simpa using hi
theorem SrB.gs {w : World} {b : Nat} {gv : Value} {o ap : Int} {pv bv : Value} {q : Qd} (h : SrB w b gv o ap pv bv q) : w.cell? ⟨b, 0, none⟩ = some gv := h.at_ rfl
theorem SrB.or {w : World} {b : Nat} {gv : Value} {o ap : Int} {pv bv : Value} {q : Qd} (h : SrB w b gv o ap pv bv q) : w.cell? ⟨b, 1, none⟩ = some (.int .i64 o) := h.at_ rfl
theorem SrB.ap {w : World} {b : Nat} {gv : Value} {o ap : Int} {pv bv : Value} {q : Qd} (h : SrB w b gv o ap pv bv q) : w.cell? ⟨b, 2, none⟩ = some (.int .i64 ap) := h.at_ rfl
theorem SrB.ps {w : World} {b : Nat} {gv : Value} {o ap : Int} {pv bv : Value} {q : Qd} (h : SrB w b gv o ap pv bv q) : w.cell? ⟨b, 99, none⟩ = some pv := h.at_ (sr_ps _ _ _ _ _ _ 0)
theorem SrB.be {w : World} {b : Nat} {gv : Value} {o ap : Int} {pv bv : Value} {q : Qd} (h : SrB w b gv o ap pv bv q) : w.cell? ⟨b, 100, none⟩ = some bv := h.at_ (sr_ps _ _ _ _ _ _ 1)
theorem SrB.cos {w : World} {b : Nat} {gv : Value} {o ap : Int} {pv bv : Value} {q : Qd} (h : SrB w b gv o ap pv bv q) {k : Nat} (hk : k < 24) :
  w.cell? ⟨b, 3 + k * 4, none⟩ = some (.int .i64 (cosT k).a) ∧ w.cell? ⟨b, 3 + k * 4 + 1, none⟩ = some (.int .i64 (cosT k).b) ∧ w.cell? ⟨b, 3 + k * 4 + 2, none⟩ = some (.int .i64 (cosT k).c) ∧ w.cell? ⟨b, 3 + k * 4 + 3, none⟩ = some (.int .i64 (cosT k).d) := by
 obtain ⟨h1, h2, h3, h4⟩ := cosI_at ⟨k, hk⟩
 rw [Nat.add_assoc, Nat.add_assoc, Nat.add_assoc, Nat.mul_comm k 4]
 exact ⟨h.at_ (sr_cos _ _ _ _ _ _ h1), h.at_ (sr_cos _ _ _ _ _ _ h2), h.at_ (sr_cos _ _ _ _ _ _ h3), h.at_ (sr_cos _ _ _ _ _ _ h4)⟩
theorem SrB.below {w w' : World} {b : Nat} {gv : Value} {o ap : Int} {pv bv : Value} {q : Qd} (h : SrB w b gv o ap pv bv q) (hb : Below w.heap.size w w') : SrB w' b gv o ap pv bv q := blk_below h hb
def co (q : Qd) : Nat → Int
 | 0 => q.a
 | 1 => q.b
 | 2 => q.c
 | _ => q.d
def QB (w : World) (b : Nat) (f : Nat → Int) : Prop := w.heap[b]? = some (.cells #[.int .i64 (f 0), .int .i64 (f 1), .int .i64 (f 2), .int .i64 (f 3)] 183 (0, 0))
theorem QB.cell {w : World} {b : Nat} {f : Nat → Int} (h : QB w b f) {j : Nat} (hj : j < 4) : w.cell? ⟨b, j, none⟩ = some (.int .i64 (f j)) := by
 rw [blk_cell h]
 rcases (show j = 0 ∨ j = 1 ∨ j = 2 ∨ j = 3 by omega) with rfl | rfl | rfl | rfl <;> rfl
theorem QB.free {w : World} {b : Nat} {f : Nat → Int} (h : QB w b f) (j : Nat) : w.frozen? ⟨b, j, none⟩ = false := blk_free h j
theorem QB.below {w w' : World} {b : Nat} {f : Nat → Int} (h : QB w b f) (hb : Below w.heap.size w w') : QB w' b f := blk_below h hb
theorem QB.set {w : World} {b : Nat} {f : Nat → Int} (h : QB w b f) {j : Nat} (hj : j < 4) (u : Int) : QB (w.setCell ⟨b, j, none⟩ (.int .i64 u)) b (fun i => if i = j then u else f i) := by
 have := blk_set (i := j) (.int .i64 u) h
 rcases (show j = 0 ∨ j = 1 ∨ j = 2 ∨ j = 3 by omega) with rfl | rfl | rfl | rfl <;> exact this
theorem QB.congr {w : World} {b : Nat} {f g : Nat → Int} (h : QB w b f) (e : ∀ j, j < 4 → f j = g j) : QB w b g := by
 unfold QB
 rw [← e 0 (by omega), ← e 1 (by omega), ← e 2 (by omega), ← e 3 (by omega)]; exact h
theorem QB.other {w : World} {b b' i : Nat} {f : Nat → Int} (h : QB w b f) (u : Value) (hne : b ≠ b') : QB (w.setCell ⟨b', i, none⟩ u) b f := blk_other u h hne
def SQ (B : Nat) (q : Qd) : Prop := q.a.natAbs ≤ B ∧ q.b.natAbs ≤ B ∧ q.c.natAbs ≤ B ∧ q.d.natAbs ≤ B
theorem SQ.mono {B C : Nat} {q : Qd} (h : SQ B q) (hc : B ≤ C) : SQ C q := ⟨by have := h.1; omega, by have := h.2.1; omega, by have := h.2.2.1; omega, by have := h.2.2.2; omega⟩
theorem gg_small {g h : Int} (hg : 0 ≤ g ∧ g ≤ 1000) (hh : 0 ≤ h ∧ h ≤ 1000) : 0 ≤ g * h ∧ g * h ≤ 1000000 :=
 ⟨Int.mul_nonneg hg.1 hh.1, Int.mul_le_mul hg.2 hh.2 hh.1 (by omega)⟩
theorem mul4_small {x c : Int} {B : Nat} (hx : x.natAbs ≤ B) (hc : c.natAbs ≤ 4) : (x * c).natAbs ≤ B * 4 := by rw [Int.natAbs_mul]; exact Nat.mul_le_mul hx hc
theorem addQ_small {n c : Qd} {x : Int} {B : Nat} (hn : SQ B n) (hx : x.natAbs ≤ 2000000) (hc : SQ 4 c) : SQ (B + 8000000) (addQ n x c) := by
 have h1 := mul4_small hx hc.1
 have h2 := mul4_small hx hc.2.1
 have h3 := mul4_small hx hc.2.2.1
 have h4 := mul4_small hx hc.2.2.2
 have := hn.1; have := hn.2.1; have := hn.2.2.1; have := hn.2.2.2
 refine ⟨?_, ?_, ?_, ?_⟩ <;> (simp only [addQ]; omega)
theorem cosT_small (k : Nat) (hk : k < 24) : SQ 4 (cosT k) := by
 obtain ⟨⟨a, b⟩, c, d⟩ := cos_small ⟨k, hk⟩
 exact ⟨a, b, c, d⟩
def Grams (gs : List Int) : Prop := ∀ i, 0 ≤ at0 gs i ∧ at0 gs i ≤ 1000
theorem xx_small {gs : List Int} (hg : Grams gs) (i k : Nat) : (2 * at0 gs i * at0 gs k).natAbs ≤ 2000000 ∧ (4 * at0 gs i * at0 gs i).natAbs ≤ 4000000 := by
 have h1 := gg_small (hg i) (hg k)
 have h2 := gg_small (hg i) (hg i)
 rw [Int.mul_assoc, Int.mul_assoc]
 omega
theorem inN_small {gs ps : List Int} (hg : Grams gs) (j : Int) (i : Nat) {n : Qd} {B : Nat} (hn : SQ B n) : ∀ k, SQ (B + 8000000 * k) (inN gs ps j i n k)
 | 0 => hn
 | k + 1 => (addQ_small (inN_small (ps := ps) hg j i hn k) (xx_small hg i k).1 (cosT_small _ (plc_lt _))).mono (by omega)
theorem normN_small {gs ps : List Int} (hg : Grams gs) (j : Int) : ∀ i, i ≤ 4 → SQ (40000000 * i) (normN gs ps j i)
 | 0, _ => ⟨Nat.le_refl _, Nat.le_refl _, Nat.le_refl _, Nat.le_refl _⟩
 | i + 1, h => by
  have h1 := normN_small (ps := ps) hg j i (by omega)
  have h2 := (xx_small hg i i).2
  refine (inN_small (ps := ps) hg j i (B := 40000000 * i + 4000000) (n := ⟨_, _, _, _⟩) ⟨?_, ?_, ?_, ?_⟩ i).mono (by omega)
  ·have := h1.1; show Int.natAbs (_ + _) ≤ _; omega
  ·have := h1.2.1; dsimp only; omega
  ·have := h1.2.2.1; dsimp only; omega
  ·have := h1.2.2.2; dsimp only; omega
structure VS (w wr : World) (nb : Nat) (x : Qd) (f : Nat → Int) : Prop where
 bel : Below w.heap.size w wr
 qr : QB wr w.heap.size (co .zero)
 qw : QB wr (w.heap.size + 1) (co x)
 qn : QB wr nb f
 ge : w.heap.size + 2 ≤ nb
theorem VS.below {w wr w' : World} {nb : Nat} {x : Qd} {f : Nat → Int} (h : VS w wr nb x f) (hb : Below wr.heap.size wr w') : VS w w' nb x f :=
 ⟨h.bel.trans (hb.mono h.bel.size), h.qr.below hb, h.qw.below hb, h.qn.below hb, h.ge⟩
theorem VS.set {w wr : World} {nb : Nat} {x : Qd} {f : Nat → Int} (h : VS w wr nb x f) {j : Nat} (hj : j < 4) (u : Int) : VS w (wr.setCell ⟨nb, j, none⟩ (.int .i64 u)) nb x (fun i => if i = j then u else f i) := by
 have := h.ge
 exact ⟨h.bel.setCell (show _ ≤ nb by omega) _, h.qr.other _ (by omega), h.qw.other _ (by omega), h.qn.set hj u, h.ge⟩
theorem VS.congr {w wr : World} {nb : Nat} {x : Qd} {f g : Nat → Int} (h : VS w wr nb x f) (e : ∀ j, j < 4 → f j = g j) : VS w wr nb x g := ⟨h.bel, h.qr, h.qw, h.qn.congr e, h.ge⟩
theorem VS.drew {w wr : World} {nb : Nat} {x : Qd} {f : Nat → Int} (h : VS w wr nb x f) : VS w wr.drew nb x f := h.below (Below.refl _ _).drew
theorem co_add (n c : Qd) (x : Int) : ∀ j, co (addQ n x c) j = co n j + x * co c j
 | 0 => rfl
 | 1 => rfl
 | 2 => rfl
 | _ + 3 => rfl
theorem SQ.co {B : Nat} {q : Qd} (h : SQ B q) : ∀ j, (co q j).natAbs ≤ B
 | 0 => h.1
 | 1 => h.2.1
 | 2 => h.2.2.1
 | _ + 3 => h.2.2.2
theorem QB.put {w : World} {b : Nat} {f : Nat → Int} (h : QB w b f) (Y : Qd) :
  QB ((((w.setCell ⟨b, 0, none⟩ (.int .i64 Y.a)).setCell ⟨b, 1, none⟩ (.int .i64 Y.b)).setCell ⟨b, 2, none⟩ (.int .i64 Y.c)).setCell ⟨b, 3, none⟩ (.int .i64 Y.d)) b (co Y) :=
 ((((h.set (j := 0) (by omega) Y.a).set (j := 1) (by omega) Y.b).set (j := 2) (by omega) Y.c).set (j := 3) (by omega) Y.d).congr fun j hj => by
  rcases (show j = 0 ∨ j = 1 ∨ j = 2 ∨ j = 3 by omega) with rfl | rfl | rfl | rfl <;> rfl
theorem QB.others {w : World} {b b' : Nat} {f : Nat → Int} (h : QB w b f) (Y : Qd) (hne : b ≠ b') :
  QB ((((w.setCell ⟨b', 0, none⟩ (.int .i64 Y.a)).setCell ⟨b', 1, none⟩ (.int .i64 Y.b)).setCell ⟨b', 2, none⟩ (.int .i64 Y.c)).setCell ⟨b', 3, none⟩ (.int .i64 Y.d)) b f :=
 (((h.other _ hne).other _ hne).other _ hne).other _ hne
theorem put_below {a w : World} {b : Nat} (h : Below a.heap.size a w) (hb : a.heap.size ≤ b) (Y : Qd) :
  Below a.heap.size a ((((w.setCell ⟨b, 0, none⟩ (.int .i64 Y.a)).setCell ⟨b, 1, none⟩ (.int .i64 Y.b)).setCell ⟨b, 2, none⟩ (.int .i64 Y.c)).setCell ⟨b, 3, none⟩ (.int .i64 Y.d)) :=
 (((h.setCell hb _).setCell hb _).setCell hb _).setCell hb _
theorem worst_q {lt : Qd → Qd → Bool} {Q : Qd → Prop} {gs ps : List Int} {o : Nat} (HQ : ∀ j : Nat, j < o → Q (normN gs ps ((j : Int) + 1) ps.length)) : ∀ k, k < o → Q (worstN lt gs ps (k + 1))
 | 0, h => by unfold worstN; rw [if_pos (.inl rfl)]; exact HQ 0 h
 | k + 1, h => by
  unfold worstN
  split
  ·exact HQ (k + 1) h
  ·exact worst_q HQ k (by omega)
end Go.Proofs.YtodckaioeomccaaGreat
