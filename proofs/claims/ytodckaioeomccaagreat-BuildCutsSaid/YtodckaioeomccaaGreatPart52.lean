/- The walk of BuildCuts, all inputs. -/
import Derived.Test.YtodckaioeomccaaGreatPart47
import Derived.Test.YtodckaioeomccaaGreatPart07
import Derived.Test.YtodckaioeomccaaGreatPart39
import Derived.Test.YtodckaioeomccaaGreatPart51
namespace Go.Proofs.YtodckaioeomccaaGreat
open Go.RowKit
set_option linter.unusedVariables false
set_option linter.unusedSimpArgs false
set_option maxRecDepth 100000
set_option maxHeartbeats 4000000
theorem ofR_size {n d : Int} (hn : I64 n) (hd : I64 d) : QS 2 (ofRatio n d) := by
 unfold ofRatio
 split
 ·exact (qs_int hn.1 hn.2).up (by omega)
 ·rename_i h
  rw [ratio_div n d h]
  exact ((qs_int hn.1 hn.2).div (qs_int hd.1 hd.2) (fun e => h (by exact_mod_cast e))).up (by omega)
theorem piece_all (v u : Value) (x h : Rat) (w : World) (hv : RdQ w v x) (hu : RdQ w u h) (hq : QS 1000 x) (hq1 : QS 1000 h) : Calls Tryz.prog 39 #[v, u] w fun e w' => (∃ v', e = .returned (.tuple #[v', .int .i64 (pieE x h)]) ∧ RdQ w' v' (pieV x h)) ∧ Below w.heap.size w w' := by
 unfold pieE pieV
 have hp := sgn_pos x
 by_cases k : AngOk h
 ·have he : angE h = 0 := if_pos k
  by_cases m : 0 < x
  ·rw [if_pos ⟨m, k⟩, if_pos ⟨m, k⟩]; exact piece_3 v u x h w hv hu hq (hq1.up (by omega)) he ((num_sign x).1.2 m) (angS_pos k)
  ·rw [if_neg (fun e => m e.1), if_neg (fun e => m e.1)]; exact piece_1 v u x h w hv hu hq (hq1.up (by omega)) _ _ rfl (fun e => m (hp.1 e)) he
 ·have he : angE h = 1 := if_neg k
  rw [if_neg (fun e => k e.2), if_neg (fun e => k e.2)]
  by_cases m : 0 < x
  ·exact piece_2 v u x h w hv hu hq (hq1.up (by omega)) he ((num_sign x).1.2 m)
  ·exact piece_1 v u x h w hv hu hq (hq1.up (by omega)) _ _ rfl (fun e => m (hp.1 e)) rfl
theorem rpiece_all (v u : Value) (x h : Rat) (w : World) (hv : RdF w v x) (hu : RdF w u h) (hq : QS 1000 x) (hq1 : QS 1000 h) : Calls Tryz.prog 40 #[v, u] w fun e w' => (∃ v', e = .returned (.tuple #[v', .int .i64 (pieE x h)]) ∧ RdF w' v' (pieV x h)) ∧ Below w.heap.size w w' := by
 unfold pieE pieV
 have hp := sgn_pos x
 by_cases k : AngOk h
 ·have he : angE h = 0 := if_pos k
  by_cases m : 0 < x
  ·rw [if_pos ⟨m, k⟩, if_pos ⟨m, k⟩]; exact rpiece_3 v u x h w hv hu hq (hq1.up (by omega)) he ((num_sign x).1.2 m) (angS_pos k)
  ·rw [if_neg (fun e => m e.1), if_neg (fun e => m e.1)]; exact rpiece_1 v u x h w hv hu hq (hq1.up (by omega)) _ _ rfl (fun e => m (hp.1 e)) he rfl
 ·have he : angE h = 1 := if_neg k
  rw [if_neg (fun e => k e.2), if_neg (fun e => k e.2)]
  exact rpiece_2 v u x h w hv hu hq (hq1.up (by omega)) he
theorem pieV_size {x h : Rat} (hx : QS 2 x) (hh : QS 2 h) : QS 100 (pieV x h) := by
 unfold pieV
 split
 ·rename_i k; exact (hx.div (angS_size hh (by omega)) (angS_pos k.2)).up (by omega)
 ·exact qs_zero.up (by omega)
def clsN (a p l m : Rat) : Nat := if 0 < a ∧ 0 < p ∧ l ≤ m then clsS a p l m 64 1 else 0
def clsE (a p l m : Rat) : Int := if 0 < a ∧ 0 < p then (if l ≤ m then cE (clsS a p l m 64 1) else 7) else 1
def clsV (a p l m : Rat) : Rat := cV a p (clsN a p l m)
theorem clsS_le (a p l m : Rat) : ∀ f n, clsS a p l m f n ≤ f + n
 | 0, _ => Nat.zero_le _
 | f + 1, n => by
  unfold clsS
  split
  ·omega
  ·have := clsS_le a p l m f (n + 1); omega
theorem clsV_size {a p l m : Rat} (h0 : QS 2 a) (h1 : QS 2 p) : QS 100 (clsV a p l m) := by
 unfold clsV cV
 split
 ·exact qs_zero.up (by omega)
 ·rename_i h
  have hb : clsN a p l m ≤ 65 := by
   unfold clsN; split
   ·have := clsS_le a p l m 64 1; omega
   ·omega
  have hz : ((clsN a p l m : Int) : Rat) ≠ 0 := by
   have : (clsN a p l m : Int) ≠ 0 := by omega
   exact_mod_cast this
  exact (sub_sizes h1 (h0.div (qs_int (n := (clsN a p l m : Int)) (by omega) (by omega)) hz)).up (by omega)
theorem close_all (v u s t : Value) (a p l m : Rat) (w : World) (hv : RdQ w v a) (hu : RdQ w u p) (hs : RdQ w s l) (ht : RdQ w t m) (q0 : QS 1000 a) (q1 : QS 1000 p) (q2 : QS 1000 l) (q3 : QS 1000 m) :
  Calls Tryz.prog 41 #[v, u, s, t] w fun e w' => (∃ v', e = .returned (.tuple #[.int .i64 (clsN a p l m), v', .int .i64 (clsE a p l m)]) ∧ RdQ w' v' (clsV a p l m)) ∧ Below w.heap.size w w' := by
 have hp := sgn_pos
 unfold clsV
 by_cases ka : 0 < a
 ·by_cases kp : 0 < p
  ·by_cases kl : l ≤ m
   ·have e1 : clsN a p l m = clsS a p l m 64 1 := if_pos ⟨ka, kp, kl⟩
    have e2 : clsE a p l m = cE (clsS a p l m 64 1) := by unfold clsE; rw [if_pos ⟨ka, kp⟩, if_pos kl]
    rw [e1, e2]
    exact close_4 v u s t a p l m w hv hu hs ht q0 q1 q2 q3 ((num_sign a).1.2 ka) ((num_sign p).1.2 kp) _ rfl (fun e => by have := (hp _).1 e; grind)
   ·have e1 : clsN a p l m = 0 := if_neg (fun e => kl e.2.2)
    have e2 : clsE a p l m = 7 := by unfold clsE; rw [if_pos ⟨ka, kp⟩, if_neg kl]
    rw [e1, e2, show cV a p 0 = 0 from if_pos rfl]
    exact close_3 v u s t a p l m w hv hu hs ht q0 q1 q2 q3 ((num_sign a).1.2 ka) ((num_sign p).1.2 kp) ((num_sign (l - m)).1.2 (by grind))
  ·have e1 : clsN a p l m = 0 := if_neg (fun e => kp e.2.1)
   have e2 : clsE a p l m = 1 := if_neg (fun e => kp e.2)
   rw [e1, e2, show cV a p 0 = 0 from if_pos rfl]
   exact close_2 v u s t a p l m w hv hu hs ht q0 q1 q2 q3 ((num_sign a).1.2 ka) _ rfl (Int.not_lt.1 fun e => kp ((hp _).1 e))
 ·have e1 : clsN a p l m = 0 := if_neg (fun e => ka e.1)
  have e2 : clsE a p l m = 1 := if_neg (fun e => ka e.1)
  rw [e1, e2, show cV a p 0 = 0 from if_pos rfl]
  exact close_1 v u s t a p l m w hv hu hs ht q0 q1 q2 q3 _ rfl (Int.not_lt.1 fun e => ka ((hp _).1 e))
theorem rclose_all (v u s t : Value) (a p l m : Rat) (w : World) (hv : RdF w v a) (hu : RdF w u p) (hs : RdF w s l) (ht : RdF w t m) (q0 : QS 1000 a) (q1 : QS 1000 p) (q2 : QS 1000 l) (q3 : QS 1000 m) :
  Calls Tryz.prog 42 #[v, u, s, t] w fun e w' => (∃ v', e = .returned (.tuple #[.int .i64 (clsN a p l m), v', .int .i64 (clsE a p l m)]) ∧ RdF w' v' (clsV a p l m)) ∧ Below w.heap.size w w' := by
 have hp := sgn_pos
 unfold clsV
 by_cases ka : 0 < a
 ·by_cases kp : 0 < p
  ·by_cases kl : l ≤ m
   ·have e1 : clsN a p l m = clsS a p l m 64 1 := if_pos ⟨ka, kp, kl⟩
    have e2 : clsE a p l m = cE (clsS a p l m 64 1) := by unfold clsE; rw [if_pos ⟨ka, kp⟩, if_pos kl]
    rw [e1, e2]
    exact rclose_4 v u s t a p l m w hv hu hs ht q0 q1 q2 q3 ((num_sign a).1.2 ka) ((num_sign p).1.2 kp) _ rfl (fun e => by have := (hp _).1 e; grind)
   ·have e1 : clsN a p l m = 0 := if_neg (fun e => kl e.2.2)
    have e2 : clsE a p l m = 7 := by unfold clsE; rw [if_pos ⟨ka, kp⟩, if_neg kl]
    rw [e1, e2, show cV a p 0 = 0 from if_pos rfl]
    exact rclose_3 v u s t a p l m w hv hu hs ht q0 q1 q2 q3 ((num_sign a).1.2 ka) ((num_sign p).1.2 kp) ((num_sign (l - m)).1.2 (by grind))
  ·have e1 : clsN a p l m = 0 := if_neg (fun e => kp e.2.1)
   have e2 : clsE a p l m = 1 := if_neg (fun e => kp e.2)
   rw [e1, e2, show cV a p 0 = 0 from if_pos rfl]
   exact rclose_2 v u s t a p l m w hv hu hs ht q0 q1 q2 q3 ((num_sign a).1.2 ka) _ rfl (Int.not_lt.1 fun e => kp ((hp _).1 e))
 ·have e1 : clsN a p l m = 0 := if_neg (fun e => ka e.1)
  have e2 : clsE a p l m = 1 := if_neg (fun e => ka e.1)
  rw [e1, e2, show cV a p 0 = 0 from if_pos rfl]
  exact rclose_1 v u s t a p l m w hv hu hs ht q0 q1 q2 q3 _ rfl (Int.not_lt.1 fun e => ka ((hp _).1 e))
set_option maxHeartbeats 40000000 in
theorem buildCuts_any (n0 d0 n1 d1 n20 d20 n21 d21 n22 d22 n23 d23 : Int) (w : World) (b0 : I64 n0 ∧ I64 d0) (b1 : I64 n1 ∧ I64 d1) (bs : (I64 n20 ∧ I64 d20) ∧ (I64 n21 ∧ I64 d21) ∧ (I64 n22 ∧ I64 d22) ∧ (I64 n23 ∧ I64 d23)) :
  Calls Tryz.prog 8 #[.agg #[.int .i64 n0, .int .i64 d0], .agg #[.int .i64 n1, .int .i64 d1], .agg #[.int .i64 n20, .int .i64 d20, .int .i64 n21, .int .i64 d21, .int .i64 n22, .int .i64 d22, .int .i64 n23, .int .i64 d23]] w fun e w' => e = .returned (.bool true) ∧ Below w.heap.size w w' := by
 obtain ⟨b20, b21, b22, b23⟩ := bs
 have HLh : Hid (∀ W, Calls Tryz.prog 27 #[.agg #[.int .i64 n0, .int .i64 d0]] W fun e w' => (∃ v', e = .returned v' ∧ RdQ w' v' (ofRatio n0 d0)) ∧ Below W.heap.size W w') := fun W => lof_agg n0 d0 W b0.1.1 b0.1.2 b0.2.1 b0.2.2
 have HRh : Hid (∀ W, Calls Tryz.prog 29 #[.agg #[.int .i64 n0, .int .i64 d0]] W fun e w' => (∃ v', e = .returned v' ∧ RdF w' v' (ofRatio n0 d0)) ∧ Below W.heap.size W w') := fun W => rof_agg n0 d0 W b0.1.1 b0.1.2 b0.2.1 b0.2.2
 have HQh : Hid (QS 2 (ofRatio n0 d0)) := ofR_size b0.1 b0.2
 have HLx : Hid (∀ W, Calls Tryz.prog 27 #[.agg #[.int .i64 n1, .int .i64 d1]] W fun e w' => (∃ v', e = .returned v' ∧ RdQ w' v' (ofRatio n1 d1)) ∧ Below W.heap.size W w') := fun W => lof_agg n1 d1 W b1.1.1 b1.1.2 b1.2.1 b1.2.2
 have HRx : Hid (∀ W, Calls Tryz.prog 29 #[.agg #[.int .i64 n1, .int .i64 d1]] W fun e w' => (∃ v', e = .returned v' ∧ RdF w' v' (ofRatio n1 d1)) ∧ Below W.heap.size W w') := fun W => rof_agg n1 d1 W b1.1.1 b1.1.2 b1.2.1 b1.2.2
 have HQx : Hid (QS 2 (ofRatio n1 d1)) := ofR_size b1.1 b1.2
 have HLa : Hid (∀ W, Calls Tryz.prog 27 #[.agg #[.int .i64 n20, .int .i64 d20]] W fun e w' => (∃ v', e = .returned v' ∧ RdQ w' v' (ofRatio n20 d20)) ∧ Below W.heap.size W w') := fun W => lof_agg n20 d20 W b20.1.1 b20.1.2 b20.2.1 b20.2.2
 have HRa : Hid (∀ W, Calls Tryz.prog 29 #[.agg #[.int .i64 n20, .int .i64 d20]] W fun e w' => (∃ v', e = .returned v' ∧ RdF w' v' (ofRatio n20 d20)) ∧ Below W.heap.size W w') := fun W => rof_agg n20 d20 W b20.1.1 b20.1.2 b20.2.1 b20.2.2
 have HQa : Hid (QS 2 (ofRatio n20 d20)) := ofR_size b20.1 b20.2
 have HLp : Hid (∀ W, Calls Tryz.prog 27 #[.agg #[.int .i64 n21, .int .i64 d21]] W fun e w' => (∃ v', e = .returned v' ∧ RdQ w' v' (ofRatio n21 d21)) ∧ Below W.heap.size W w') := fun W => lof_agg n21 d21 W b21.1.1 b21.1.2 b21.2.1 b21.2.2
 have HRp : Hid (∀ W, Calls Tryz.prog 29 #[.agg #[.int .i64 n21, .int .i64 d21]] W fun e w' => (∃ v', e = .returned v' ∧ RdF w' v' (ofRatio n21 d21)) ∧ Below W.heap.size W w') := fun W => rof_agg n21 d21 W b21.1.1 b21.1.2 b21.2.1 b21.2.2
 have HQp : Hid (QS 2 (ofRatio n21 d21)) := ofR_size b21.1 b21.2
 have HLl : Hid (∀ W, Calls Tryz.prog 27 #[.agg #[.int .i64 n22, .int .i64 d22]] W fun e w' => (∃ v', e = .returned v' ∧ RdQ w' v' (ofRatio n22 d22)) ∧ Below W.heap.size W w') := fun W => lof_agg n22 d22 W b22.1.1 b22.1.2 b22.2.1 b22.2.2
 have HRl : Hid (∀ W, Calls Tryz.prog 29 #[.agg #[.int .i64 n22, .int .i64 d22]] W fun e w' => (∃ v', e = .returned v' ∧ RdF w' v' (ofRatio n22 d22)) ∧ Below W.heap.size W w') := fun W => rof_agg n22 d22 W b22.1.1 b22.1.2 b22.2.1 b22.2.2
 have HQl : Hid (QS 2 (ofRatio n22 d22)) := ofR_size b22.1 b22.2
 have HLm : Hid (∀ W, Calls Tryz.prog 27 #[.agg #[.int .i64 n23, .int .i64 d23]] W fun e w' => (∃ v', e = .returned v' ∧ RdQ w' v' (ofRatio n23 d23)) ∧ Below W.heap.size W w') := fun W => lof_agg n23 d23 W b23.1.1 b23.1.2 b23.2.1 b23.2.2
 have HRm : Hid (∀ W, Calls Tryz.prog 29 #[.agg #[.int .i64 n23, .int .i64 d23]] W fun e w' => (∃ v', e = .returned v' ∧ RdF w' v' (ofRatio n23 d23)) ∧ Below W.heap.size W w') := fun W => rof_agg n23 d23 W b23.1.1 b23.1.2 b23.2.1 b23.2.2
 have HQm : Hid (QS 2 (ofRatio n23 d23)) := ofR_size b23.1 b23.2
 obtain ⟨h, hh⟩ : ∃ y, y = ofRatio n0 d0 := ⟨_, rfl⟩
 rw [← hh] at HLh HRh HQh
 clear hh
 obtain ⟨x, hx⟩ : ∃ y, y = ofRatio n1 d1 := ⟨_, rfl⟩
 rw [← hx] at HLx HRx HQx
 clear hx
 obtain ⟨a, ha⟩ : ∃ y, y = ofRatio n20 d20 := ⟨_, rfl⟩
 rw [← ha] at HLa HRa HQa
 clear ha
 obtain ⟨p, hp⟩ : ∃ y, y = ofRatio n21 d21 := ⟨_, rfl⟩
 rw [← hp] at HLp HRp HQp
 clear hp
 obtain ⟨l, hl⟩ : ∃ y, y = ofRatio n22 d22 := ⟨_, rfl⟩
 rw [← hl] at HLl HRl HQl
 clear hl
 obtain ⟨m, hm⟩ : ∃ y, y = ofRatio n23 d23 := ⟨_, rfl⟩
 rw [← hm] at HLm HRm HQm
 clear hm
 obtain ⟨ze, hze⟩ : ∃ y, y = angE h := ⟨_, rfl⟩
 have HZE := h0d hze.symm
 obtain ⟨zp, hzp⟩ : ∃ y, y = pieE x h := ⟨_, rfl⟩
 obtain ⟨zn, hzn⟩ : ∃ y : Int, y = (clsN a p l m : Int) := ⟨_, rfl⟩
 obtain ⟨zc, hzc⟩ : ∃ y, y = clsE a p l m := ⟨_, rfl⟩
 have HPq : Hid (∀ W v u, RdQ W v x → RdQ W u h → Calls Tryz.prog 39 #[v, u] W fun e w' => (∃ v', e = .returned (.tuple #[v', .int .i64 zp]) ∧ RdQ w' v' (pieV x h)) ∧ Below W.heap.size W w') := fun W v u h1 h2 => by rw [hzp]; exact piece_all v u x h W h1 h2 (HQx.out.up (by omega)) (HQh.out.up (by omega))
 have HCq : Hid (∀ W v u s t, RdQ W v a → RdQ W u p → RdQ W s l → RdQ W t m → Calls Tryz.prog 41 #[v, u, s, t] W fun e w' => (∃ v', e = .returned (.tuple #[.int .i64 zn, v', .int .i64 zc]) ∧ RdQ w' v' (clsV a p l m)) ∧ Below W.heap.size W w') := fun W v u s t h1 h2 h3 h4 => by rw [hzn, hzc]; exact close_all v u s t a p l m W h1 h2 h3 h4 (HQa.out.up (by omega)) (HQp.out.up (by omega)) (HQl.out.up (by omega)) (HQm.out.up (by omega))
 have HPr : Hid (∀ W v u, RdF W v x → RdF W u h → Calls Tryz.prog 40 #[v, u] W fun e w' => (∃ v', e = .returned (.tuple #[v', .int .i64 zp]) ∧ RdF w' v' (pieV x h)) ∧ Below W.heap.size W w') := fun W v u h1 h2 => by rw [hzp]; exact rpiece_all v u x h W h1 h2 (HQx.out.up (by omega)) (HQh.out.up (by omega))
 have HCr : Hid (∀ W v u s t, RdF W v a → RdF W u p → RdF W s l → RdF W t m → Calls Tryz.prog 42 #[v, u, s, t] W fun e w' => (∃ v', e = .returned (.tuple #[.int .i64 zn, v', .int .i64 zc]) ∧ RdF w' v' (clsV a p l m)) ∧ Below W.heap.size W w') := fun W v u s t h1 h2 h3 h4 => by rw [hzn, hzc]; exact rclose_all v u s t a p l m W h1 h2 h3 h4 (HQa.out.up (by omega)) (HQp.out.up (by omega)) (HQl.out.up (by omega)) (HQm.out.up (by omega))
 have HSC : Hid (QS 900000 (angC h)) := (angC_size HQh.out (by omega)).up (by omega)
 have HSS : Hid (QS 900000 (angS h)) := (angS_size HQh.out (by omega)).up (by omega)
 have HSP : Hid (QS 900000 (pieV x h)) := (pieV_size HQx.out HQh.out).up (by omega)
 have HSV : Hid (QS 900000 (clsV a p l m)) := (clsV_size HQa.out HQp.out).up (by omega)
 obtain ⟨C, hC⟩ : ∃ y, y = angC h := ⟨_, rfl⟩
 obtain ⟨D, hD⟩ : ∃ y, y = angS h := ⟨_, rfl⟩
 obtain ⟨E, hE⟩ : ∃ y, y = pieV x h := ⟨_, rfl⟩
 obtain ⟨F, hF⟩ : ∃ y, y = clsV a p l m := ⟨_, rfl⟩
 have HAq : Hid (∀ W v, RdQ W v h → Calls Tryz.prog 37 #[v] W fun e w' => (∃ v1 v2, e = .returned (.tuple #[v1, v2, .int .i64 ze]) ∧ RdQ w' v1 C ∧ RdQ w' v2 D) ∧ Below W.heap.size W w') := fun W v h1 => by rw [hze, hC, hD]; exact angle_all v h W h1 (HQh.out.up (by omega))
 have HAr : Hid (∀ W v, RdF W v h → Calls Tryz.prog 38 #[v] W fun e w' => (∃ v1 v2, e = .returned (.tuple #[v1, v2, .int .i64 ze]) ∧ RdF w' v1 C ∧ RdF w' v2 D) ∧ Below W.heap.size W w') := fun W v h1 => by rw [hze, hC, hD]; exact rangle_all v h W h1 (HQh.out.up (by omega))
 rw [← hC] at HSC
 rw [← hD] at HSS
 rw [← hE] at HSP HPq HPr
 rw [← hF] at HSV HCq HCr
 clear hC hD hE hF hze hzp hzn hzc HQh HQx HQa HQp HQl HQm HZE b0 b1 b20 b21 b22 b23
 go_enter Tryz.func8, Tryz.ntmps8
 obtain ⟨W1, HW1, HB2, s1w, j1⟩ := st_al0 w #[.int .i64 n0, .int .i64 d0] 59
 have HBw := h0d j1
 obtain ⟨W3, HW3, HB4, s3w, j2⟩ := st_alk 1 2 #[.int .i64 n1, .int .i64 d1] 59 s1w rfl
 obtain ⟨W5, HW5, HB6, s5w, j3⟩ := st_alk 2 3 #[.int .i64 n20, .int .i64 d20, .int .i64 n21, .int .i64 d21, .int .i64 n22, .int .i64 d22, .int .i64 n23, .int .i64 d23] 75 s3w rfl
 go_wp2_with fail
 rw [← HW1.out, ← HW3.out, ← HW5.out]
 obtain ⟨W7, hW7⟩ : ∃ W, W = W5.drew := ⟨_, rfl⟩
 have j4 : Below W5.heap.size W5 W7 := by rw [hW7]; exact (Below.refl _ _).drew
 replace HB6 := kB HB6 j4
 refine seq_start (S := fun w' => w'.cell? ⟨w.heap.size + 2, 0, none⟩ = some (.int .i64 n20) ∧ w'.cell? ⟨w.heap.size + 2, 1, none⟩ = some (.int .i64 d20) ∧ w'.cell? ⟨w.heap.size + 2, 2, none⟩ = some (.int .i64 n21) ∧ w'.cell? ⟨w.heap.size + 2, 3, none⟩ = some (.int .i64 d21) ∧ w'.cell? ⟨w.heap.size + 2, 4, none⟩ = some (.int .i64 n22) ∧ w'.cell? ⟨w.heap.size + 2, 5, none⟩ = some (.int .i64 d22) ∧ w'.cell? ⟨w.heap.size + 2, 6, none⟩ = some (.int .i64 n23) ∧ w'.cell? ⟨w.heap.size + 2, 7, none⟩ = some (.int .i64 d23)) (by kernel_rfl) (by kernel_rfl) (by rw [← hW7]; exact ⟨kD HB6 0, kD HB6 1, kD HB6 2, kD HB6 3, kD HB6 4, kD HB6 5, kD HB6 6, kD HB6 7⟩) ?_
 rw [← hW7]
 clear hW7
 have jm1 := tt (tt j2 j3) j4
 replace HBw := kU HBw jm1
 replace HB2 := kB HB2 jm1
 have y1b2 := klt HB2
 have jm2 := tt j3 j4
 replace HB4 := kB HB4 jm2
 have y1b4 := klt HB4
 have y1b6 := klt HB6
 have l1w := ksz HBw
 have HSR1 : Hid (∀ w', Below W7.heap.size W7 w' → w'.cell? ⟨w.heap.size + 2, 0, none⟩ = some (.int .i64 n20) ∧ w'.cell? ⟨w.heap.size + 2, 1, none⟩ = some (.int .i64 d20) ∧ w'.cell? ⟨w.heap.size + 2, 2, none⟩ = some (.int .i64 n21) ∧ w'.cell? ⟨w.heap.size + 2, 3, none⟩ = some (.int .i64 d21) ∧ w'.cell? ⟨w.heap.size + 2, 4, none⟩ = some (.int .i64 n22) ∧ w'.cell? ⟨w.heap.size + 2, 5, none⟩ = some (.int .i64 d22) ∧ w'.cell? ⟨w.heap.size + 2, 6, none⟩ = some (.int .i64 n23) ∧ w'.cell? ⟨w.heap.size + 2, 7, none⟩ = some (.int .i64 d23)) := fun w' hb => ⟨kD (kB HB6 hb) 0, kD (kB HB6 hb) 1, kD (kB HB6 hb) 2, kD (kB HB6 hb) 3, kD (kB HB6 hb) 4, kD (kB HB6 hb) 5, kD (kB HB6 hb) 6, kD (kB HB6 hb) 7⟩
 iterate 8 refine tk0 (h := ?_)
 refine plq 3 (h := ?_)
 refine plq 3 (h := ?_)
 refine plq 3 (h := ?_)
 refine plq 3 (h := ?_)
 refine fStart (fs := [⟨_, 59, [.int .i64 0, .int .i64 0], _⟩, ⟨_, 59, [.int .i64 0, .int .i64 0], _⟩, ⟨_, 59, [.int .i64 0, .int .i64 0], _⟩, ⟨_, 59, [.int .i64 0, .int .i64 0], _⟩]) (h := fun st HFz => ?_)
 refine nrm (hb := by first | (simp only [puts, Act.put, List.setIfInBounds_toArray, List.set_cons_zero, List.set_cons_succ]; rfl)) (h := ?_)
 refine fEnd HFz HSR1.out (h := fun st z8 j5 HFz hst => ?_)
 obtain ⟨g1_0, e0⟩ := hst 0 nlt
 obtain ⟨g1_1, e1⟩ := hst 1 nlt
 obtain ⟨g1_2, e2⟩ := hst 2 nlt
 obtain ⟨g1_3, e3⟩ := hst 3 nlt
 refine nrm (hb := by simp only [e0, e1, e2, e3, pv]; rfl) (h := ?_)
 have HB9 : Hid (z8.heap[g1_0]? = some (.cells #[.int .i64 0, .int .i64 0] 59 (0, 0))) := (HFz.out.blk 0 _ g1_0 rfl e0).2
 have n2b9 := kne y1b2 HFz e0
 have n4b9 := kne y1b4 HFz e0
 have n6b9 := kne y1b6 HFz e0
 have l9b := kle l1w HFz e0
 have HB10 : Hid (z8.heap[g1_1]? = some (.cells #[.int .i64 0, .int .i64 0] 59 (0, 0))) := (HFz.out.blk 1 _ g1_1 rfl e1).2
 have n2b10 := kne y1b2 HFz e1
 have n4b10 := kne y1b4 HFz e1
 have n6b10 := kne y1b6 HFz e1
 have n9b10 : Hid (g1_0 ≠ g1_1) := fun e => HFz.out.ne 0 1 _ (Nat.le_of_ble_eq_true rfl) (Nat.le_of_ble_eq_true rfl) (by decide) e0 (e ▸ e1)
 have l10b := kle l1w HFz e1
 have HB11 : Hid (z8.heap[g1_2]? = some (.cells #[.int .i64 0, .int .i64 0] 59 (0, 0))) := (HFz.out.blk 2 _ g1_2 rfl e2).2
 have n2b11 := kne y1b2 HFz e2
 have n4b11 := kne y1b4 HFz e2
 have n6b11 := kne y1b6 HFz e2
 have n9b11 : Hid (g1_0 ≠ g1_2) := fun e => HFz.out.ne 0 2 _ (Nat.le_of_ble_eq_true rfl) (Nat.le_of_ble_eq_true rfl) (by decide) e0 (e ▸ e2)
 have n10b11 : Hid (g1_1 ≠ g1_2) := fun e => HFz.out.ne 1 2 _ (Nat.le_of_ble_eq_true rfl) (Nat.le_of_ble_eq_true rfl) (by decide) e1 (e ▸ e2)
 have l11b := kle l1w HFz e2
 have HB12 : Hid (z8.heap[g1_3]? = some (.cells #[.int .i64 0, .int .i64 0] 59 (0, 0))) := (HFz.out.blk 3 _ g1_3 rfl e3).2
 have n2b12 := kne y1b2 HFz e3
 have n4b12 := kne y1b4 HFz e3
 have n6b12 := kne y1b6 HFz e3
 have n9b12 : Hid (g1_0 ≠ g1_3) := fun e => HFz.out.ne 0 3 _ (Nat.le_of_ble_eq_true rfl) (Nat.le_of_ble_eq_true rfl) (by decide) e0 (e ▸ e3)
 have n10b12 : Hid (g1_1 ≠ g1_3) := fun e => HFz.out.ne 1 3 _ (Nat.le_of_ble_eq_true rfl) (Nat.le_of_ble_eq_true rfl) (by decide) e1 (e ▸ e3)
 have n11b12 : Hid (g1_2 ≠ g1_3) := fun e => HFz.out.ne 2 3 _ (Nat.le_of_ble_eq_true rfl) (Nat.le_of_ble_eq_true rfl) (by decide) e2 (e ▸ e3)
 have l12b := kle l1w HFz e3
 clear HFz hst e0 e1 e2 e3
 refine sop (h := fun K9 hK9 => ?_)
 have t13h := kth 0 2 HB9
 refine smw 59 (g1_0) 0 (ht := by exact t13h) (h := ?_)
 obtain ⟨W14, HW14⟩ : ∃ W, Hid (W = z8.setCells (g1_0) 0 [.int .i64 n20, .int .i64 d20]) := ⟨_, rfl⟩
 replace HB9 := kPf (kM HW14) HB9 rfl
 rw [← HW14.out]
 replace HB6 := kO (kM HW14) (kB HB6 j5) n6b9.out
 refine ckk hK9 (by exact ⟨kD HB6 0, kD HB6 1, kD HB6 2, kD HB6 3, kD HB6 4, kD HB6 5, kD HB6 6, kD HB6 7⟩) (h := ?_)
 clear hK9 K9 t13h
 refine sop (h := fun K9 hK9 => ?_)
 replace HB10 := kO (kM HW14) HB10 n9b10.out.symm
 have t15h := kth 0 2 HB10
 refine smw 59 (g1_1) 0 (ht := by exact t15h) (h := ?_)
 obtain ⟨W16, HW16⟩ : ∃ W, Hid (W = W14.setCells (g1_1) 0 [.int .i64 n21, .int .i64 d21]) := ⟨_, rfl⟩
 replace HB10 := kPf (kM HW16) HB10 rfl
 rw [← HW16.out]
 replace HB6 := kO (kM HW16) HB6 n6b10.out
 refine ckk hK9 (by exact ⟨kD HB6 0, kD HB6 1, kD HB6 2, kD HB6 3, kD HB6 4, kD HB6 5, kD HB6 6, kD HB6 7⟩) (h := ?_)
 clear hK9 K9 t15h
 refine sop (h := fun K9 hK9 => ?_)
 replace HB11 := kO (kM HW16) (kO (kM HW14) HB11 n9b11.out.symm) n10b11.out.symm
 have t17h := kth 0 2 HB11
 refine smw 59 (g1_2) 0 (ht := by exact t17h) (h := ?_)
 obtain ⟨W18, HW18⟩ : ∃ W, Hid (W = W16.setCells (g1_2) 0 [.int .i64 n22, .int .i64 d22]) := ⟨_, rfl⟩
 replace HB11 := kPf (kM HW18) HB11 rfl
 rw [← HW18.out]
 replace HB6 := kO (kM HW18) HB6 n6b11.out
 refine ckk hK9 (by exact ⟨kD HB6 0, kD HB6 1, kD HB6 2, kD HB6 3, kD HB6 4, kD HB6 5, kD HB6 6, kD HB6 7⟩) (h := ?_)
 clear hK9 K9 t17h
 refine sop (h := fun K9 hK9 => ?_)
 replace HB12 := kO (kM HW18) (kO (kM HW16) (kO (kM HW14) HB12 n9b12.out.symm) n10b12.out.symm) n11b12.out.symm
 have t19h := kth 0 2 HB12
 refine smw 59 (g1_3) 0 (ht := by exact t19h) (h := ?_)
 obtain ⟨W20, HW20⟩ : ∃ W, Hid (W = W18.setCells (g1_3) 0 [.int .i64 n23, .int .i64 d23]) := ⟨_, rfl⟩
 replace HB12 := kPf (kM HW20) HB12 rfl
 rw [← HW20.out]
 replace HB6 := kO (kM HW20) HB6 n6b12.out
 refine ckk hK9 (by exact ⟨kD HB6 0, kD HB6 1, kD HB6 2, kD HB6 3, kD HB6 4, kD HB6 5, kD HB6 6, kD HB6 7⟩) (h := ?_)
 clear hK9 K9 t19h
 refine seq_done (by kernel_rfl) ?_
 replace HB2 := kO (kM HW20) (kO (kM HW18) (kO (kM HW16) (kO (kM HW14) (kB HB2 j5) n2b9.out) n2b10.out) n2b11.out) n2b12.out
 have c21 := kC HB2 0 rfl
 have c22 := kC HB2 1 rfl
 go_wp2_with fail
 clear c21 c22
 refine mQ (HLh.out _) fun w1 g1a A1a k1a c1a A1b k1b c1b HR1 j1c => ?_
 go_wp2_with fail
 refine (HAq.out _ _ HR1.out).mono ?_
 rintro e w2 ⟨⟨vx, vy, rfl, hr, hr2⟩, j2c⟩
 obtain ⟨g2xa, A2xa, k2xa, c2xa, A2xb, k2xb, c2xb, rfl, hr⟩ := hr.open
 obtain ⟨g2ya, A2ya, k2ya, c2ya, A2yb, k2yb, c2yb, rfl, hr2⟩ := hr2.open
 have HR2 := h0d hr
 have HR2b := h0d hr2
 clear hr2
 clear hr
 obtain ⟨W23, HW23, HB24, s23w, j6⟩ := st_al0 w2 #[.bool g2xa, .slice A2xa k2xa c2xa, .slice A2xb k2xb c2xb] 32
 obtain ⟨W25, HW25, HB26, s25w, j7⟩ := st_alk 1 2 #[.bool g2ya, .slice A2ya k2ya c2ya, .slice A2yb k2yb c2yb] 32 s23w rfl
 have jm3 := tt (tt (tt j1c j2c) j6) j7
 replace HB2 := kB HB2 jm3
 have c27 := kC HB2 0 rfl
 have c28 := kC HB2 1 rfl
 rw [HW25.out, HW23.out] at c27
 rw [HW25.out, HW23.out] at c28
 go_wp2_with fail
 rw [← HW23.out, ← HW25.out]
 clear c27 c28
 refine mQ (HRh.out _) fun w3 g3a A3a k3a c3a A3b k3b c3b HR3 j3c => ?_
 go_wp2_with fail
 refine (HAr.out _ _ HR3.out).mono ?_
 rintro e w4 ⟨⟨vx, vy, rfl, hr, hr2⟩, j4c⟩
 obtain ⟨g4xa, A4xa, k4xa, c4xa, A4xb, k4xb, c4xb, rfl, hr⟩ := hr.open
 obtain ⟨g4ya, A4ya, k4ya, c4ya, A4yb, k4yb, c4yb, rfl, hr2⟩ := hr2.open
 have HR4 := h0d hr
 have HR4b := h0d hr2
 clear hr2
 clear hr
 obtain ⟨W29, HW29, HB30, s29w, j8⟩ := st_al0 w4 #[.bool g4xa, .slice A4xa k4xa c4xa, .slice A4xb k4xb c4xb] 40
 obtain ⟨W31, HW31, HB32, s31w, j9⟩ := st_alk 1 2 #[.bool g4ya, .slice A4ya k4ya c4ya, .slice A4yb k4yb c4yb] 40 s29w rfl
 have jm4 := tt (tt (tt (tt j7 j3c) j4c) j8) j9
 replace HB24 := kB HB24 jm4
 have c33 := kC HB24 0 rfl
 have c34 := kC HB24 1 rfl
 have c35 := kC HB24 2 rfl
 rw [HW31.out, HW29.out] at c33
 rw [HW31.out, HW29.out] at c34
 rw [HW31.out, HW29.out] at c35
 go_wp2_with fail
 rw [← HW29.out, ← HW31.out]
 clear c33 c34 c35
 have jm5 := tt j6 jm4
 replace HR2 := kV jm5 HR2
 have jm6 := tt j8 j9
 replace HR4 := kV jm6 HR4
 refine mV (is_any _ _ C _ HR2.out HR4.out HSC.out) fun w5 j5c => ?_
 have jm7 := tt (tt (tt (tt j3c j4c) j8) j9) j5c
 replace HB26 := kB HB26 jm7
 have c36 := kC HB26 0 rfl
 have c37 := kC HB26 1 rfl
 have c38 := kC HB26 2 rfl
 replace HB32 := kB HB32 j5c
 have c39 := kC HB32 0 rfl
 have c40 := kC HB32 1 rfl
 have c41 := kC HB32 2 rfl
 go_wp2_with fail
 clear c36 c37 c38 c39 c40 c41
 have jm8 := tt jm5 j5c
 replace HR2b := kV jm8 HR2b
 have jm9 := tt jm6 j5c
 replace HR4b := kV jm9 HR4b
 refine mV (is_any _ _ D _ HR2b.out HR4b.out HSS.out) fun w6 j6c => ?_
 go_wp2_with fail
 obtain ⟨W42, hW42⟩ : ∃ W, W = w6.drew := ⟨_, rfl⟩
 have j10 : Below w6.heap.size w6 W42 := by rw [hW42]; exact (Below.refl _ _).drew
 have jm10 := tt (tt (tt (tt (tt (tt (tt jm3 j3c) j4c) j8) j9) j5c) j6c) j10
 replace HB4 := kB (kO (kM HW20) (kO (kM HW18) (kO (kM HW16) (kO (kM HW14) (kB HB4 j5) n4b9.out) n4b10.out) n4b11.out) n4b12.out) jm10
 have jm11 := tt (tt jm7 j6c) j10
 replace HB2 := kB HB2 jm11
 refine seq_start (S := fun w' => w'.cell? ⟨w.heap.size + 1, 0, none⟩ = some (.int .i64 n1) ∧ w'.cell? ⟨w.heap.size + 1, 1, none⟩ = some (.int .i64 d1) ∧ w'.cell? ⟨w.heap.size, 0, none⟩ = some (.int .i64 n0) ∧ w'.cell? ⟨w.heap.size, 1, none⟩ = some (.int .i64 d0)) (by kernel_rfl) (by kernel_rfl) (by rw [← hW42]; exact ⟨kD HB4 0, kD HB4 1, kD HB2 0, kD HB2 1⟩) ?_
 rw [← hW42]
 clear hW42
 replace HBw := kU (kS (kM HW20) l12b (kS (kM HW18) l11b (kS (kM HW16) l10b (kS (kM HW14) l9b (kU HBw j5))))) jm10
 have y2b2 := klt HB2
 have y2b4 := klt HB4
 replace HB6 := kB HB6 jm10
 have y2b6 := klt HB6
 replace HB9 := kB (kO (kM HW20) (kO (kM HW18) (kO (kM HW16) HB9 n9b10.out) n9b11.out) n9b12.out) jm10
 have y2b9 := klt HB9
 replace HB10 := kB (kO (kM HW20) (kO (kM HW18) HB10 n10b11.out) n10b12.out) jm10
 have y2b10 := klt HB10
 replace HB11 := kB (kO (kM HW20) HB11 n11b12.out) jm10
 have y2b11 := klt HB11
 replace HB12 := kB HB12 jm10
 have y2b12 := klt HB12
 have jm12 := tt (tt j5c j6c) j10
 replace HB24 := kB HB24 jm12
 have y2b24 := klt HB24
 have jm13 := tt j6c j10
 replace HB26 := kB HB26 jm13
 have y2b26 := klt HB26
 have jm14 := tt j9 jm12
 replace HB30 := kB HB30 jm14
 have y2b30 := klt HB30
 replace HB32 := kB HB32 jm13
 have y2b32 := klt HB32
 have l2w := ksz HBw
 have HSR2 : Hid (∀ w', Below W42.heap.size W42 w' → w'.cell? ⟨w.heap.size + 1, 0, none⟩ = some (.int .i64 n1) ∧ w'.cell? ⟨w.heap.size + 1, 1, none⟩ = some (.int .i64 d1) ∧ w'.cell? ⟨w.heap.size, 0, none⟩ = some (.int .i64 n0) ∧ w'.cell? ⟨w.heap.size, 1, none⟩ = some (.int .i64 d0)) := fun w' hb => ⟨kD (kB HB4 hb) 0, kD (kB HB4 hb) 1, kD (kB HB2 hb) 0, kD (kB HB2 hb) 1⟩
 refine tk0 (h := ?_)
 refine plq 1 (h := ?_)
 refine tk0 (h := ?_)
 refine plq 6 (h := ?_)
 refine fStart (fs := [⟨_, 32, [.bool false, .slice none 0 0, .slice none 0 0], _⟩]) (h := fun st HFz => ?_)
 refine nrm (hb := by first | (simp only [puts, Act.put, List.setIfInBounds_toArray, List.set_cons_zero, List.set_cons_succ]; rfl)) (h := ?_)
 refine fOp HFz HSR2.out (h := fun st z43 j11 HFz K9 hK9 => ?_)
 go_simp
 refine mQ (HLx.out _) fun w7 g7a A7a k7a c7a A7b k7b c7b HR7 j7c => ?_
 replace HFz := h0d (HFz.out.below j7c)
 refine ckk hK9 (by exact HSR2.out _ HFz.out.bel) (h := ?_)
 clear hK9 K9
 refine fOp HFz HSR2.out (h := fun st z44 j12 HFz K9 hK9 => ?_)
 go_simp
 refine mQ (HLh.out _) fun w8 g8a A8a k8a c8a A8b k8b c8b HR8 j8c => ?_
 replace HFz := h0d (HFz.out.below j8c)
 refine ckk hK9 (by exact HSR2.out _ HFz.out.bel) (h := ?_)
 clear hK9 K9
 refine fOp HFz HSR2.out (h := fun st z45 j13 HFz K9 hK9 => ?_)
 go_simp
 have jm15 := tt (tt j12 j8c) j13
 replace HR7 := kV jm15 HR7
 replace HR8 := kV j13 HR8
 refine (HPq.out _ _ _ HR7.out HR8.out).mono ?_
 rintro e w9 ⟨⟨vx, rfl, hr⟩, j9c⟩
 obtain ⟨g9a, A9a, k9a, c9a, A9b, k9b, c9b, rfl, hr⟩ := hr.open
 have HR9 := h0d hr
 clear hr
 replace HFz := h0d (HFz.out.below j9c)
 refine ckk hK9 (by exact HSR2.out _ HFz.out.bel) (h := ?_)
 clear hK9 K9
 refine fTk (h := ?_)
 refine fTk (h := ?_)
 refine fTk (h := ?_)
 refine fEnd HFz HSR2.out (h := fun st z46 j14 HFz hst => ?_)
 obtain ⟨g2_0, e0⟩ := hst 0 nlt
 refine nrm (hb := by simp only [e0, pv]; rfl) (h := ?_)
 have HB47 : Hid (z46.heap[g2_0]? = some (.cells #[.bool false, .slice none 0 0, .slice none 0 0] 32 (0, 0))) := (HFz.out.blk 0 _ g2_0 rfl e0).2
 have n2b47 := kne y2b2 HFz e0
 have n4b47 := kne y2b4 HFz e0
 have n6b47 := kne y2b6 HFz e0
 have n9b47 := kne y2b9 HFz e0
 have n10b47 := kne y2b10 HFz e0
 have n11b47 := kne y2b11 HFz e0
 have n12b47 := kne y2b12 HFz e0
 have n24b47 := kne y2b24 HFz e0
 have n26b47 := kne y2b26 HFz e0
 have n30b47 := kne y2b30 HFz e0
 have n32b47 := kne y2b32 HFz e0
 have l47b := kle l2w HFz e0
 clear HFz hst e0
 refine sop (h := fun K9 hK9 => ?_)
 have t48h := kth 0 3 HB47
 refine smw 32 (g2_0) 0 (ht := by exact t48h) (h := ?_)
 obtain ⟨W49, HW49⟩ : ∃ W, Hid (W = z46.setCells (g2_0) 0 [.bool g9a, .slice A9a k9a c9a, .slice A9b k9b c9b]) := ⟨_, rfl⟩
 have TW49 := kN (kM HW49) HB47 rfl rfl
 replace HB47 := kPf (kM HW49) HB47 rfl
 rw [← HW49.out]
 have jm16 := tt (tt (tt (tt (tt (tt j11 j7c) j12) j8c) j13) j9c) j14
 replace HB4 := kO (kM HW49) (kB HB4 jm16) n4b47.out
 replace HB2 := kO (kM HW49) (kB HB2 jm16) n2b47.out
 refine ckk hK9 (by exact ⟨kD HB4 0, kD HB4 1, kD HB2 0, kD HB2 1⟩) (h := ?_)
 clear hK9 K9 t48h
 refine tk0 (h := ?_)
 refine seq_done (by kernel_rfl) ?_
 go_wp2_with fail
 obtain ⟨W50, hW50⟩ : ∃ W, W = W49.drew := ⟨_, rfl⟩
 have j15 : Below W49.heap.size W49 W50 := by rw [hW50]; exact (Below.refl _ _).drew
 replace HB4 := kB HB4 j15
 replace HB2 := kB HB2 j15
 refine seq_start (S := fun w' => w'.cell? ⟨w.heap.size + 1, 0, none⟩ = some (.int .i64 n1) ∧ w'.cell? ⟨w.heap.size + 1, 1, none⟩ = some (.int .i64 d1) ∧ w'.cell? ⟨w.heap.size, 0, none⟩ = some (.int .i64 n0) ∧ w'.cell? ⟨w.heap.size, 1, none⟩ = some (.int .i64 d0)) (by kernel_rfl) (by kernel_rfl) (by rw [← hW50]; exact ⟨kD HB4 0, kD HB4 1, kD HB2 0, kD HB2 1⟩) ?_
 rw [← hW50]
 clear hW50
 replace HBw := kU (kS (kM HW49) l47b (kU HBw jm16)) j15
 have y3b2 := klt HB2
 have y3b4 := klt HB4
 replace HB6 := kB (kO (kM HW49) (kB HB6 jm16) n6b47.out) j15
 have y3b6 := klt HB6
 replace HB9 := kB (kO (kM HW49) (kB HB9 jm16) n9b47.out) j15
 have y3b9 := klt HB9
 replace HB10 := kB (kO (kM HW49) (kB HB10 jm16) n10b47.out) j15
 have y3b10 := klt HB10
 replace HB11 := kB (kO (kM HW49) (kB HB11 jm16) n11b47.out) j15
 have y3b11 := klt HB11
 replace HB12 := kB (kO (kM HW49) (kB HB12 jm16) n12b47.out) j15
 have y3b12 := klt HB12
 replace HB24 := kB (kO (kM HW49) (kB HB24 jm16) n24b47.out) j15
 have y3b24 := klt HB24
 replace HB26 := kB (kO (kM HW49) (kB HB26 jm16) n26b47.out) j15
 have y3b26 := klt HB26
 replace HB30 := kB (kO (kM HW49) (kB HB30 jm16) n30b47.out) j15
 have y3b30 := klt HB30
 replace HB32 := kB (kO (kM HW49) (kB HB32 jm16) n32b47.out) j15
 have y3b32 := klt HB32
 replace HB47 := kB HB47 j15
 have y3b47 := klt HB47
 have l3w := ksz HBw
 have HSR3 : Hid (∀ w', Below W50.heap.size W50 w' → w'.cell? ⟨w.heap.size + 1, 0, none⟩ = some (.int .i64 n1) ∧ w'.cell? ⟨w.heap.size + 1, 1, none⟩ = some (.int .i64 d1) ∧ w'.cell? ⟨w.heap.size, 0, none⟩ = some (.int .i64 n0) ∧ w'.cell? ⟨w.heap.size, 1, none⟩ = some (.int .i64 d0)) := fun w' hb => ⟨kD (kB HB4 hb) 0, kD (kB HB4 hb) 1, kD (kB HB2 hb) 0, kD (kB HB2 hb) 1⟩
 refine tk0 (h := ?_)
 refine plq 1 (h := ?_)
 refine tk0 (h := ?_)
 refine plq 6 (h := ?_)
 refine fStart (fs := [⟨_, 40, [.bool false, .slice none 0 0, .slice none 0 0], _⟩]) (h := fun st HFz => ?_)
 refine nrm (hb := by first | (simp only [puts, Act.put, List.setIfInBounds_toArray, List.set_cons_zero, List.set_cons_succ]; rfl)) (h := ?_)
 refine fOp HFz HSR3.out (h := fun st z51 j16 HFz K9 hK9 => ?_)
 go_simp
 refine mQ (HRx.out _) fun w10 g10a A10a k10a c10a A10b k10b c10b HR10 j10c => ?_
 replace HFz := h0d (HFz.out.below j10c)
 refine ckk hK9 (by exact HSR3.out _ HFz.out.bel) (h := ?_)
 clear hK9 K9
 refine fOp HFz HSR3.out (h := fun st z52 j17 HFz K9 hK9 => ?_)
 go_simp
 refine mQ (HRh.out _) fun w11 g11a A11a k11a c11a A11b k11b c11b HR11 j11c => ?_
 replace HFz := h0d (HFz.out.below j11c)
 refine ckk hK9 (by exact HSR3.out _ HFz.out.bel) (h := ?_)
 clear hK9 K9
 refine fOp HFz HSR3.out (h := fun st z53 j18 HFz K9 hK9 => ?_)
 go_simp
 have jm17 := tt (tt j17 j11c) j18
 replace HR10 := kV jm17 HR10
 replace HR11 := kV j18 HR11
 refine (HPr.out _ _ _ HR10.out HR11.out).mono ?_
 rintro e w12 ⟨⟨vx, rfl, hr⟩, j12c⟩
 obtain ⟨g12a, A12a, k12a, c12a, A12b, k12b, c12b, rfl, hr⟩ := hr.open
 have HR12 := h0d hr
 clear hr
 replace HFz := h0d (HFz.out.below j12c)
 refine ckk hK9 (by exact HSR3.out _ HFz.out.bel) (h := ?_)
 clear hK9 K9
 refine fTk (h := ?_)
 refine fTk (h := ?_)
 refine fTk (h := ?_)
 refine fEnd HFz HSR3.out (h := fun st z54 j19 HFz hst => ?_)
 obtain ⟨g3_0, e0⟩ := hst 0 nlt
 refine nrm (hb := by simp only [e0, pv]; rfl) (h := ?_)
 have HB55 : Hid (z54.heap[g3_0]? = some (.cells #[.bool false, .slice none 0 0, .slice none 0 0] 40 (0, 0))) := (HFz.out.blk 0 _ g3_0 rfl e0).2
 have n2b55 := kne y3b2 HFz e0
 have n4b55 := kne y3b4 HFz e0
 have n6b55 := kne y3b6 HFz e0
 have n9b55 := kne y3b9 HFz e0
 have n10b55 := kne y3b10 HFz e0
 have n11b55 := kne y3b11 HFz e0
 have n12b55 := kne y3b12 HFz e0
 have n24b55 := kne y3b24 HFz e0
 have n26b55 := kne y3b26 HFz e0
 have n30b55 := kne y3b30 HFz e0
 have n32b55 := kne y3b32 HFz e0
 have n47b55 := kne y3b47 HFz e0
 have l55b := kle l3w HFz e0
 clear HFz hst e0
 refine sop (h := fun K9 hK9 => ?_)
 have t56h := kth 0 3 HB55
 refine smw 40 (g3_0) 0 (ht := by exact t56h) (h := ?_)
 obtain ⟨W57, HW57⟩ : ∃ W, Hid (W = z54.setCells (g3_0) 0 [.bool g12a, .slice A12a k12a c12a, .slice A12b k12b c12b]) := ⟨_, rfl⟩
 have TW57 := kN (kM HW57) HB55 rfl rfl
 replace HB55 := kPf (kM HW57) HB55 rfl
 rw [← HW57.out]
 have jm18 := tt (tt (tt (tt (tt (tt j16 j10c) j17) j11c) j18) j12c) j19
 replace HB4 := kO (kM HW57) (kB HB4 jm18) n4b55.out
 replace HB2 := kO (kM HW57) (kB HB2 jm18) n2b55.out
 refine ckk hK9 (by exact ⟨kD HB4 0, kD HB4 1, kD HB2 0, kD HB2 1⟩) (h := ?_)
 clear hK9 K9 t56h
 refine tk0 (h := ?_)
 refine seq_done (by kernel_rfl) ?_
 go_wp2_with fail
 obtain ⟨W58, hW58⟩ : ∃ W, W = W57.drew := ⟨_, rfl⟩
 have j20 : Below W57.heap.size W57 W58 := by rw [hW58]; exact (Below.refl _ _).drew
 replace HB9 := kB (kO (kM HW57) (kB HB9 jm18) n9b55.out) j20
 replace HB10 := kB (kO (kM HW57) (kB HB10 jm18) n10b55.out) j20
 replace HB11 := kB (kO (kM HW57) (kB HB11 jm18) n11b55.out) j20
 replace HB12 := kB (kO (kM HW57) (kB HB12 jm18) n12b55.out) j20
 refine seq_start (S := fun w' => w'.cell? ⟨g1_0, 0, none⟩ = some (.int .i64 n20) ∧ w'.cell? ⟨g1_0, 1, none⟩ = some (.int .i64 d20) ∧ w'.cell? ⟨g1_1, 0, none⟩ = some (.int .i64 n21) ∧ w'.cell? ⟨g1_1, 1, none⟩ = some (.int .i64 d21) ∧ w'.cell? ⟨g1_2, 0, none⟩ = some (.int .i64 n22) ∧ w'.cell? ⟨g1_2, 1, none⟩ = some (.int .i64 d22) ∧ w'.cell? ⟨g1_3, 0, none⟩ = some (.int .i64 n23) ∧ w'.cell? ⟨g1_3, 1, none⟩ = some (.int .i64 d23)) (by kernel_rfl) (by kernel_rfl) (by rw [← hW58]; exact ⟨kD HB9 0, kD HB9 1, kD HB10 0, kD HB10 1, kD HB11 0, kD HB11 1, kD HB12 0, kD HB12 1⟩) ?_
 rw [← hW58]
 clear hW58
 replace HBw := kU (kS (kM HW57) l55b (kU HBw jm18)) j20
 replace HB2 := kB HB2 j20
 have y4b2 := klt HB2
 replace HB4 := kB HB4 j20
 have y4b4 := klt HB4
 replace HB6 := kB (kO (kM HW57) (kB HB6 jm18) n6b55.out) j20
 have y4b6 := klt HB6
 have y4b9 := klt HB9
 have y4b10 := klt HB10
 have y4b11 := klt HB11
 have y4b12 := klt HB12
 replace HB24 := kB (kO (kM HW57) (kB HB24 jm18) n24b55.out) j20
 have y4b24 := klt HB24
 replace HB26 := kB (kO (kM HW57) (kB HB26 jm18) n26b55.out) j20
 have y4b26 := klt HB26
 replace HB30 := kB (kO (kM HW57) (kB HB30 jm18) n30b55.out) j20
 have y4b30 := klt HB30
 replace HB32 := kB (kO (kM HW57) (kB HB32 jm18) n32b55.out) j20
 have y4b32 := klt HB32
 replace HB47 := kB (kO (kM HW57) (kB HB47 jm18) n47b55.out) j20
 have y4b47 := klt HB47
 replace HB55 := kB HB55 j20
 have y4b55 := klt HB55
 have l4w := ksz HBw
 have HSR4 : Hid (∀ w', Below W58.heap.size W58 w' → w'.cell? ⟨g1_0, 0, none⟩ = some (.int .i64 n20) ∧ w'.cell? ⟨g1_0, 1, none⟩ = some (.int .i64 d20) ∧ w'.cell? ⟨g1_1, 0, none⟩ = some (.int .i64 n21) ∧ w'.cell? ⟨g1_1, 1, none⟩ = some (.int .i64 d21) ∧ w'.cell? ⟨g1_2, 0, none⟩ = some (.int .i64 n22) ∧ w'.cell? ⟨g1_2, 1, none⟩ = some (.int .i64 d22) ∧ w'.cell? ⟨g1_3, 0, none⟩ = some (.int .i64 n23) ∧ w'.cell? ⟨g1_3, 1, none⟩ = some (.int .i64 d23)) := fun w' hb => ⟨kD (kB HB9 hb) 0, kD (kB HB9 hb) 1, kD (kB HB10 hb) 0, kD (kB HB10 hb) 1, kD (kB HB11 hb) 0, kD (kB HB11 hb) 1, kD (kB HB12 hb) 0, kD (kB HB12 hb) 1⟩
 refine tk0 (h := ?_)
 refine plq 1 (h := ?_)
 refine tk0 (h := ?_)
 refine plq 2 (h := ?_)
 refine tk0 (h := ?_)
 refine plq 3 (h := ?_)
 refine tk0 (h := ?_)
 refine plq 9 (h := ?_)
 refine fStart (fs := [⟨_, 32, [.bool false, .slice none 0 0, .slice none 0 0], _⟩]) (h := fun st HFz => ?_)
 refine nrm (hb := by first | (simp only [puts, Act.put, List.setIfInBounds_toArray, List.set_cons_zero, List.set_cons_succ]; rfl)) (h := ?_)
 refine fOp HFz HSR4.out (h := fun st z59 j21 HFz K9 hK9 => ?_)
 go_simp
 refine mQ (HLa.out _) fun w13 g13a A13a k13a c13a A13b k13b c13b HR13 j13c => ?_
 replace HFz := h0d (HFz.out.below j13c)
 refine ckk hK9 (by exact HSR4.out _ HFz.out.bel) (h := ?_)
 clear hK9 K9
 refine fOp HFz HSR4.out (h := fun st z60 j22 HFz K9 hK9 => ?_)
 go_simp
 refine mQ (HLp.out _) fun w14 g14a A14a k14a c14a A14b k14b c14b HR14 j14c => ?_
 replace HFz := h0d (HFz.out.below j14c)
 refine ckk hK9 (by exact HSR4.out _ HFz.out.bel) (h := ?_)
 clear hK9 K9
 refine fOp HFz HSR4.out (h := fun st z61 j23 HFz K9 hK9 => ?_)
 go_simp
 refine mQ (HLl.out _) fun w15 g15a A15a k15a c15a A15b k15b c15b HR15 j15c => ?_
 replace HFz := h0d (HFz.out.below j15c)
 refine ckk hK9 (by exact HSR4.out _ HFz.out.bel) (h := ?_)
 clear hK9 K9
 refine fOp HFz HSR4.out (h := fun st z62 j24 HFz K9 hK9 => ?_)
 go_simp
 refine mQ (HLm.out _) fun w16 g16a A16a k16a c16a A16b k16b c16b HR16 j16c => ?_
 replace HFz := h0d (HFz.out.below j16c)
 refine ckk hK9 (by exact HSR4.out _ HFz.out.bel) (h := ?_)
 clear hK9 K9
 refine fOp HFz HSR4.out (h := fun st z63 j25 HFz K9 hK9 => ?_)
 go_simp
 have jm19 := tt (tt (tt (tt (tt (tt j22 j14c) j23) j15c) j24) j16c) j25
 replace HR13 := kV jm19 HR13
 have jm20 := tt (tt (tt (tt j23 j15c) j24) j16c) j25
 replace HR14 := kV jm20 HR14
 have jm21 := tt (tt j24 j16c) j25
 replace HR15 := kV jm21 HR15
 replace HR16 := kV j25 HR16
 refine (HCq.out _ _ _ _ _ HR13.out HR14.out HR15.out HR16.out).mono ?_
 rintro e w17 ⟨⟨vx, rfl, hr⟩, j17c⟩
 obtain ⟨g17a, A17a, k17a, c17a, A17b, k17b, c17b, rfl, hr⟩ := hr.open
 have HR17 := h0d hr
 clear hr
 replace HFz := h0d (HFz.out.below j17c)
 refine ckk hK9 (by exact HSR4.out _ HFz.out.bel) (h := ?_)
 clear hK9 K9
 refine fTk (h := ?_)
 refine fTk (h := ?_)
 refine fTk (h := ?_)
 refine fTk (h := ?_)
 refine fEnd HFz HSR4.out (h := fun st z64 j26 HFz hst => ?_)
 obtain ⟨g4_0, e0⟩ := hst 0 nlt
 refine nrm (hb := by simp only [e0, pv]; rfl) (h := ?_)
 have HB65 : Hid (z64.heap[g4_0]? = some (.cells #[.bool false, .slice none 0 0, .slice none 0 0] 32 (0, 0))) := (HFz.out.blk 0 _ g4_0 rfl e0).2
 have n2b65 := kne y4b2 HFz e0
 have n4b65 := kne y4b4 HFz e0
 have n6b65 := kne y4b6 HFz e0
 have n9b65 := kne y4b9 HFz e0
 have n10b65 := kne y4b10 HFz e0
 have n11b65 := kne y4b11 HFz e0
 have n12b65 := kne y4b12 HFz e0
 have n24b65 := kne y4b24 HFz e0
 have n26b65 := kne y4b26 HFz e0
 have n30b65 := kne y4b30 HFz e0
 have n32b65 := kne y4b32 HFz e0
 have n47b65 := kne y4b47 HFz e0
 have n55b65 := kne y4b55 HFz e0
 have l65b := kle l4w HFz e0
 clear HFz hst e0
 refine tk0 (h := ?_)
 refine sop (h := fun K9 hK9 => ?_)
 have t66h := kth 0 3 HB65
 refine smw 32 (g4_0) 0 (ht := by exact t66h) (h := ?_)
 obtain ⟨W67, HW67⟩ : ∃ W, Hid (W = z64.setCells (g4_0) 0 [.bool g17a, .slice A17a k17a c17a, .slice A17b k17b c17b]) := ⟨_, rfl⟩
 have TW67 := kN (kM HW67) HB65 rfl rfl
 replace HB65 := kPf (kM HW67) HB65 rfl
 rw [← HW67.out]
 have jm22 := tt (tt (tt (tt (tt (tt (tt (tt (tt (tt j21 j13c) j22) j14c) j23) j15c) j24) j16c) j25) j17c) j26
 replace HB9 := kO (kM HW67) (kB HB9 jm22) n9b65.out
 replace HB10 := kO (kM HW67) (kB HB10 jm22) n10b65.out
 replace HB11 := kO (kM HW67) (kB HB11 jm22) n11b65.out
 replace HB12 := kO (kM HW67) (kB HB12 jm22) n12b65.out
 refine ckk hK9 (by exact ⟨kD HB9 0, kD HB9 1, kD HB10 0, kD HB10 1, kD HB11 0, kD HB11 1, kD HB12 0, kD HB12 1⟩) (h := ?_)
 clear hK9 K9 t66h
 refine tk0 (h := ?_)
 refine seq_done (by kernel_rfl) ?_
 go_wp2_with fail
 obtain ⟨W68, hW68⟩ : ∃ W, W = W67.drew := ⟨_, rfl⟩
 have j27 : Below W67.heap.size W67 W68 := by rw [hW68]; exact (Below.refl _ _).drew
 replace HB9 := kB HB9 j27
 replace HB10 := kB HB10 j27
 replace HB11 := kB HB11 j27
 replace HB12 := kB HB12 j27
 refine seq_start (S := fun w' => w'.cell? ⟨g1_0, 0, none⟩ = some (.int .i64 n20) ∧ w'.cell? ⟨g1_0, 1, none⟩ = some (.int .i64 d20) ∧ w'.cell? ⟨g1_1, 0, none⟩ = some (.int .i64 n21) ∧ w'.cell? ⟨g1_1, 1, none⟩ = some (.int .i64 d21) ∧ w'.cell? ⟨g1_2, 0, none⟩ = some (.int .i64 n22) ∧ w'.cell? ⟨g1_2, 1, none⟩ = some (.int .i64 d22) ∧ w'.cell? ⟨g1_3, 0, none⟩ = some (.int .i64 n23) ∧ w'.cell? ⟨g1_3, 1, none⟩ = some (.int .i64 d23)) (by kernel_rfl) (by kernel_rfl) (by rw [← hW68]; exact ⟨kD HB9 0, kD HB9 1, kD HB10 0, kD HB10 1, kD HB11 0, kD HB11 1, kD HB12 0, kD HB12 1⟩) ?_
 rw [← hW68]
 clear hW68
 replace HBw := kU (kS (kM HW67) l65b (kU HBw jm22)) j27
 replace HB2 := kB (kO (kM HW67) (kB HB2 jm22) n2b65.out) j27
 replace HB4 := kB (kO (kM HW67) (kB HB4 jm22) n4b65.out) j27
 replace HB6 := kB (kO (kM HW67) (kB HB6 jm22) n6b65.out) j27
 have y5b9 := klt HB9
 have y5b10 := klt HB10
 have y5b11 := klt HB11
 have y5b12 := klt HB12
 replace HB24 := kB (kO (kM HW67) (kB HB24 jm22) n24b65.out) j27
 replace HB26 := kB (kO (kM HW67) (kB HB26 jm22) n26b65.out) j27
 replace HB30 := kB (kO (kM HW67) (kB HB30 jm22) n30b65.out) j27
 replace HB32 := kB (kO (kM HW67) (kB HB32 jm22) n32b65.out) j27
 replace HB47 := kB (kO (kM HW67) (kB HB47 jm22) n47b65.out) j27
 have y5b47 := klt HB47
 replace HB55 := kB (kO (kM HW67) (kB HB55 jm22) n55b65.out) j27
 have y5b55 := klt HB55
 replace HB65 := kB HB65 j27
 have y5b65 := klt HB65
 have l5w := ksz HBw
 have HSR5 : Hid (∀ w', Below W68.heap.size W68 w' → w'.cell? ⟨g1_0, 0, none⟩ = some (.int .i64 n20) ∧ w'.cell? ⟨g1_0, 1, none⟩ = some (.int .i64 d20) ∧ w'.cell? ⟨g1_1, 0, none⟩ = some (.int .i64 n21) ∧ w'.cell? ⟨g1_1, 1, none⟩ = some (.int .i64 d21) ∧ w'.cell? ⟨g1_2, 0, none⟩ = some (.int .i64 n22) ∧ w'.cell? ⟨g1_2, 1, none⟩ = some (.int .i64 d22) ∧ w'.cell? ⟨g1_3, 0, none⟩ = some (.int .i64 n23) ∧ w'.cell? ⟨g1_3, 1, none⟩ = some (.int .i64 d23)) := fun w' hb => ⟨kD (kB HB9 hb) 0, kD (kB HB9 hb) 1, kD (kB HB10 hb) 0, kD (kB HB10 hb) 1, kD (kB HB11 hb) 0, kD (kB HB11 hb) 1, kD (kB HB12 hb) 0, kD (kB HB12 hb) 1⟩
 refine tk0 (h := ?_)
 refine plq 1 (h := ?_)
 refine tk0 (h := ?_)
 refine plq 2 (h := ?_)
 refine tk0 (h := ?_)
 refine plq 3 (h := ?_)
 refine tk0 (h := ?_)
 refine plq 9 (h := ?_)
 refine fStart (fs := [⟨_, 40, [.bool false, .slice none 0 0, .slice none 0 0], _⟩]) (h := fun st HFz => ?_)
 refine nrm (hb := by first | (simp only [puts, Act.put, List.setIfInBounds_toArray, List.set_cons_zero, List.set_cons_succ]; rfl)) (h := ?_)
 refine fOp HFz HSR5.out (h := fun st z69 j28 HFz K9 hK9 => ?_)
 go_simp
 refine mQ (HRa.out _) fun w18 g18a A18a k18a c18a A18b k18b c18b HR18 j18c => ?_
 replace HFz := h0d (HFz.out.below j18c)
 refine ckk hK9 (by exact HSR5.out _ HFz.out.bel) (h := ?_)
 clear hK9 K9
 refine fOp HFz HSR5.out (h := fun st z70 j29 HFz K9 hK9 => ?_)
 go_simp
 refine mQ (HRp.out _) fun w19 g19a A19a k19a c19a A19b k19b c19b HR19 j19c => ?_
 replace HFz := h0d (HFz.out.below j19c)
 refine ckk hK9 (by exact HSR5.out _ HFz.out.bel) (h := ?_)
 clear hK9 K9
 refine fOp HFz HSR5.out (h := fun st z71 j30 HFz K9 hK9 => ?_)
 go_simp
 refine mQ (HRl.out _) fun w20 g20a A20a k20a c20a A20b k20b c20b HR20 j20c => ?_
 replace HFz := h0d (HFz.out.below j20c)
 refine ckk hK9 (by exact HSR5.out _ HFz.out.bel) (h := ?_)
 clear hK9 K9
 refine fOp HFz HSR5.out (h := fun st z72 j31 HFz K9 hK9 => ?_)
 go_simp
 refine mQ (HRm.out _) fun w21 g21a A21a k21a c21a A21b k21b c21b HR21 j21c => ?_
 replace HFz := h0d (HFz.out.below j21c)
 refine ckk hK9 (by exact HSR5.out _ HFz.out.bel) (h := ?_)
 clear hK9 K9
 refine fOp HFz HSR5.out (h := fun st z73 j32 HFz K9 hK9 => ?_)
 go_simp
 have jm23 := tt (tt (tt (tt (tt (tt j29 j19c) j30) j20c) j31) j21c) j32
 replace HR18 := kV jm23 HR18
 have jm24 := tt (tt (tt (tt j30 j20c) j31) j21c) j32
 replace HR19 := kV jm24 HR19
 have jm25 := tt (tt j31 j21c) j32
 replace HR20 := kV jm25 HR20
 replace HR21 := kV j32 HR21
 refine (HCr.out _ _ _ _ _ HR18.out HR19.out HR20.out HR21.out).mono ?_
 rintro e w22 ⟨⟨vx, rfl, hr⟩, j22c⟩
 obtain ⟨g22a, A22a, k22a, c22a, A22b, k22b, c22b, rfl, hr⟩ := hr.open
 have HR22 := h0d hr
 clear hr
 replace HFz := h0d (HFz.out.below j22c)
 refine ckk hK9 (by exact HSR5.out _ HFz.out.bel) (h := ?_)
 clear hK9 K9
 refine fTk (h := ?_)
 refine fTk (h := ?_)
 refine fTk (h := ?_)
 refine fTk (h := ?_)
 refine fEnd HFz HSR5.out (h := fun st z74 j33 HFz hst => ?_)
 obtain ⟨g5_0, e0⟩ := hst 0 nlt
 refine nrm (hb := by simp only [e0, pv]; rfl) (h := ?_)
 have HB75 : Hid (z74.heap[g5_0]? = some (.cells #[.bool false, .slice none 0 0, .slice none 0 0] 40 (0, 0))) := (HFz.out.blk 0 _ g5_0 rfl e0).2
 have n9b75 := kne y5b9 HFz e0
 have n10b75 := kne y5b10 HFz e0
 have n11b75 := kne y5b11 HFz e0
 have n12b75 := kne y5b12 HFz e0
 have n47b75 := kne y5b47 HFz e0
 have n55b75 := kne y5b55 HFz e0
 have n65b75 := kne y5b65 HFz e0
 have l75b := kle l5w HFz e0
 clear HFz hst e0
 refine tk0 (h := ?_)
 refine sop (h := fun K9 hK9 => ?_)
 have t76h := kth 0 3 HB75
 refine smw 40 (g5_0) 0 (ht := by exact t76h) (h := ?_)
 obtain ⟨W77, HW77⟩ : ∃ W, Hid (W = z74.setCells (g5_0) 0 [.bool g22a, .slice A22a k22a c22a, .slice A22b k22b c22b]) := ⟨_, rfl⟩
 have TW77 := kN (kM HW77) HB75 rfl rfl
 replace HB75 := kPf (kM HW77) HB75 rfl
 rw [← HW77.out]
 have jm26 := tt (tt (tt (tt (tt (tt (tt (tt (tt (tt j28 j18c) j29) j19c) j30) j20c) j31) j21c) j32) j22c) j33
 replace HB9 := kO (kM HW77) (kB HB9 jm26) n9b75.out
 replace HB10 := kO (kM HW77) (kB HB10 jm26) n10b75.out
 replace HB11 := kO (kM HW77) (kB HB11 jm26) n11b75.out
 replace HB12 := kO (kM HW77) (kB HB12 jm26) n12b75.out
 refine ckk hK9 (by exact ⟨kD HB9 0, kD HB9 1, kD HB10 0, kD HB10 1, kD HB11 0, kD HB11 1, kD HB12 0, kD HB12 1⟩) (h := ?_)
 clear hK9 K9 t76h
 refine tk0 (h := ?_)
 refine seq_done (by kernel_rfl) ?_
 replace HB47 := kO (kM HW77) (kB HB47 jm26) n47b75.out
 have c78 := kC HB47 0 rfl
 have c79 := kC HB47 1 rfl
 have c80 := kC HB47 2 rfl
 replace HB55 := kO (kM HW77) (kB HB55 jm26) n55b75.out
 have c81 := kC HB55 0 rfl
 have c82 := kC HB55 1 rfl
 have c83 := kC HB55 2 rfl
 go_wp2_with fail
 clear c78 c79 c80 c81 c82 c83
 have jm27 := tt j15 jm18
 have jm28 := tt j20 jm22
 have jm29 := tt j27 jm26
 replace HR9 := kW TW77 (kV jm29 (kW TW67 (kV jm28 (kW TW57 (kV jm27 (kW TW49 (kV j14 HR9)))))))
 replace HR12 := kW TW77 (kV jm29 (kW TW67 (kV jm28 (kW TW57 (kV j19 HR12)))))
 refine mV (is_any _ _ E _ HR9.out HR12.out HSP.out) fun w23 j23c => ?_
 replace HB65 := kB (kO (kM HW77) (kB HB65 jm26) n65b75.out) j23c
 have c84 := kC HB65 0 rfl
 have c85 := kC HB65 1 rfl
 have c86 := kC HB65 2 rfl
 replace HB75 := kB HB75 j23c
 have c87 := kC HB75 0 rfl
 have c88 := kC HB75 1 rfl
 have c89 := kC HB75 2 rfl
 go_wp2_with fail
 clear c84 c85 c86 c87 c88 c89
 replace HR17 := kV j23c (kW TW77 (kV jm29 (kW TW67 (kV j26 HR17))))
 replace HR22 := kV j23c (kW TW77 (kV j33 HR22))
 refine mV (is_any _ _ F _ HR17.out HR22.out HSV.out) fun w24 j24c => ?_
 go_wp2_with fail
 refine mV (awake_any _) fun w25 j25c => ?_
 go_wp2_with fail
 go_ret
 have jm30 := tt (tt j23c j24c) j25c
 replace HBw := kU (kS (kM HW77) l75b (kU HBw jm26)) jm30
 exact ⟨rfl, HBw.out⟩
end Go.Proofs.YtodckaioeomccaaGreat
