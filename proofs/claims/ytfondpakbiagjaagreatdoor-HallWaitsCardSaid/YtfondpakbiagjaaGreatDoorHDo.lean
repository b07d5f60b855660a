/- The walk of Do. -/
import Derived.Test.YtfondpakbiagjaaGreatDoorHErr
namespace Go.Proofs.YtfondpakbiagjaaGreatDoor
open Go.RowKit Go.Lib
set_option linter.unusedVariables false
set_option linter.unusedSimpArgs false
set_option maxRecDepth 100000
set_option maxHeartbeats 4000000
theorem packL_len (a : ActD) (t : ByteArray) (ht : t.size ≤ 200) : 2 ≤ (packL a t).length ∧ (packL a t).length ≤ 500 := by
  have h1 := escL_len (contL a t ++ numB (sumL (contL a t)) 4)
  rw [List.length_append, contL_len, numB_len] at h1
  unfold packL
  simp only [List.length_append, List.length_cons, List.length_nil]
  omega
theorem Below.of_grown {hb : Nat} {w w' : World} (h : w.grownBy w' (some hb)) (hl : hb ≤ w.heap.size) : Below hb w w' :=
  ⟨h.os, h.tape, h.output, h.size, fun k hk => h.block k (by omega) (fun e => by injection e with e; omega)⟩
theorem RdT.setOther {w : World} {hb i : Nat} {tv u : Value} {T : List TyD} (h : RdT w tv T) (hn : ∀ ad n c, tv = .slice (some ad) n c → hb < ad.block) : RdT (w.setCell ⟨hb, i, none⟩ u) tv T := by
  obtain ⟨A, cap, rfl, h1, h2, h3⟩ := h
  refine ⟨A, cap, rfl, h1, h2, fun hne => ?_⟩
  obtain ⟨b, off, rfl, hs, hc⟩ := h3 hne
  have hlt := hn _ _ _ rfl
  refine ⟨b, off, rfl, hs, fun k p hp j v hv => ?_⟩
  rw [World.cell?_setCell_other w ⟨hb, i, none⟩ _ u (fun e => by simp only [Addr.mk.injEq] at e; exact Nat.ne_of_lt hlt e.1)]
  exact hc k p hp j v hv
/-- The hall takes another journal. -/
theorem HallIs.write {w w' : World} {hb : Nat} {tv jv v : Value} {T : List TyD} {J X : List Int} (h : HallIs w hb tv jv T J) (hg : w.grownBy w' jv.ownBlock) (hf : ∀ b, v.ownBlock = some b → jv.ownBlock = some b ∨ w.heap.size ≤ b) (hv : OwnB w' (hb + 1) v X) : HallIs (w'.setCell ⟨hb, 2, none⟩ v) hb tv v T X := by
  have hh := blk_lt h.blk
  have hty : RdT w' tv T := by
    obtain ⟨A, cap, rfl, h1, h2, h3⟩ := h.ty
    refine ⟨A, cap, rfl, h1, h2, fun hne => ?_⟩
    obtain ⟨b, off, rfl, hs, hc⟩ := h3 hne
    refine ⟨b, off, rfl, hs, fun k p hp j u hu => ?_⟩
    have h4 := hc k p hp j u hu
    refine (World.cell?_of_block (w := w) (hg.block b (cell_lt h4) fun e => ?_)).trans h4
    exact h.sep hne _ _ _ b rfl e.symm rfl
  have hbk := (hg.block hb hh (fun e => by have := (World.ownsRow.lt h.jo hb e.symm).1; omega)).trans h.blk
  refine ⟨by have := blk_set (i := 2) v hbk; simpa using this, hty.setOther h.tn, ownsRow_setCell_below hv (Nat.lt_succ_self _) _, h.tn, fun hne ad n c k e hk => ?_⟩
  rcases hf k hk with h5 | h5
  · exact h.sep hne ad n c k e h5
  · subst e
    obtain ⟨A, cap, e2, h1, h2, h3⟩ := h.ty
    obtain ⟨b, off, rfl, hs, hc⟩ := h3 hne
    injection e2 with e2
    injection e2 with e2
    subst e2
    obtain ⟨p, hp⟩ : ∃ p, T[0]? = some p := ⟨_, List.getElem?_eq_getElem (List.length_pos_iff.2 hne)⟩
    have := cell_lt (hc 0 p hp 0 _ rfl)
    show b ≠ k
    omega
theorem do_err (hb : Nat) (tv jv : Value) (T : List TyD) (J : List Int) (a : ActD) (t : ByteArray) (er : Int) (w : World) (h : HallIs w hb tv jv T J) (hok : a.ok) (ht : t.size ≤ 200) (her : er ≠ 0)
    (hp : ∀ W, HallIs W hb tv jv T J → Calls Tryz.prog 107 #[.pointer (some ⟨hb, 0, none⟩), actV a t] W fun e w' => e = .returned (.int .i64 er) ∧ Below W.heap.size W w') :
    Calls Tryz.prog 80 #[.pointer (some ⟨hb, 0, none⟩), actV a t] w fun e w' => e = .returned (.int .i64 er) ∧ Below w.heap.size w w' := by
  obtain ⟨kd, f, u, n⟩ := a
  obtain ⟨W1, HW1, HB1, HS1, j1⟩ := st_al0 w #[.int .i64 kd, .int .i64 f, .int .i64 u, .int .i64 n, .string t, .slice none 0 0] 154
  have HH := Lib.hid h
  have HJ := Lib.hid j1
  have HP := Lib.hid hp
  have HPK := Lib.hid (pack_any ⟨kd, f, u, n⟩ t W1 hok ht)
  have heb : (er == 0) = false := beq_false_of_ne her
  clear h hp hok ht j1 HS1 her
  have c0 := kC HB1 0 rfl
  have c1 := kC HB1 1 rfl
  have c2 := kC HB1 2 rfl
  have c3 := kC HB1 3 rfl
  have c4 := kC HB1 4 rfl
  have c5 := kC HB1 5 rfl
  show Calls _ _ #[_, .agg #[.int .i64 kd, .int .i64 f, .int .i64 u, .int .i64 n, .string t, .slice none 0 0]] _ _
  go_enter Tryz.func80, Tryz.ntmps80
  go_wp2_with fail
  rw [← HW1.out]
  go_wp2_with fail
  refine HPK.out.mono ?_
  rintro e w2 ⟨⟨v', rfl, hv'⟩, j2⟩
  replace HB1 := kB HB1 j2
  replace HJ := kU HJ j2
  clear j2 hv' HPK c0 c1 c2 c3 c4 c5
  have c0 := kC HB1 0 rfl
  have c1 := kC HB1 1 rfl
  have c2 := kC HB1 2 rfl
  have c3 := kC HB1 3 rfl
  have c4 := kC HB1 4 rfl
  have c5 := kC HB1 5 rfl
  go_wp2_with fail
  refine (HP.out w2 (HH.out.stay HJ.out)).mono ?_
  rintro e w3 ⟨rfl, j3⟩
  replace HJ := kU HJ j3
  clear c0 c1 c2 c3 c4 c5 j3
  go_wp2_with fail
  go_ret
  exact ⟨rfl, HJ.out⟩
theorem do_ok (hb : Nat) (tv jv : Value) (T X : List TyD) (J : List Int) (a : ActD) (t : ByteArray) (w : World) (h : HallIs w hb tv jv T J) (hok : a.ok) (ht : t.size ≤ 200) (hJ : J.length ≤ 5000)
    (hp : ∀ W, HallIs W hb tv jv T J → Calls Tryz.prog 107 #[.pointer (some ⟨hb, 0, none⟩), actV a t] W fun e w' => e = .returned (.int .i64 0) ∧ (∃ tv', HallIs w' hb tv' jv X J) ∧ W.grownBy w' (some hb)) :
    Calls Tryz.prog 80 #[.pointer (some ⟨hb, 0, none⟩), actV a t] w fun e w' => e = .returned (.int .i64 0) ∧ (∃ tv' jv', HallIs w' hb tv' jv' X (J ++ packL a t)) ∧ Below hb w w' := by
  obtain ⟨kd, f, u, n⟩ := a
  obtain ⟨W1, HW1, HB1, HS1, j1⟩ := st_al0 w #[.int .i64 kd, .int .i64 f, .int .i64 u, .int .i64 n, .string t, .slice none 0 0] 154
  have HH := Lib.hid h
  have HJ := Lib.hid j1
  have HP := Lib.hid hp
  have HPK := Lib.hid (pack_any ⟨kd, f, u, n⟩ t W1 hok ht)
  have HPL := Lib.hid (packL_len ⟨kd, f, u, n⟩ t ht)
  have HJL := Lib.hid hJ
  have HLT : Hid (hb < w.heap.size) := blk_lt h.blk
  have HS : Hid (w.heap.size + 1 = W1.heap.size) := HS1.out.symm
  obtain ⟨pl, hpl⟩ : ∃ q, q = packL ⟨kd, f, u, n⟩ t := ⟨_, rfl⟩
  rw [← hpl] at HPK HPL ⊢
  obtain ⟨np, hnp⟩ : ∃ q, q = pl.length := ⟨_, rfl⟩
  obtain ⟨nj, hnj⟩ : ∃ q, q = J.length := ⟨_, rfl⟩
  have HNP := Lib.hid hnp
  have HNJ := Lib.hid hnj
  obtain ⟨aj, cj, hjv⟩ := h.jo.slice
  rw [← hnj] at hjv
  subst hjv
  clear h hp hok ht j1 HS1 hpl hJ hnp hnj
  have c0 := kC HB1 0 rfl
  have c1 := kC HB1 1 rfl
  have c2 := kC HB1 2 rfl
  have c3 := kC HB1 3 rfl
  have c4 := kC HB1 4 rfl
  have c5 := kC HB1 5 rfl
  show Calls _ _ #[_, .agg #[.int .i64 kd, .int .i64 f, .int .i64 u, .int .i64 n, .string t, .slice none 0 0]] _ _
  go_enter Tryz.func80, Tryz.ntmps80
  go_wp2_with fail
  rw [← HW1.out]
  go_wp2_with fail
  refine HPK.out.mono ?_
  rintro e w2 ⟨⟨v', rfl, hv'⟩, j2⟩
  replace HB1 := kB HB1 j2
  replace HJ := kU HJ j2
  have HV : Hid (OwnB w2 W1.heap.size v' pl) := hv'
  clear j2 hv' HPK c0 c1 c2 c3 c4 c5
  have c0 := kC HB1 0 rfl
  have c1 := kC HB1 1 rfl
  have c2 := kC HB1 2 rfl
  have c3 := kC HB1 3 rfl
  have c4 := kC HB1 4 rfl
  have c5 := kC HB1 5 rfl
  go_wp2_with fail
  refine (HP.out w2 (HH.out.stay HJ.out)).mono ?_
  rintro e w3 ⟨rfl, ⟨tv', h3⟩, g3⟩
  obtain ⟨gp, capp, rfl, hgp, hgp2, hcp⟩ := HV.out.cells (fun e => by have := HPL.out; rw [e] at this; simp at this)
  rw [← HNP.out] at HV
  have HH3 := Lib.hid h3
  have HB3 : Hid (Below hb w w3) := (HJ.out.mono (Nat.le_of_lt HLT.out)).trans (Below.of_grown g3 (by have := HJ.out.size; have := HLT.out; omega))
  have HBK := Lib.hid h3.blk
  have HCP : Hid (∀ k x, pl[k]? = some x → w3.cell? ⟨gp, k, none⟩ = some (.int .u8 x)) := fun k x hk => (World.cell?_of_block (w := w2) (g3.block gp hgp2 (fun e => by injection e with e; have := HS.out; have := HLT.out; omega))).trans (hcp k x hk)
  have HOJ : Hid (w3.ownsRow (hb + 1) 5 1 (.slice aj nj cj) nj (J.map u8V)) := by have := h3.jo; unfold OwnB at this; rw [← HNJ.out] at this; exact this
  clear c0 c1 c2 c3 c4 c5 h3 g3 hgp hgp2 hcp
  have d2 := kC (cs := [.slice none 0 0, tv', .slice aj nj cj]) HBK 2 rfl
  have HNZ : Hid (∀ j u, (pl.map u8V)[j]? = some u → w3.cell? ((⟨gp, 0, none⟩ : Addr).add j) = some u) := fun j u hu => by
    rw [List.getElem?_map] at hu
    obtain ⟨x, hx, rfl⟩ := Option.map_eq_some_iff.1 hu
    rw [addr_add, Nat.zero_add]
    exact HCP.out j x hx
  obtain ⟨i0, hi0, hz0, hz1, hz2⟩ := info_parts infoB
  have HI := Lib.hid (And.intro hi0 (And.intro hz0 (And.intro hz1 hz2)))
  clear hi0 hz0 hz1 hz2
  have HSZ : Hid (hb + 1 ≤ w3.heap.size) := Nat.succ_le_of_lt (blk_lt HBK.out)
  rw [← HNP.out]
  go_wp2_with (at_builtin; refine wpList_append_fresh rfl _ _ 72 (by rfl) (hb + 1) 5 i0 (.int .u8 0) 1 1 Tryz.underlying72 HI.out.1 HI.out.2.1 HI.out.2.2.1 HI.out.2.2.2 rfl (by decide) (.slice aj nj cj) nj (J.map u8V) (by rfl) HOJ.out ⟨gp, 0, none⟩ np capp (pl.map u8V) (by rfl) (by rw [List.length_map, Nat.mul_one]; exact HNP.out.symm) HNZ.out (fun u hu => by obtain ⟨x, -, rfl⟩ := List.mem_map.1 hu; rfl) (by have := HPL.out; have := HNP.out; have := HJL.out; have := HNJ.out; unfold maxLen; omega) (by have := HPL.out; have := HNP.out; have := HJL.out; have := HNJ.out; omega) HSZ.out ?_; intro v4 w4 hown4 hgrow4 hnil4; obtain ⟨A4, c4', rfl⟩ := ownsRow_slice hown4; have HBK4 : Hid (w4.heap[hb]? = some (.cells #[.slice none 0 0, tv', .slice aj nj cj] 121 (0, 0))) := (hgrow4.block hb HSZ.out (fun e => by have := (World.ownsRow.lt HOJ.out hb e.symm).1; omega)).trans HBK.out; have d4 := kC (cs := [.slice none 0 0, tv', .slice aj nj cj]) HBK4 2 rfl; have d5 := kF HBK4 2)
  go_ret
  refine ⟨rfl, ⟨tv', _, HH3.out.write hgrow4 hnil4 ?_⟩, ?_⟩
  · unfold OwnB; rw [List.length_append, List.map_append, ← HNP.out, ← HNJ.out]; exact hown4
  · exact (HB3.out.trans (((Below.refl hb w3).grown hgrow4 (by have := HSZ.out; omega) (fun k hk => by have := (World.ownsRow.lt HOJ.out k hk).1; omega)))).setCell (Nat.le_refl _) _
end Go.Proofs.YtfondpakbiagjaaGreatDoor
