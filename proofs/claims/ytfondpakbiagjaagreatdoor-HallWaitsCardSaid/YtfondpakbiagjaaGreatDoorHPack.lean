/- The walk of Pack of layer 10 (acts without waveform). -/
import Derived.Test.YtfondpakbiagjaaGreatDoorHCon
namespace Go.Proofs.YtfondpakbiagjaaGreatDoor
open Go.RowKit Go.Lib
set_option linter.unusedVariables false
set_option linter.unusedSimpArgs false
set_option maxRecDepth 100000
set_option maxHeartbeats 4000000
/-- A byte in a frame. -/
def escB (c : Int) : List Int := if c = 126 ∨ c = 125 then [125, c - 32] else [c]
def escL (l : List Int) : List Int := l.flatMap escB
theorem escL_snoc (l : List Int) (c : Int) : escL (l ++ [c]) = escL l ++ escB c := by unfold escL; rw [List.flatMap_append]; simp
theorem escB_len (c : Int) : 1 ≤ (escB c).length ∧ (escB c).length ≤ 2 := by unfold escB; split <;> simp
theorem escL_len : ∀ l : List Int, l.length ≤ (escL l).length ∧ (escL l).length ≤ 2 * l.length
  | [] => by simp [escL]
  | c :: l => by
    have h1 := escL_len l
    have h2 := escB_len c
    unfold escL at h1 ⊢
    rw [List.flatMap_cons, List.length_append, List.length_cons]
    omega
def packL (a : ActD) (t : ByteArray) : List Int := [126] ++ escL (contL a t ++ numB (sumL (contL a t)) 4) ++ [126]
def Byt (l : List Int) : Prop := ∀ x ∈ l, 0 ≤ x ∧ x < 256
theorem Byt.app {l m : List Int} (h : Byt l) (k : Byt m) : Byt (l ++ m) := fun x hx => (List.mem_append.1 hx).elim (h x) (k x)
theorem numB_byt (n : Int) (s : Nat) : Byt (numB n s) := fun x hx => by
  unfold numB at hx
  obtain ⟨k, _, rfl⟩ := List.mem_map.1 hx
  omega
theorem strL_byt (t : ByteArray) : Byt (strL t) := fun x hx => by
  unfold strL at hx
  obtain ⟨b, _, rfl⟩ := List.mem_map.1 hx
  have := b.toNat_lt
  omega
theorem contL_byt (a : ActD) (t : ByteArray) (h : a.ok) (ht : t.size ≤ 200) : Byt (contL a t) := by
  unfold contL
  refine Byt.app (Byt.app (Byt.app (Byt.app (Byt.app (Byt.app ?_ (numB_byt _ _)) (numB_byt _ _)) (numB_byt _ _)) ?_) (strL_byt t)) ?_
  · intro x hx; rw [List.mem_singleton.1 hx]; have := h.1; omega
  · intro x hx; rw [List.mem_singleton.1 hx]; omega
  · intro x hx; rw [List.mem_singleton.1 hx]; omega
theorem contL_len (a : ActD) (t : ByteArray) : (contL a t).length = 12 + t.size := by
  unfold contL
  simp only [List.length_append, numB_len, strL_len, List.length_cons, List.length_nil]; omega
theorem OwnB.cells {w : World} {B : Nat} {v : Value} {xs : List Int} (h : OwnB w B v xs) (hx : xs ≠ []) : ∃ g cap, v = .slice (some ⟨g, 0, none⟩) xs.length cap ∧ B ≤ g ∧ g < w.heap.size ∧ ∀ k x, xs[k]? = some x → w.cell? ⟨g, k, none⟩ = some (.int .u8 x) := by
  obtain ⟨A, c, rfl⟩ := h.slice
  obtain ⟨A', n, cap, e, h1, h2, h3, h4⟩ := Rd.open_ h.rd
  injection e with e1 e2 e3
  subst e1 e2 e3
  have hpos : 0 < xs.length := List.length_pos_iff.2 hx
  obtain ⟨hl, hr⟩ := h
  rcases hr with ⟨h5, -⟩ | ⟨g, cap, cur, h5, h6, h7, h8⟩
  · injection h5 with _ h5; omega
  · injection h5 with h5 h9 h10
    subst h5
    refine ⟨g, _, rfl, h6, (Array.getElem?_eq_some_iff.1 h7).1, fun k x hk => ?_⟩
    obtain ⟨b, off, y, e, -, hy, hc⟩ := h4 k (List.getElem?_eq_some_iff.1 hk).1
    injection e with e
    injection e with e1 e2 e3
    subst e1 e2
    rw [Nat.zero_add] at hc
    rw [hk] at hy
    injection hy with hy
    rw [hc, hy]; rfl
theorem pack_any (a : ActD) (t : ByteArray) (w : World) (h : a.ok) (ht : t.size ≤ 200) :
    Calls Tryz.prog 106 #[actV a t] w fun e w' => (∃ v', e = .returned (.tuple #[v', .int .i64 0]) ∧ OwnB w' w.heap.size v' (packL a t)) ∧ Below w.heap.size w w' := by
  obtain ⟨W1, HW1, HB1, HS1, j1⟩ := st_al0 w #[.int .i64 a.kind, .int .i64 a.from_, .int .i64 a.to_, .int .i64 a.n, .string t, .slice none 0 0] 154
  have HST := Lib.hid (fun W => storable_yes a t W h ht)
  have HCO := Lib.hid (fun W => content_any a t W h ht)
  have HBY := Lib.hid (contL_byt a t h ht)
  have HCL := Lib.hid (contL_len a t)
  have HSS := Lib.hid (sumL_small (contL a t))
  have HTS := Lib.hid ht
  unfold actV at HST HCO ⊢
  have HJ := Lib.hid j1
  have c0 := kC HB1 0 rfl
  have c1 := kC HB1 1 rfl
  have c2 := kC HB1 2 rfl
  have c3 := kC HB1 3 rfl
  have c4 := kC HB1 4 rfl
  have c5 := kC HB1 5 rfl
  obtain ⟨X, hX⟩ : ∃ X, X = contL a t := ⟨_, rfl⟩
  have HPL : Hid (packL a t = [126] ++ escL (X ++ numB (sumL X) 4) ++ [126]) := by show _ = _; unfold packL; rw [hX]
  rw [← hX] at HCO HBY HCL HSS
  clear h ht HS1 j1 hX
  go_enter Tryz.func106, Tryz.ntmps106
  go_wp2_with fail
  rw [← HW1.out]
  refine (HST.out _).mono ?_
  rintro e w2 ⟨rfl, j2⟩
  replace HJ := kU HJ j2
  replace HB1 := kB HB1 j2
  clear c0 c1 c2 c3 c4 c5 HST j2 HW1
  have c0 := kC HB1 0 rfl
  have c1 := kC HB1 1 rfl
  have c2 := kC HB1 2 rfl
  have c3 := kC HB1 3 rfl
  have c4 := kC HB1 4 rfl
  have c5 := kC HB1 5 rfl
  go_wp2_with fail
  refine (HCO.out _).mono ?_
  rintro e w3 ⟨⟨v3, rfl, hO3⟩, j3⟩
  have HBB : Hid (w.heap.size < w2.heap.size) := blk_lt HB1.out
  have HO3 := Lib.hid hO3
  obtain ⟨A3, cc3, rfl⟩ := hO3.slice
  replace HJ := kU HJ j3
  obtain ⟨W4, HW4, HB4, HS4, j4⟩ := st_al0 w3 #[.int .u8 126] 5
  have HP4 : Hid (OwnB W4 w3.heap.size (.slice (some ⟨w3.heap.size, 0, none⟩) 1 1) [126]) := by
    have := own_one w3 126
    rw [← HW4.out] at this
    exact this
  have HO4 := Lib.hid (HO3.out.stay j4)
  replace HJ := kU HJ j4
  have HSB4 : Hid (w.heap.size ≤ w3.heap.size ∧ w2.heap.size + 1 ≤ W4.heap.size ∧ w3.heap.size < W4.heap.size) := ⟨by have := HBB.out; have := j3.size; omega, by have := j3.size; have := HS4.out; omega, by have := HS4.out; omega⟩
  have HBL3 := Lib.hid HO3.out.blk
  clear c0 c1 c2 c3 c4 c5 HCO HB1 hO3 HB4 HS4 j4 j3 HO3
  rw [HCL.out] at HO4 HBL3 ⊢
  go_wp2_with fail
  rw [← HW4.out]
  refine (sum_any _ X _ HO4.out.rd HBY.out).mono ?_
  rintro e w5 ⟨rfl, hwx⟩
  obtain rfl := hwx.symm
  clear hwx HW4
  go_wp2_with fail
  refine (number_any (w2.heap.size + 1) _ X (sumL X) 4 W4 HO4.out HSB4.out.2.1 (by omega) HSS.out (by rw [HCL.out]; have := HTS.out; omega)).mono ?_
  rintro e w6 ⟨v6, rfl, hO6, hG6⟩
  obtain ⟨Y, hY⟩ : ∃ Y, Y = X ++ numB (sumL X) 4 := ⟨_, rfl⟩
  have HYL : Hid (Y.length = 16 + t.size) := by show _ = _; rw [hY, List.length_append, numB_len, HCL.out]; omega
  have HYB : Hid (Byt Y) := by rw [hY]; exact Byt.app HBY.out (numB_byt _ _)
  rw [← hY] at hO6 HPL
  have HP6 : Hid (OwnB w6 w3.heap.size (.slice (some ⟨w3.heap.size, 0, none⟩) 1 1) [126]) :=
    World.ownsRow.kept HP4.out hG6.g (.inr (fun e => by have := (HBL3.out w3.heap.size e.symm).2; exact Nat.lt_irrefl _ this))
  have hne : Y ≠ [] := fun e => by have h := HYL.out; rw [e, List.length_nil] at h; omega
  obtain ⟨g6, cap6, rfl, hg1, hg2, hg3⟩ := hO6.cells hne
  have HG6 : Hid (g6 ≠ w3.heap.size ∧ g6 < w6.heap.size ∧ w3.heap.size ≤ w6.heap.size) := by
    refine ⟨fun e => ?_, hg2, by have := hG6.g.size; have := HSB4.out; omega⟩
    rcases hG6.f g6 (by simp [Value.ownBlock]) with h1 | h1
    · have := (HBL3.out g6 h1).2; omega
    · have := HSB4.out; omega
  have HC6 := Lib.hid hg3
  replace HJ : Hid (Below w.heap.size w w6) := HJ.out.trans (hG6.below (by have := HSB4.out; have := HBB.out; omega) (fun k hk => by have := (HBL3.out k hk).1; have := HBB.out; omega))
  have HW3 : Hid (w.heap.size ≤ w3.heap.size) := HSB4.out.1
  rw [HYL.out]
  obtain ⟨m, hm⟩ : ∃ m, m = 16 + t.size := ⟨_, rfl⟩
  have hm2 : m ≤ 216 := by have := HTS.out; omega
  have HML : Hid (Y.length = m) := by rw [hm]; exact HYL.out
  have hmc : ((16 + t.size : Nat) : Int) = (m : Int) := by rw [hm]
  rw [← hm]
  have HM := Lib.hid hm
  obtain ⟨u, hu⟩ : ∃ u, u = w3.heap.size := ⟨_, rfl⟩
  rw [← hu] at HP6 HG6 HW3 ⊢
  clear hm hmc hO6 hG6 hY hne hg1 hg2 hg3 HP4 HO4 HBL3 HSB4 HBB HCL HSS HBY HYL hu
  go_wp2_with fail
  go_loopw [5, 7, 19] (fun ov _ iv wr => ∃ (k L : Nat) (O : Option Addr) (c : Nat), k ≤ m ∧ ov = .slice O L c ∧ iv = .int .i64 (k : Int) ∧ Hid (([126] ++ escL (Y.take k)).length = L) ∧ Hid (OwnB wr u (.slice O L c) ([126] ++ escL (Y.take k))) ∧ Hid (Gr w6 wr (.slice (some ⟨u, 0, none⟩) 1 1) (.slice O L c))) (fun _ _ iv _ => m - (intOf iv).toNat)
  case atStart => exact ⟨0, 1, _, _, Nat.zero_le _, rfl, rfl, rfl, HP6.out, Gr.refl _ _⟩
  case round =>
    clear HP6
    obtain ⟨k, L, O, c, hk, rfl, rfl, HL, HO, HG⟩ := hrel
    have HSR : Hid (u ≤ wr.heap.size) := Nat.le_trans HG6.out.2.2 HG.out.g.size
    have hL : L ≤ 500 := by
      have h1 := HL.out
      have h2 := (escL_len (Y.take k)).2
      rw [List.length_append, List.length_cons, List.length_nil] at h1
      rw [List.length_take] at h2
      omega
    by_cases hlt : k < m
    · obtain ⟨x, hx⟩ : ∃ x, Y[k]? = some x := ⟨_, List.getElem?_eq_getElem (by rw [HML.out]; exact hlt)⟩
      have c0 : wr.cell? ⟨g6, k, none⟩ = some (.int .u8 x) := by
        rw [World.cell?_of_block (w := w6) (a := ⟨g6, k, none⟩) (HG.out.g.block g6 HG6.out.2.1 (by simp [Value.ownBlock]; exact fun e => HG6.out.1 (by omega)))]
        exact HC6.out k x hx
      have HES : Hid (escL (Y.take (k + 1)) = escL (Y.take k) ++ escB x) := by show _ = _; rw [take_snoc? hx, escL_snoc]
      have hxb := HYB.out x (List.mem_of_getElem? hx)
      have HSRo := HSR
      clear hx
      by_cases h126 : x = 126
      · subst h126
        have HEB : Hid ([126] ++ escL (Y.take (k + 1)) = [126] ++ escL (Y.take k) ++ [125] ++ [94]) := by show _ = _; rw [HES.out, List.append_assoc, List.append_assoc]; rfl
        have hxor : bits .xor .u8 126 32 = 94 := by rfl
        clear HES hxb
        go_wp2_with (first | (at_builtin; refine wpList_pushB rfl _ _ rfl rfl rfl rfl rfl HL.out HO.out (by omega) HSR.out ?_; intro A7 c7 w7 HO7 HG7; replace HO7 := Lib.hid HO7; replace HG7 := Lib.hid (HG.out.trans HG7); have HS7 : Hid (u ≤ w7.heap.size) := Nat.le_trans HG6.out.2.2 HG7.out.g.size; have HL7 : Hid (([126] ++ escL (Y.take k) ++ [125]).length = L + 1) := (by show _ = _; rw [List.length_append, HL.out]; rfl)) | (at_builtin; refine wpList_pushB rfl _ _ rfl rfl rfl rfl rfl HL7.out HO7.out (by omega) HS7.out ?_; intro A8 c8 w8 HO8 HG8; replace HO8 := Lib.hid HO8; replace HG8 := Lib.hid (HG7.out.trans HG8)))
        go_roundw
        case rel => exact ⟨k + 1, L + 1 + 1, A8, c8, by omega, rfl, by go_num, by rw [HEB.out, List.length_append, HL7.out]; rfl, by rw [HEB.out]; exact HO8.out, HG8.out⟩
        case measure => simp [intOf]; omega
      by_cases h125 : x = 125
      · subst h125
        have HEB : Hid ([126] ++ escL (Y.take (k + 1)) = [126] ++ escL (Y.take k) ++ [125] ++ [93]) := by show _ = _; rw [HES.out, List.append_assoc, List.append_assoc]; rfl
        have hxor : bits .xor .u8 125 32 = 93 := by rfl
        clear HES hxb
        go_wp2_with (first | (at_builtin; refine wpList_pushB rfl _ _ rfl rfl rfl rfl rfl HL.out HO.out (by omega) HSR.out ?_; intro A7 c7 w7 HO7 HG7; replace HO7 := Lib.hid HO7; replace HG7 := Lib.hid (HG.out.trans HG7); have HS7 : Hid (u ≤ w7.heap.size) := Nat.le_trans HG6.out.2.2 HG7.out.g.size; have HL7 : Hid (([126] ++ escL (Y.take k) ++ [125]).length = L + 1) := (by show _ = _; rw [List.length_append, HL.out]; rfl)) | (at_builtin; refine wpList_pushB rfl _ _ rfl rfl rfl rfl rfl HL7.out HO7.out (by omega) HS7.out ?_; intro A8 c8 w8 HO8 HG8; replace HO8 := Lib.hid HO8; replace HG8 := Lib.hid (HG7.out.trans HG8)))
        go_roundw
        case rel => exact ⟨k + 1, L + 1 + 1, A8, c8, by omega, rfl, by go_num, by rw [HEB.out, List.length_append, HL7.out]; rfl, by rw [HEB.out]; exact HO8.out, HG8.out⟩
        case measure => simp [intOf]; omega
      have HEB : Hid ([126] ++ escL (Y.take (k + 1)) = [126] ++ escL (Y.take k) ++ [x]) := by
        show _ = _
        rw [HES.out]
        unfold escB
        rw [if_neg (fun e => e.elim h126 h125), List.append_assoc]
      have hb1 : (x == 126) = false := beq_false_of_ne h126
      have hb2 : (x == 125) = false := beq_false_of_ne h125
      clear HES
      go_wp2_with (first | (at_builtin; refine wpList_pushB rfl _ _ rfl rfl rfl rfl rfl HL.out HO.out (by omega) HSR.out ?_; intro A7 c7 w7 HO7 HG7; replace HO7 := Lib.hid HO7; replace HG7 := Lib.hid (HG.out.trans HG7); have HS7 : Hid (u ≤ w7.heap.size) := Nat.le_trans HG6.out.2.2 HG7.out.g.size; have HL7 : Hid (([126] ++ escL (Y.take k) ++ [x]).length = L + 1) := (by show _ = _; rw [List.length_append, HL.out]; rfl)))
      go_roundw
      case rel => exact ⟨k + 1, L + 1, A7, c7, by omega, rfl, by go_num, by show _ = _; rw [HEB.out, HL7.out], by rw [HEB.out]; exact HO7.out, HG7.out⟩
      case measure => simp [intOf]; omega
    · obtain rfl : k = m := by omega
      have HTF : Hid (Y.take k = Y) := List.take_of_length_le (by rw [HML.out]; exact Nat.le_refl _)
      rw [HTF.out] at HL HO
      go_wp2_with (at_builtin; refine wpList_pushB rfl _ _ rfl rfl rfl rfl rfl HL.out HO.out (by omega) HSR.out ?_; intro A7 c7 w7 HO7 HG7; replace HO7 := Lib.hid HO7; replace HG7 := Lib.hid (HG.out.trans HG7))
      go_ret2
      exact ⟨⟨_, rfl, by rw [HPL.out]; exact HO7.out.low HW3.out⟩, HJ.out.trans (HG7.out.below (Nat.le_trans HW3.out HG6.out.2.2) (fun k hk => by simp [Value.ownBlock] at hk; rw [← hk]; exact HW3.out))⟩
end Go.Proofs.YtfondpakbiagjaaGreatDoor
