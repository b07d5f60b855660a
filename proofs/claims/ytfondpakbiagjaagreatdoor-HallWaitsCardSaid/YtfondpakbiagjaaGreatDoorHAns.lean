/- The walks of asked, answer and Answer at the lines of the example. -/
import Derived.Test.YtfondpakbiagjaaGreatDoorHLis
import Derived.Test.YtfondpakbiagjaaGreatDoorHCnt
namespace Go.Proofs.YtfondpakbiagjaaGreatDoor
open Go.RowKit Go.Lib
set_option linter.unusedVariables false
set_option linter.unusedSimpArgs false
set_option maxRecDepth 100000
set_option maxHeartbeats 4000000
theorem asked_no (p : Value) (s cw : ByteArray) (ws : List ByteArray) (w : World) (hs : Words s (cw :: ws)) (hl : ws.length ≤ 10) (hg : Gl w) (h1 : (s.toList == [99, 111, 117, 110, 116]) = false) (h2 : (s.toList == [108, 105, 109, 105, 116, 115, 63]) = false) (h3 : (cw.toList == [116, 121, 114, 101]) = false) :
    Calls Tryz.prog 78 #[p, .string s] w fun e w' => e = .returned (.tuple #[.string ⟨#[]⟩, .bool false, .int .i64 0]) ∧ Below w.heap.size w w' := by
  obtain ⟨⟨m, hm⟩, -⟩ := hg
  have HS := Lib.hid (Tryz.strings_Split s spB m w (by have := hs.l; omega) hm (by decide))
  rw [hs.n, hs.w] at HS
  have h1' : ¬ s.toList = [99, 111, 117, 110, 116] := fun e => by rw [e] at h1; revert h1; decide
  have h2' : ¬ s.toList = [108, 105, 109, 105, 116, 115, 63] := fun e => by rw [e] at h2; revert h2; decide
  have h3' : ¬ cw.toList = [116, 121, 114, 101] := fun e => by rw [e] at h3; revert h3; decide
  obtain ⟨n, hn⟩ : ∃ n, n = (cw :: ws).length := ⟨_, rfl⟩
  have hn0 : (0 : Int) < (n : Int) := by rw [hn]; simp only [List.length_cons]; omega
  rw [← hn] at HS
  clear hs hm hn hl
  unfold spB at HS
  go_enter Tryz.func78, Tryz.ntmps78
  go_wp2_with fail
  refine HS.out.mono ?_
  rintro e w1 ⟨rfl, hw⟩
  have j1 : Below w.heap.size w w1 := by rw [hw]; exact (Below.refl _ _).alloc (Nat.le_refl _) _
  have c0 : w1.cell? ⟨w.heap.size, 0, none⟩ = some (.string cw) := by
    rw [hw, blk_cell (heap_alloc_new w _)]
    simp
  have HJ := Lib.hid j1
  clear hw HS j1
  go_wp2_with fail
  go_ret3
  exact ⟨rfl, HJ.out⟩
def cntB : ByteArray := ⟨#[51, 32, 49, 32, 49, 32, 49, 32, 48, 32, 48, 32, 48, 32, 48, 32, 48]⟩
theorem grow_below (w : World) (k : Nat) (os : Array Obj) : Below w.heap.size w (Sort.grow (w.drewN k) os) :=
  ⟨rfl, rfl, rfl, by show _ ≤ (w.heap ++ os).size; simp, fun q hq => by show (w.heap ++ os)[q]? = _; rw [Array.getElem?_append_left hq]⟩
theorem itoa_any (z : Int) (hz : 0 ≤ z ∧ z ≤ 1000000) (W : World) (hg : Gl W) : Calls Tryz.prog 81 #[.int .i64 z] W fun e w' => e = .returned (.string ⟨(Lib.itoa z).toArray⟩) ∧ Below W.heap.size W w' :=
  (Tryz.strconv_Itoa z (by omega) (by omega) W hg.2).mono fun e w' ⟨h1, k, os, h2⟩ => ⟨h1, by rw [h2]; exact grow_below _ _ _⟩
theorem join_cnt (v : Value) (W : World) (h : Rd Value.string W (fun _ => True) v ([3, 1, 1, 1, 0, 0, 0, 0, 0].map fun z : Int => (⟨(Lib.itoa z).toArray⟩ : ByteArray))) : Calls Tryz.prog 99 #[v, .string spB] W fun e w' => e = .returned (.string cntB) ∧ Below W.heap.size W w' := by
  have e1 : ([3, 1, 1, 1, 0, 0, 0, 0, 0].map fun z : Int => (⟨(Lib.itoa z).toArray⟩ : ByteArray)) = [⟨#[51]⟩, ⟨#[49]⟩, ⟨#[49]⟩, ⟨#[49]⟩, ⟨#[48]⟩, ⟨#[48]⟩, ⟨#[48]⟩, ⟨#[48]⟩, ⟨#[48]⟩] := by kernel_rfl
  rw [e1] at h
  obtain ⟨A, cap, rfl, h1, h2, h3⟩ := h
  obtain ⟨b, off, rfl, hb, hc⟩ := h3 (by simp)
  have hJ := Tryz.strings_Join b off cap [⟨#[51]⟩, ⟨#[49]⟩, ⟨#[49]⟩, ⟨#[49]⟩, ⟨#[48]⟩, ⟨#[48]⟩, ⟨#[48]⟩, ⟨#[48]⟩, ⟨#[48]⟩] spB W (fun j x hj => by obtain ⟨h5, h6⟩ := List.getElem?_eq_some_iff.1 hj; rw [← h6]; exact hc j h5) (by have := hc 0 (by decide); exact cell_lt this) (by decide) h1 (Nat.le_of_ble_eq_true (by kernel_rfl))
  refine hJ.mono fun e w' ⟨he, hw⟩ => ⟨he.trans ?_, hw⟩
  exact congrArg (fun q => Ending.returned (.string q)) (show (⟨(Lib.join _ _).toArray⟩ : ByteArray) = cntB by kernel_rfl)
theorem asked_count (hb : Nat) (tv jv : Value) (J : List Int) (w : World) (h : HallIs w hb tv jv T3 J) (hg : Gl w) :
    Calls Tryz.prog 78 #[.pointer (some ⟨hb, 0, none⟩), .string lineN] w fun e w' => e = .returned (.tuple #[.string cntB, .bool true, .int .i64 0]) ∧ Below w.heap.size w w' := by
  have HG := Lib.hid hg
  have HH := Lib.hid h
  obtain ⟨⟨m, hm⟩, -⟩ := hg
  have HS := Lib.hid (Tryz.strings_Split lineN spB m w (by decide) hm (by decide))
  rw [words_N.n, words_N.w] at HS
  clear h hm
  unfold spB lineN at *
  go_enter Tryz.func78, Tryz.ntmps78
  go_wp2_with fail
  refine HS.out.mono ?_
  rintro e w1 ⟨rfl, hw⟩
  have j1 : Below w.heap.size w w1 := by rw [hw]; exact (Below.refl _ _).alloc (Nat.le_refl _) _
  have HJ := Lib.hid j1
  have HC := Lib.hid (counts_any hb tv jv J w1 (HH.out.stay j1))
  clear hw HS j1
  go_wp2_with fail
  refine HC.out.mono ?_
  rintro e w2 ⟨rfl, j2⟩
  replace HJ := kU HJ j2
  obtain ⟨hth, W3, HW3, HB3, j3⟩ := box_new w2 174 (z := cntV 0 0 0 0) (cs := cntV 3 1 1 1) (n := 9) rfl rfl
  have HTH := Lib.hid hth
  replace HJ := kU HJ j3
  replace HG : Hid (Gl W3) := HG.out.on HJ.out
  have HL := Lib.hid (list_any w2.heap.size 9 9 [3, 1, 1, 1, 0, 0, 0, 0, 0] W3 (fun z : Int => (⟨(Lib.itoa z).toArray⟩ : ByteArray)) cntB rfl (by decide) (fun k z hz => by
      rw [blk_cell HB3.out, show (cntV 3 1 1 1).toArray = (([3, 1, 1, 1, 0, 0, 0, 0, 0] : List Int).map (Value.int .i64)).toArray from rfl, List.getElem?_toArray, List.getElem?_map, hz]; rfl) (klt HB3).out HG.out
    (fun z hz W hW => itoa_any z (by have h : ∀ z ∈ ([3, 1, 1, 1, 0, 0, 0, 0, 0] : List Int), 0 ≤ z ∧ z ≤ 1000000 := by decide
                                     exact h z hz) W hW) (fun v W hv => join_cnt v W hv))
  clear HC j2 hth j3 HB3 HH HG
  unfold cntV at HTH HW3 ⊢
  go_wp2_with (refine smd 174 w2.heap.size 0 (ht := HTH) (h := ?_); rw [← HW3.out])
  refine HL.out.mono ?_
  rintro e w4 ⟨rfl, j4⟩
  replace HJ := kU HJ j4
  clear HL j4 HTH HW3
  go_wp2_with fail
  go_ret3
  exact ⟨rfl, HJ.out⟩
/-- The function answer, where it performs a command. -/
theorem answer_do (er : Int) (line : ByteArray) (a : ActD) (R : World → Prop) (hb : Nat) (tv jv : Value) (T : List TyD) (J : List Int) (w : World) (h : HallIs w hb tv jv T J) (hg : Glob hb w) (out : ByteArray)
    (hask : ∀ W, Gl W → Calls Tryz.prog 78 #[.pointer (some ⟨hb, 0, none⟩), .string line] W fun e w' => e = .returned (.tuple #[.string ⟨#[]⟩, .bool false, .int .i64 0]) ∧ Below W.heap.size W w')
    (hpar : ∀ W, Gl W → Calls Tryz.prog 79 #[.string line] W fun e w' => e = .returned (.tuple #[actV a ⟨#[]⟩, .int .i64 0]) ∧ Below W.heap.size W w')
    (hdo : ∀ W, HallIs W hb tv jv T J → Calls Tryz.prog 80 #[.pointer (some ⟨hb, 0, none⟩), actV a ⟨#[]⟩] W fun e w' => e = .returned (.int .i64 er) ∧ R w' ∧ Below hb W w')
    (her : er = 0 ∧ out = ⟨#[111, 107]⟩ ∨ er = 100 ∧ out = ⟨#[101, 114, 114, 111, 114, 32, 49, 48, 48]⟩) (hR : ∀ W W', R W → Below W.heap.size W W' → R W') :
    Calls Tryz.prog 52 #[.pointer (some ⟨hb, 0, none⟩), .string line] w fun e w' => e = .returned (.tuple #[.string out, .int .i64 er]) ∧ R w' ∧ Below hb w w' := by
  obtain ⟨kd, f, u, n⟩ := a
  have HLT : Hid (hb ≤ w.heap.size) := Nat.le_of_lt (blk_lt h.blk)
  have HA := Lib.hid (hask w hg.here)
  have HG := Lib.hid hg
  have HH := Lib.hid h
  have HP := Lib.hid hpar
  have HD := Lib.hid hdo
  have HR := Lib.hid hR
  have HI := Lib.hid (fun W hW => itoa_any 100 (by decide) W hW)
  rw [show (⟨(Lib.itoa 100).toArray⟩ : ByteArray) = ⟨#[49, 48, 48]⟩ by kernel_rfl] at HI
  clear hask h hg hpar hdo hR
  unfold actV at HP HD
  go_enter Tryz.func52, Tryz.ntmps52
  go_wp2_with fail
  refine HA.out.mono ?_
  rintro e w1 ⟨rfl, j1⟩
  obtain ⟨W2, HW2, HB2, HS2, j2⟩ := st_al0 w1 #[.int .i64 0, .int .i64 0, .int .i64 0, .int .i64 0, .string ⟨#[]⟩, .slice none 0 0] 154
  have HJ := Lib.hid (tt j1 j2)
  have HP2 := Lib.hid (HP.out W2 (HG.out.on (HJ.out.mono HLT.out)).here)
  have HZ : Hid (w.heap.size ≤ w1.heap.size) := j1.size
  clear HA j1 j2 HS2 HP
  go_wp2_with fail
  rw [← HW2.out]
  refine HP2.out.mono ?_
  rintro e w3 ⟨rfl, j3⟩
  replace HJ := kU HJ j3
  replace HB2 := kB HB2 j3
  obtain ⟨W4, HW4⟩ : ∃ W, Hid (W = w3.setCells w1.heap.size 0 [.int .i64 kd, .int .i64 f, .int .i64 u, .int .i64 n, .string ⟨#[]⟩, .slice none 0 0]) := ⟨_, rfl⟩
  have HTH := kth 0 6 HB2
  have HB4 := kPf (cs := [.int .i64 0, .int .i64 0, .int .i64 0, .int .i64 0, .string ⟨#[]⟩, .slice none 0 0]) (kM HW4) HB2 rfl
  replace HJ := kS (kM HW4) HZ HJ
  have hL : W4.rangeAt w1.heap.size 0 [.int .i64 kd, .int .i64 f, .int .i64 u, .int .i64 n, .string ⟨#[]⟩, .slice none 0 0] := blk_all HB4.out
  have HD4 := Lib.hid (HD.out W4 (HH.out.stay HJ.out))
  clear j3 HB2 HP2 HB4 HW2 HD
  go_wp2_with (first | (refine wpList_load_mid (by rfl) 154 _ (by rfl) w1.heap.size 0 (by rfl) _ _ (by exact hL) Tryz.underlying154 rfl (by kernel_rfl) ?_) | (refine smd 154 w1.heap.size 0 (ht := HTH) (h := ?_); rw [← HW4.out]))
  refine HD4.out.mono ?_
  rintro e w5 ⟨rfl, hr5, j5⟩
  have HRR : Hid (R w5) := hr5
  have HJ5 : Hid (Below hb w w5) := (HJ.out.mono HLT.out).trans j5
  clear hL HTH HW4 HD4 j5 hr5 HJ
  rcases her with ⟨rfl, rfl⟩ | ⟨rfl, rfl⟩
  · go_wp2_with fail
    go_ret2
    exact ⟨rfl, HRR.out, HJ5.out⟩
  · have HI5 := Lib.hid (HI.out w5 (HG.out.on HJ5.out).here)
    go_wp2_with fail
    refine HI5.out.mono ?_
    rintro e w6 ⟨rfl, j6⟩
    have HR6 : Hid (R w6) := HR.out _ _ HRR.out j6
    have HJ6 : Hid (Below hb w w6) := HJ5.out.trans (j6.mono (Nat.le_trans HLT.out HJ5.out.size))
    clear HI5 j6
    go_wp2_with fail
    go_ret2
    exact ⟨rfl, HR6.out, HJ6.out⟩
theorem answer_up (er : Int) (out line : ByteArray) (b : Nat) (w : World) (P : World → Prop) (h : Calls Tryz.prog 52 #[.pointer (some ⟨b, 0, none⟩), .string line] w fun e w' => e = .returned (.tuple #[.string out, .int .i64 er]) ∧ P w') :
    Calls Tryz.prog 20 #[.pointer (some ⟨b, 0, none⟩), .string line] w fun e w' => e = .returned (.string out) ∧ P w' := by
  have HA := Lib.hid h
  clear h
  go_enter Tryz.func20, Tryz.ntmps20
  go_wp2_with fail
  refine HA.out.mono ?_
  rintro e w1 ⟨rfl, h1⟩
  have HP := Lib.hid h1
  clear h1 HA
  go_wp2_with fail
  go_ret
  exact ⟨rfl, HP.out⟩
theorem answer_asked (line out : ByteArray) (b : Nat) (w : World) (h : Calls Tryz.prog 78 #[.pointer (some ⟨b, 0, none⟩), .string line] w fun e w' => e = .returned (.tuple #[.string out, .bool true, .int .i64 0]) ∧ Below w.heap.size w w') :
    Calls Tryz.prog 52 #[.pointer (some ⟨b, 0, none⟩), .string line] w fun e w' => e = .returned (.tuple #[.string out, .int .i64 0]) ∧ Below w.heap.size w w' := by
  have HA := Lib.hid h
  clear h
  go_enter Tryz.func52, Tryz.ntmps52
  go_wp2_with fail
  refine HA.out.mono ?_
  rintro e w1 ⟨rfl, h1⟩
  have HP := Lib.hid h1
  clear h1 HA
  go_wp2_with fail
  go_ret2
  exact ⟨rfl, HP.out⟩
end Go.Proofs.YtfondpakbiagjaaGreatDoor
