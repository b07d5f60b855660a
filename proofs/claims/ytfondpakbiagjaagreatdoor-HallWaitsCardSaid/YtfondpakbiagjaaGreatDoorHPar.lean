/- The walk of Parse at a command with one or two operands. -/
import Derived.Test.YtfondpakbiagjaaGreatDoorHSpl
namespace Go.Proofs.YtfondpakbiagjaaGreatDoor
open Go.RowKit Go.Lib
set_option linter.unusedVariables false
set_option linter.unusedSimpArgs false
set_option maxRecDepth 100000
set_option maxHeartbeats 4000000
def wLimits : ByteArray := ⟨#[108, 105, 109, 105, 116, 115]⟩
def wMeasure : ByteArray := ⟨#[109, 101, 97, 115, 117, 114, 101]⟩
theorem parse_two (s cw r : ByteArray) (ci : Nat) (kd f u : Int) (w : World) (hs : Words s [cw, r]) (hk : ∀ x ∈ [cw, r], Wok x) (hg : Gl w) (hl : (cw.toList == [108, 105, 109, 105, 116, 115]) = false) (hm : (cw.toList == [109, 101, 97, 115, 117, 114, 101]) = false)
    (hc : cmds[ci]? = some ⟨cw, kd, false⟩) (hci : ∀ (j : Nat) c, j < ci → cmds[j]? = some c → (c.word.toList == cw.toList) = false)
    (hsp : ∀ W, Gl W → Calls Tryz.prog 105 #[.string r] W fun e w' => e = .returned (.tuple #[.int .i64 f, .int .i64 u, .bool true]) ∧ Below W.heap.size W w') :
    Calls Tryz.prog 79 #[.string s] w fun e w' => e = .returned (.tuple #[actV ⟨kd, f, u, 0⟩ ⟨#[]⟩, .int .i64 0]) ∧ Below w.heap.size w w' := by
  obtain ⟨W1, HW1, HB1, HS1, j1⟩ := st_al0 w #[.int .i64 0, .int .i64 0, .int .i64 0, .int .i64 0, .string ⟨#[]⟩, .slice none 0 0] 154
  have HSP := Lib.hid (split_any s [cw, r] W1 hs hk (by show 2 ≤ 10; omega) (hg.on j1))
  have HG := Lib.hid (hg.on j1)
  have HSPAN := Lib.hid hsp
  have HC := Lib.hid hc
  have HCI := Lib.hid hci
  have hsz : ¬ 4000 < (s.size : Int) := by have := hs.l; omega
  have HCL : Hid (ci < 8) := (List.getElem?_eq_some_iff.1 hc).1
  have hl1 : ¬ cw.toList = [108, 105, 109, 105, 116, 115] := fun e => by rw [e] at hl; revert hl; decide
  have hm1 : ¬ cw.toList = [109, 101, 97, 115, 117, 114, 101] := fun e => by rw [e] at hm; revert hm; decide
  have HJ := Lib.hid j1
  clear hs hk hg hc hci hsp j1
  go_enter Tryz.func79, Tryz.ntmps79
  go_wp2_with fail
  rw [← HW1.out]
  go_wp2_with fail
  refine HSP.out.mono ?_
  rintro e w2 ⟨rfl, hw2⟩
  have HB2 : Hid (w2.heap[w.heap.size + 1]? = some (.cells #[.string cw, .string r] 9 (0, 0))) := by rw [← HS1.out, hw2]; exact heap_alloc_new W1 _
  have HS2 : Hid (w2.heap.size = w.heap.size + 2) := by show _ = _; rw [hw2]; have := HS1.out; simp; omega
  have j2 : Below W1.heap.size W1 w2 := by rw [hw2]; exact (Below.refl _ _).alloc (Nat.le_refl _) _
  rw [HS1.out]
  replace HB1 := kB HB1 j2
  replace HJ := kU HJ j2
  replace HG : Hid (Gl w2) := HG.out.on j2
  clear hw2 HSP j2 HW1 HS1
  have c0 := kC (cs := [.string cw, .string r]) HB2 0 rfl
  go_wp2_with fail
  refine seq_start (S := fun w' => w'.cell? ⟨w.heap.size + 1, 0, none⟩ = some (.string cw)) (by kernel_rfl) (by kernel_rfl) (by exact c0) ?_
  repeat (first | refine tk0 (h := ?_) | refine tkG (h := ?_) | refine skG (h := ?_))
  refine seq_done (by kernel_rfl) ?_
  go_wp2_with fail
  obtain ⟨w3, hw3⟩ : ∃ q, q = w2.drew := ⟨_, rfl⟩
  rw [← hw3]
  have j3 : Below w2.heap.size w2 w3 := by rw [hw3]; exact (Below.refl _ _).drew
  replace HB1 := kB HB1 j3
  replace HB2 := kB HB2 j3
  replace HJ := kU HJ j3
  replace HG : Hid (Gl w3) := HG.out.on j3
  clear c0 hl hl1 hm hm1 j3 hw3 HS2
  refine (commands_any w3).mono ?_
  rintro e w4 ⟨rfl, hw4⟩
  have j4 : Below w3.heap.size w3 w4 := by rw [hw4]; exact (Below.refl _ _).alloc (Nat.le_refl _) _
  have HCM : Hid (∀ (k : Nat) c, cmds[k]? = some c → w4.rangeAt w3.heap.size (k * 3) (cmdC c)) := fun k c h => by rw [hw4]; exact cmd_at h w3
  have HCB : Hid (w3.heap.size < w4.heap.size) := by show _ < _; rw [hw4]; simp
  obtain ⟨cb, hcb⟩ : ∃ q, q = w3.heap.size := ⟨_, rfl⟩
  rw [← hcb] at HCM HCB ⊢
  replace HB1 := kB HB1 j4
  replace HB2 := kB HB2 j4
  replace HJ := kU HJ j4
  replace HG : Hid (Gl w4) := HG.out.on j4
  clear hw4 j4 hcb
  go_wp2_with fail
  go_loopw [52] (fun iv wr => ∃ k : Nat, k ≤ ci ∧ iv = .int .i64 (k : Int) ∧ Hid (Below w4.heap.size w4 wr)) (fun iv _ => 8 - (RowKit.intOf iv).toNat)
  case atStart => exact ⟨0, Nat.zero_le _, rfl, Below.refl _ _⟩
  case round =>
    obtain ⟨k, hk, rfl, HW⟩ := hrel
    obtain ⟨c, hc⟩ : ∃ c, cmds[k]? = some c := ⟨_, List.getElem?_eq_getElem (by show k < 8; have := HCL.out; omega)⟩
    obtain ⟨cword, ckind, cn⟩ := c
    have hL : wr.rangeAt cb (k * 3) [.string cword, .int .i64 ckind, .bool cn] := fun j v hv => (HW.out.cell (p := ⟨cb, k * 3 + j, none⟩) HCB.out).trans (HCM.out k _ hc j v hv)
    obtain ⟨hth, W5, HW5, HB5, j5⟩ := box_new wr 193 (z := [.string ⟨#[]⟩, .int .i64 0, .bool false]) (cs := [.string cword, .int .i64 ckind, .bool cn]) (n := 3) rfl rfl
    have HTH := Lib.hid hth
    replace HB1 := kB (kB HB1 HW.out) j5
    replace HB2 := kB (kB HB2 HW.out) j5
    replace HJ := kU (kU HJ HW.out) j5
    replace HG : Hid (Gl W5) := (HG.out.on HW.out).on j5
    replace HW := kU HW j5
    have hk8 : (k : Int) < 8 := by have := HCL.out; omega
    have hk0 : (0 : Int) ≤ (k : Int) := by omega
    have hwk : IntKind.i64.wrap ((k : Int) + 1) = (k : Int) + 1 := IntWalk.i64_in _ (by omega)
    have c0 := kC HB5 0 rfl
    have c1 := kC HB5 1 rfl
    clear j5 hth
    by_cases hlt : k < ci
    · have hne : (cword.toList == cw.toList) = false := HCI.out k _ hlt hc
      have hne2 : ¬ cword.toList = cw.toList := fun e => by rw [e] at hne; simp at hne
      clear hc c1
      go_wp2_with (first | (refine wpList_load_mid (by rfl) 193 _ (by rfl) cb (k * 3) (by rfl) _ _ (by exact hL) Tryz.underlying193 rfl (by kernel_rfl) ?_) | (refine smd 193 wr.heap.size 0 (ht := HTH) (h := ?_); rw [← HW5.out]))
      go_roundw
      case rel => exact ⟨k + 1, by omega, by go_num, HW.out⟩
      case measure => simp [RowKit.intOf]; omega
    · obtain rfl : k = ci := by omega
      have hcc := hc.symm.trans HC.out
      injection hcc with hcc
      injection hcc with h1 h2 h3
      subst h1 h2 h3
      obtain ⟨W6, HW6, HB6, HS6, j6⟩ := st_al0 W5 #[.int .i64 ckind, .int .i64 0, .int .i64 0, .int .i64 0, .string ⟨#[]⟩, .slice none 0 0] 154
      have HN1 : Hid (wr.heap.size < W5.heap.size) := klt HB5
      have HN2 : Hid (w.heap.size < W5.heap.size) := klt HB1
      replace HB1 := kB HB1 j6
      replace HB2 := kB HB2 j6
      replace HB5 := kB HB5 j6
      replace HJ := kU HJ j6
      replace HG : Hid (Gl W6) := HG.out.on j6
      have cr := kC HB2 1 rfl
      rw [HW6.out] at cr
      clear hc hlt hk HS6 j6 HCI HC HW
      go_wp2_with (first | (refine wpList_load_mid (by rfl) 193 _ (by rfl) cb (k * 3) (by rfl) _ _ (by exact hL) Tryz.underlying193 rfl (by kernel_rfl) ?_) | (refine smd 193 wr.heap.size 0 (ht := HTH) (h := ?_); rw [← HW5.out]))
      rw [← HW6.out]
      refine (HSPAN.out _ HG.out).mono ?_
      rintro e w7 ⟨rfl, j7⟩
      replace HB1 := kB HB1 j7
      replace HB5 := kB HB5 j7
      replace HB6 := kB HB6 j7
      replace HJ := kU HJ j7
      obtain ⟨ab, hab⟩ : ∃ q, q = W5.heap.size := ⟨_, rfl⟩
      rw [← hab] at HB6 HN1 HN2 ⊢
      have HAB : Hid (w.heap.size ≤ ab) := Nat.le_of_lt HN2.out
      clear c0 c1 cr j7 hab HB2 HG HSPAN HW6 HW5 HTH hL
      obtain ⟨W8, HW8⟩ : ∃ W, Hid (W = w7.setCell ⟨ab, 1, none⟩ (.int .i64 f)) := ⟨_, rfl⟩
      obtain ⟨W9, HW9⟩ : ∃ W, Hid (W = W8.setCell ⟨ab, 2, none⟩ (.int .i64 u)) := ⟨_, rfl⟩
      have HB6' := kP (ds := [.int .i64 ckind, .int .i64 f, .int .i64 u, .int .i64 0, .string ⟨#[]⟩, .slice none 0 0]) (kM1 HW9) (kP (cs := [.int .i64 ckind, .int .i64 0, .int .i64 0, .int .i64 0, .string ⟨#[]⟩, .slice none 0 0]) (ds := [.int .i64 ckind, .int .i64 f, .int .i64 0, .int .i64 0, .string ⟨#[]⟩, .slice none 0 0]) (kM1 HW8) HB6 rfl rfl) rfl rfl
      have HB5' := kO (kM1 HW9) (kO (kM1 HW8) HB5 (Nat.ne_of_lt HN1.out)) (Nat.ne_of_lt HN1.out)
      have HB1' := kO (kM1 HW9) (kO (kM1 HW8) HB1 (Nat.ne_of_lt HN2.out)) (Nat.ne_of_lt HN2.out)
      have HJ' := kS (kM1 HW9) HAB (kS (kM1 HW8) HAB HJ)
      have f1 := kF HB6 1
      have f2 := kF (kP (cs := [.int .i64 ckind, .int .i64 0, .int .i64 0, .int .i64 0, .string ⟨#[]⟩, .slice none 0 0]) (ds := [.int .i64 ckind, .int .i64 f, .int .i64 0, .int .i64 0, .string ⟨#[]⟩, .slice none 0 0]) (kM1 HW8) HB6 rfl rfl) 2
      have e1 := kC HB6 1 rfl
      have e2 := kC (cs := [.int .i64 ckind, .int .i64 f, .int .i64 0, .int .i64 0, .string ⟨#[]⟩, .slice none 0 0]) (kP (cs := [.int .i64 ckind, .int .i64 0, .int .i64 0, .int .i64 0, .string ⟨#[]⟩, .slice none 0 0]) (ds := [.int .i64 ckind, .int .i64 f, .int .i64 0, .int .i64 0, .string ⟨#[]⟩, .slice none 0 0]) (kM1 HW8) HB6 rfl rfl) 2 rfl
      rw [HW8.out] at f2 e2
      have c2 := kC (cs := [.string cword, .int .i64 ckind, .bool false]) HB5' 2 rfl
      rw [HW9.out, HW8.out] at c2
      have hL6 : W9.rangeAt ab 0 [.int .i64 ckind, .int .i64 f, .int .i64 u, .int .i64 0, .string ⟨#[]⟩, .slice none 0 0] := blk_all HB6'.out
      have HTH6 := kth 0 6 HB1'
      obtain ⟨W10, HW10⟩ : ∃ W, Hid (W = W9.setCells w.heap.size 0 [.int .i64 ckind, .int .i64 f, .int .i64 u, .int .i64 0, .string ⟨#[]⟩, .slice none 0 0]) := ⟨_, rfl⟩
      have HB10 := kPf (cs := [.int .i64 0, .int .i64 0, .int .i64 0, .int .i64 0, .string ⟨#[]⟩, .slice none 0 0]) (kM HW10) HB1' rfl
      have HJ10 := kS (kM HW10) (Nat.le_refl _) HJ'
      clear HB1 HB5 HB6 HJ HB6' HB5' HB1' HJ' HN1 HN2
      go_wp2_with (first | (rw [← HW8.out, ← HW9.out]; refine wpList_load_mid (by rfl) 154 _ (by rfl) ab 0 (by rfl) _ _ (by exact hL6) Tryz.underlying154 rfl (by kernel_rfl) ?_) | (refine smd 154 w.heap.size 0 (ht := HTH6) (h := ?_); rw [← HW10.out]))
      exact bodyPost_ret (results_cell_tmp rfl (by rfl) (blk_all HB10.out) Tryz.underlying154 rfl (by kernel_rfl)) rfl ⟨rfl, HJ10.out⟩
theorem parse_three (s cw r x : ByteArray) (ci : Nat) (kd f u n : Int) (w : World) (hs : Words s [cw, r, x]) (hk : ∀ y ∈ [cw, r, x], Wok y) (hg : Gl w) (hl : (cw.toList == [108, 105, 109, 105, 116, 115]) = false) (hm : (cw.toList == [109, 101, 97, 115, 117, 114, 101]) = false)
    (hc : cmds[ci]? = some ⟨cw, kd, true⟩) (hci : ∀ (j : Nat) c, j < ci → cmds[j]? = some c → (c.word.toList == cw.toList) = false)
    (hnu : ∀ W, Calls Tryz.prog 100 #[.string x] W fun e w' => e = .returned (.tuple #[.int .i64 n, .bool true]) ∧ Below W.heap.size W w')
    (hsp : ∀ W, Gl W → Calls Tryz.prog 105 #[.string r] W fun e w' => e = .returned (.tuple #[.int .i64 f, .int .i64 u, .bool true]) ∧ Below W.heap.size W w') :
    Calls Tryz.prog 79 #[.string s] w fun e w' => e = .returned (.tuple #[actV ⟨kd, f, u, n⟩ ⟨#[]⟩, .int .i64 0]) ∧ Below w.heap.size w w' := by
  obtain ⟨W1, HW1, HB1, HS1, j1⟩ := st_al0 w #[.int .i64 0, .int .i64 0, .int .i64 0, .int .i64 0, .string ⟨#[]⟩, .slice none 0 0] 154
  have HSP := Lib.hid (split_any s [cw, r, x] W1 hs hk (by show 3 ≤ 10; omega) (hg.on j1))
  have HG := Lib.hid (hg.on j1)
  have HSPAN := Lib.hid hsp
  have HNUM := Lib.hid hnu
  have HC := Lib.hid hc
  have HCI := Lib.hid hci
  have hsz : ¬ 4000 < (s.size : Int) := by have := hs.l; omega
  have HCL : Hid (ci < 8) := (List.getElem?_eq_some_iff.1 hc).1
  have hl1 : ¬ cw.toList = [108, 105, 109, 105, 116, 115] := fun e => by rw [e] at hl; revert hl; decide
  have hm1 : ¬ cw.toList = [109, 101, 97, 115, 117, 114, 101] := fun e => by rw [e] at hm; revert hm; decide
  have HJ := Lib.hid j1
  clear hs hk hg hc hci hsp hnu j1
  go_enter Tryz.func79, Tryz.ntmps79
  go_wp2_with fail
  rw [← HW1.out]
  go_wp2_with fail
  refine HSP.out.mono ?_
  rintro e w2 ⟨rfl, hw2⟩
  have HB2 : Hid (w2.heap[w.heap.size + 1]? = some (.cells #[.string cw, .string r, .string x] 9 (0, 0))) := by rw [← HS1.out, hw2]; exact heap_alloc_new W1 _
  have HS2 : Hid (w2.heap.size = w.heap.size + 2) := by show _ = _; rw [hw2]; have := HS1.out; simp; omega
  have j2 : Below W1.heap.size W1 w2 := by rw [hw2]; exact (Below.refl _ _).alloc (Nat.le_refl _) _
  rw [HS1.out]
  replace HB1 := kB HB1 j2
  replace HJ := kU HJ j2
  replace HG : Hid (Gl w2) := HG.out.on j2
  clear hw2 HSP j2 HW1 HS1
  have c0 := kC (cs := [.string cw, .string r, .string x]) HB2 0 rfl
  go_wp2_with fail
  refine seq_start (S := fun w' => w'.cell? ⟨w.heap.size + 1, 0, none⟩ = some (.string cw)) (by kernel_rfl) (by kernel_rfl) (by exact c0) ?_
  repeat (first | refine tk0 (h := ?_) | refine tkG (h := ?_) | refine skG (h := ?_))
  refine seq_done (by kernel_rfl) ?_
  go_wp2_with fail
  obtain ⟨w3, hw3⟩ : ∃ q, q = w2.drew := ⟨_, rfl⟩
  rw [← hw3]
  have j3 : Below w2.heap.size w2 w3 := by rw [hw3]; exact (Below.refl _ _).drew
  replace HB1 := kB HB1 j3
  replace HB2 := kB HB2 j3
  replace HJ := kU HJ j3
  replace HG : Hid (Gl w3) := HG.out.on j3
  clear c0 hl hl1 hm hm1 j3 hw3 HS2
  refine (commands_any w3).mono ?_
  rintro e w4 ⟨rfl, hw4⟩
  have j4 : Below w3.heap.size w3 w4 := by rw [hw4]; exact (Below.refl _ _).alloc (Nat.le_refl _) _
  have HCM : Hid (∀ (k : Nat) c, cmds[k]? = some c → w4.rangeAt w3.heap.size (k * 3) (cmdC c)) := fun k c h => by rw [hw4]; exact cmd_at h w3
  have HCB : Hid (w3.heap.size < w4.heap.size) := by show _ < _; rw [hw4]; simp
  obtain ⟨cb, hcb⟩ : ∃ q, q = w3.heap.size := ⟨_, rfl⟩
  rw [← hcb] at HCM HCB ⊢
  replace HB1 := kB HB1 j4
  replace HB2 := kB HB2 j4
  replace HJ := kU HJ j4
  replace HG : Hid (Gl w4) := HG.out.on j4
  clear hw4 j4 hcb
  go_wp2_with fail
  go_loopw [52] (fun iv wr => ∃ k : Nat, k ≤ ci ∧ iv = .int .i64 (k : Int) ∧ Hid (Below w4.heap.size w4 wr)) (fun iv _ => 8 - (RowKit.intOf iv).toNat)
  case atStart => exact ⟨0, Nat.zero_le _, rfl, Below.refl _ _⟩
  case round =>
    obtain ⟨k, hk, rfl, HW⟩ := hrel
    obtain ⟨c, hc⟩ : ∃ c, cmds[k]? = some c := ⟨_, List.getElem?_eq_getElem (by show k < 8; have := HCL.out; omega)⟩
    obtain ⟨cword, ckind, cn⟩ := c
    have hL : wr.rangeAt cb (k * 3) [.string cword, .int .i64 ckind, .bool cn] := fun j v hv => (HW.out.cell (p := ⟨cb, k * 3 + j, none⟩) HCB.out).trans (HCM.out k _ hc j v hv)
    obtain ⟨hth, W5, HW5, HB5, j5⟩ := box_new wr 193 (z := [.string ⟨#[]⟩, .int .i64 0, .bool false]) (cs := [.string cword, .int .i64 ckind, .bool cn]) (n := 3) rfl rfl
    have HTH := Lib.hid hth
    replace HB1 := kB (kB HB1 HW.out) j5
    replace HB2 := kB (kB HB2 HW.out) j5
    replace HJ := kU (kU HJ HW.out) j5
    replace HG : Hid (Gl W5) := (HG.out.on HW.out).on j5
    replace HW := kU HW j5
    have hk8 : (k : Int) < 8 := by have := HCL.out; omega
    have hk0 : (0 : Int) ≤ (k : Int) := by omega
    have hwk : IntKind.i64.wrap ((k : Int) + 1) = (k : Int) + 1 := IntWalk.i64_in _ (by omega)
    have c0 := kC HB5 0 rfl
    have c1 := kC HB5 1 rfl
    clear j5 hth
    by_cases hlt : k < ci
    · have hne : (cword.toList == cw.toList) = false := HCI.out k _ hlt hc
      have hne2 : ¬ cword.toList = cw.toList := fun e => by rw [e] at hne; simp at hne
      clear hc c1
      go_wp2_with (first | (refine wpList_load_mid (by rfl) 193 _ (by rfl) cb (k * 3) (by rfl) _ _ (by exact hL) Tryz.underlying193 rfl (by kernel_rfl) ?_) | (refine smd 193 wr.heap.size 0 (ht := HTH) (h := ?_); rw [← HW5.out]))
      go_roundw
      case rel => exact ⟨k + 1, by omega, by go_num, HW.out⟩
      case measure => simp [RowKit.intOf]; omega
    · obtain rfl : k = ci := by omega
      have hcc := hc.symm.trans HC.out
      injection hcc with hcc
      injection hcc with h1 h2 h3
      subst h1 h2 h3
      obtain ⟨W6, HW6, HB6, HS6, j6⟩ := st_al0 W5 #[.int .i64 ckind, .int .i64 0, .int .i64 0, .int .i64 0, .string ⟨#[]⟩, .slice none 0 0] 154
      have HN1 : Hid (wr.heap.size < W5.heap.size) := klt HB5
      have HN2 : Hid (w.heap.size < W5.heap.size) := klt HB1
      have HN3 : Hid (w.heap.size + 1 < W5.heap.size) := klt HB2
      replace HB1 := kB HB1 j6
      replace HB2 := kB HB2 j6
      replace HB5 := kB HB5 j6
      replace HJ := kU HJ j6
      replace HG : Hid (Gl W6) := HG.out.on j6
      have cr := kC HB2 1 rfl
      rw [HW6.out] at cr
      clear hc hlt hk HS6 j6 HCI HC HW
      go_wp2_with (first | (refine wpList_load_mid (by rfl) 193 _ (by rfl) cb (k * 3) (by rfl) _ _ (by exact hL) Tryz.underlying193 rfl (by kernel_rfl) ?_) | (refine smd 193 wr.heap.size 0 (ht := HTH) (h := ?_); rw [← HW5.out]))
      rw [← HW6.out]
      refine (HSPAN.out _ HG.out).mono ?_
      rintro e w7 ⟨rfl, j7⟩
      replace HB1 := kB HB1 j7
      replace HB2 := kB HB2 j7
      replace HB5 := kB HB5 j7
      replace HB6 := kB HB6 j7
      replace HJ := kU HJ j7
      obtain ⟨ab, hab⟩ : ∃ q, q = W5.heap.size := ⟨_, rfl⟩
      rw [← hab] at HB6 HN1 HN2 HN3 ⊢
      have HAB : Hid (w.heap.size ≤ ab) := Nat.le_of_lt HN2.out
      clear c0 c1 cr j7 hab HG HSPAN HW6 HW5 HTH hL
      obtain ⟨W8, HW8⟩ : ∃ W, Hid (W = w7.setCell ⟨ab, 1, none⟩ (.int .i64 f)) := ⟨_, rfl⟩
      obtain ⟨W9, HW9⟩ : ∃ W, Hid (W = W8.setCell ⟨ab, 2, none⟩ (.int .i64 u)) := ⟨_, rfl⟩
      have HB6' := kP (ds := [.int .i64 ckind, .int .i64 f, .int .i64 u, .int .i64 0, .string ⟨#[]⟩, .slice none 0 0]) (kM1 HW9) (kP (cs := [.int .i64 ckind, .int .i64 0, .int .i64 0, .int .i64 0, .string ⟨#[]⟩, .slice none 0 0]) (ds := [.int .i64 ckind, .int .i64 f, .int .i64 0, .int .i64 0, .string ⟨#[]⟩, .slice none 0 0]) (kM1 HW8) HB6 rfl rfl) rfl rfl
      have HB2' := kO (kM1 HW9) (kO (kM1 HW8) HB2 (Nat.ne_of_lt HN3.out)) (Nat.ne_of_lt HN3.out)
      have HB5' := kO (kM1 HW9) (kO (kM1 HW8) HB5 (Nat.ne_of_lt HN1.out)) (Nat.ne_of_lt HN1.out)
      have HB1' := kO (kM1 HW9) (kO (kM1 HW8) HB1 (Nat.ne_of_lt HN2.out)) (Nat.ne_of_lt HN2.out)
      have HJ' := kS (kM1 HW9) HAB (kS (kM1 HW8) HAB HJ)
      have f1 := kF HB6 1
      have f2 := kF (kP (cs := [.int .i64 ckind, .int .i64 0, .int .i64 0, .int .i64 0, .string ⟨#[]⟩, .slice none 0 0]) (ds := [.int .i64 ckind, .int .i64 f, .int .i64 0, .int .i64 0, .string ⟨#[]⟩, .slice none 0 0]) (kM1 HW8) HB6 rfl rfl) 2
      have e1 := kC HB6 1 rfl
      have e2 := kC (cs := [.int .i64 ckind, .int .i64 f, .int .i64 0, .int .i64 0, .string ⟨#[]⟩, .slice none 0 0]) (kP (cs := [.int .i64 ckind, .int .i64 0, .int .i64 0, .int .i64 0, .string ⟨#[]⟩, .slice none 0 0]) (ds := [.int .i64 ckind, .int .i64 f, .int .i64 0, .int .i64 0, .string ⟨#[]⟩, .slice none 0 0]) (kM1 HW8) HB6 rfl rfl) 2 rfl
      rw [HW8.out] at f2 e2
      have c2 := kC (cs := [.string cword, .int .i64 ckind, .bool true]) HB5' 2 rfl
      have cr := kC (cs := [.string cword, .string r, .string x]) HB2' 2 rfl
      rw [HW9.out, HW8.out] at c2 cr
      clear HB1 HB5 HB6 HJ HB2 HB2' HN3
      go_wp2_with fail
      rw [← HW8.out, ← HW9.out]
      refine (HNUM.out W9).mono ?_
      rintro e w11 ⟨rfl, j11⟩
      replace HB6' := kB HB6' j11
      replace HB5' := kB HB5' j11
      replace HB1' := kB HB1' j11
      replace HJ' := kU HJ' j11
      clear c2 cr f1 f2 e1 e2 j11 HNUM HW8 HW9
      obtain ⟨W12, HW12⟩ : ∃ W, Hid (W = w11.setCell ⟨ab, 3, none⟩ (.int .i64 n)) := ⟨_, rfl⟩
      have f3 := kF HB6' 3
      have e3 := kC (cs := [.int .i64 ckind, .int .i64 f, .int .i64 u, .int .i64 0, .string ⟨#[]⟩, .slice none 0 0]) HB6' 3 rfl
      have HB6' := kP (cs := [.int .i64 ckind, .int .i64 f, .int .i64 u, .int .i64 0, .string ⟨#[]⟩, .slice none 0 0]) (ds := [.int .i64 ckind, .int .i64 f, .int .i64 u, .int .i64 n, .string ⟨#[]⟩, .slice none 0 0]) (kM1 HW12) HB6' rfl rfl
      have HB5' := kO (kM1 HW12) HB5' (Nat.ne_of_lt HN1.out)
      have HB1' := kO (kM1 HW12) HB1' (Nat.ne_of_lt HN2.out)
      have HJ' := kS (kM1 HW12) HAB HJ'
      have c2 := kC (cs := [.string cword, .int .i64 ckind, .bool true]) HB5' 2 rfl
      rw [HW12.out] at c2
      have hL6 : W12.rangeAt ab 0 [.int .i64 ckind, .int .i64 f, .int .i64 u, .int .i64 n, .string ⟨#[]⟩, .slice none 0 0] := blk_all HB6'.out
      have HTH6 := kth 0 6 HB1'
      obtain ⟨W10, HW10⟩ : ∃ W, Hid (W = W12.setCells w.heap.size 0 [.int .i64 ckind, .int .i64 f, .int .i64 u, .int .i64 n, .string ⟨#[]⟩, .slice none 0 0]) := ⟨_, rfl⟩
      have HB10 := kPf (cs := [.int .i64 0, .int .i64 0, .int .i64 0, .int .i64 0, .string ⟨#[]⟩, .slice none 0 0]) (kM HW10) HB1' rfl
      have HJ10 := kS (kM HW10) (Nat.le_refl _) HJ'
      clear HB6' HB5' HB1' HJ' HN1 HN2
      go_wp2_with (first | (rw [← HW12.out]; refine wpList_load_mid (by rfl) 154 _ (by rfl) ab 0 (by rfl) _ _ (by exact hL6) Tryz.underlying154 rfl (by kernel_rfl) ?_) | (refine smd 154 w.heap.size 0 (ht := HTH6) (h := ?_); rw [← HW10.out]))
      exact bodyPost_ret (results_cell_tmp rfl (by rfl) (blk_all HB10.out) Tryz.underlying154 rfl (by kernel_rfl)) rfl ⟨rfl, HJ10.out⟩
end Go.Proofs.YtfondpakbiagjaaGreatDoor
