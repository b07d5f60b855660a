/- Walk of the reference's End. Walk of the reference's decimal digits. -/
import Derived.Test.YtogccnngdfancaaGreatPart40
import Derived.Test.YtogccnngdfancaaGreatPart34
import Derived.Test.YtogccnngdfancaaGreatPart35
namespace Go.Proofs.YtogccnngdfancaaGreat
open Go.RowKit
set_option linter.unusedVariables false
set_option linter.unusedSimpArgs false
set_option maxRecDepth 100000 in
set_option maxHeartbeats 4000000 in
theorem rEnd_any (v vl : Value) (d : WorksD) (l : List JobD) (S T : Nat → Prop) (w : World) (hv : WkV w S v d) (hl : RdK 3 jobC w T vl l) (hll : l.length ≤ 1000) :
    Calls Tryz.prog 8 #[v, vl] w (EndPost d l w) := by
  have HCH := Lib.hid (fun w' (h : Below w.heap.size w w') => rCheck_any v vl d l S T w' (hv.below h) (hl.below jobC_0 h) hll)
  have HV := Lib.hid hv
  obtain ⟨vc, vn, vm, rfl, -, -, -⟩ := hv.lt
  obtain ⟨A, n, cap, rfl, hn, hcap, hmax, hlc⟩ := (hl.lt jobC_0).open_
  obtain ⟨ce, hce⟩ : ∃ ce, ce = chkE d l := ⟨_, rfl⟩
  obtain ⟨en, hen⟩ : ∃ en, en = endE d l := ⟨_, rfl⟩
  unfold RCheckPost at HCH
  rw [rchk_eq] at HCH
  unfold EndPost
  rw [← hce] at HCH ⊢
  rw [← hen]
  have HCE := Lib.hid hce
  have HEN : Hid (en = if ce = 0 then endMax d l else 0) := by show _ = _; rw [hen, hce]; rfl
  obtain ⟨W1, hW1⟩ : ∃ W1, W1 = w.alloc (.cells #[.int .i64 d.presses, .int .i64 d.change, vc, vn, vm] 40) := ⟨_, rfl⟩
  have hm1 := heap_alloc_new w (.cells #[.int .i64 d.presses, .int .i64 d.change, vc, vn, vm] 40)
  have hb1 : Below w.heap.size w W1 := by rw [hW1]; exact (Below.refl _ w).alloc (Nat.le_refl _) _
  rw [← hW1] at hm1
  have HSZ : Hid (W1.heap.size = w.heap.size + 1) := by show _ = _; rw [hW1]; simp
  have HCELL : Hid (∀ w', Below W1.heap.size W1 w' → w'.cell? ⟨w.heap.size, 0, none⟩ = some (.int .i64 d.presses) ∧ w'.cell? ⟨w.heap.size, 1, none⟩ = some (.int .i64 d.change) ∧ w'.cell? ⟨w.heap.size, 2, none⟩ = some vc ∧ w'.cell? ⟨w.heap.size, 3, none⟩ = some vn ∧ w'.cell? ⟨w.heap.size, 4, none⟩ = some vm) := fun w' hb => by
    have k0 := (hb.block _ (by have := HSZ.out; omega)).trans hm1
    exact ⟨cell_of_row w' _ 0 _ _ _ k0, cell_of_row w' _ 1 _ _ _ k0, cell_of_row w' _ 2 _ _ _ k0, cell_of_row w' _ 3 _ _ _ k0, cell_of_row w' _ 4 _ _ _ k0⟩
  obtain ⟨x0, x1, x2, x3, x4⟩ := HCELL.out W1 (Below.refl _ _)
  have HW1 := Lib.hid hW1
  have HB1 := Lib.hid hb1
  have HN := Lib.hid hn
  have HLC := Lib.hid hlc
  rw [hn] at hll
  clear hW1 hm1 hb1 hv hl hn hlc hce hen
  by_cases hz : ce = 0
  · subst hz
    have HVA := Lib.hid (chkE_zero.1 HCE.out.symm)
    have HG := Lib.hid (wgood_of HVA.out.1)
    have HRN : Hid (∀ x ∈ l, InRange d x) := HVA.out.2.2.rng
    go_enter Tryz.func8, Tryz.ntmps8
    go_wp2_with fail
    rw [← HW1.out]
    refine (HCH.out W1 HB1.out).mono ?_
    rintro e w2 ⟨rfl, hb2⟩
    have HB2' : Hid (Below W1.heap.size W1 w2) := hb2
    clear hb2 x0 x1 x2 x3 x4
    go_wp2_with fail
    go_loopw [7, 8] (fun mv iv wr => ∃ i : Nat, i ≤ n ∧ iv = .int .i64 (i : Int) ∧ mv = .int .i64 (endMax d (l.take i)) ∧ Below W1.heap.size W1 wr) (fun _ iv _ => n - (intOf iv).toNat)
    case atStart => exact ⟨0, Nat.zero_le _, rfl, rfl, HB2'.out⟩
    case round =>
      clear HB2'
      obtain ⟨i, hi, rfl, rfl, hbel⟩ := hrel
      have HBEL := Lib.hid hbel
      have HBR := Lib.hid (HB1.out.trans (hbel.mono HB1.out.size))
      clear hbel
      by_cases hlt : i < n
      · obtain ⟨b, off, x, rfl, ⟨_, hbl⟩, hx, hcell⟩ := HLC.out i hlt
        have d0 : wr.cell? ⟨b, off + i * 3, none⟩ = some (.int .i64 x.press) := (HBR.out.cell (p := ⟨b, _, none⟩) hbl).trans (hcell 0 _ rfl)
        have d1 : wr.cell? ⟨b, off + i * 3 + 1, none⟩ = some (.int .i64 x.kind) := (HBR.out.cell (p := ⟨b, _, none⟩) hbl).trans (hcell 1 _ rfl)
        have d2 : wr.cell? ⟨b, off + i * 3 + 2, none⟩ = some (.int .i64 x.start) := (HBR.out.cell (p := ⟨b, _, none⟩) hbl).trans (hcell 2 _ rfl)
        have hrx := HRN.out x (mem_of_get? hx)
        have hcx := cure_in HG.out hrx
        have hs0 := hrx.s0
        have hs1 := hrx.s1
        have HST := Lib.hid (endMax_take (d := d) hx)
        have hbd := endMax_bd HG.out (l := l.take i) (fun y hy => HRN.out y (List.mem_of_mem_take hy))
        obtain ⟨m, hm⟩ : ∃ m, m = endMax d (l.take i) := ⟨_, rfl⟩
        rw [← hm] at HST hbd ⊢
        obtain ⟨hm0, hm1⟩ := hbd
        have HEN2 := Lib.hid (fun w' (h : Below w.heap.size w w') => rend_any _ d x S w' (HV.out.below h) hrx.k0 hrx.k1 (by omega) (by omega))
        obtain ⟨ex, hex⟩ : ∃ e, e = endJ d x := ⟨_, rfl⟩
        have hex0 : 0 ≤ ex ∧ ex ≤ 2000000 := by rw [hex]; unfold endJ; omega
        obtain ⟨hex0, hex1⟩ := hex0
        rw [← hex] at HEN2 HST
        clear hx hcell hrx hcx hs0 hs1 hm hex
        obtain ⟨xp, xk, xs⟩ := x
        simp only [JobV] at HEN2 d0 d1 d2
        have HDD : Hid (∀ w', Below w.heap.size w w' → w'.cell? ⟨b, off + i * 3, none⟩ = some (.int .i64 xp) ∧ w'.cell? ⟨b, off + i * 3 + 1, none⟩ = some (.int .i64 xk) ∧ w'.cell? ⟨b, off + i * 3 + 2, none⟩ = some (.int .i64 xs)) := fun w' hb =>
          ⟨(hb.cell (p := ⟨b, _, none⟩) hbl).trans ((HBR.out.cell (p := ⟨b, _, none⟩) hbl).symm.trans d0), (hb.cell (p := ⟨b, _, none⟩) hbl).trans ((HBR.out.cell (p := ⟨b, _, none⟩) hbl).symm.trans d1), (hb.cell (p := ⟨b, _, none⟩) hbl).trans ((HBR.out.cell (p := ⟨b, _, none⟩) hbl).symm.trans d2)⟩
        have HS0 : Hid (∀ w', Below W1.heap.size W1 w' → w'.cell? ⟨b, off + i * 3, none⟩ = some (.int .i64 xp) ∧ w'.cell? ⟨b, off + i * 3 + 1, none⟩ = some (.int .i64 xk) ∧ w'.cell? ⟨b, off + i * 3 + 2, none⟩ = some (.int .i64 xs) ∧ (w'.cell? ⟨w.heap.size, 0, none⟩ = some (.int .i64 d.presses) ∧ w'.cell? ⟨w.heap.size, 1, none⟩ = some (.int .i64 d.change) ∧ w'.cell? ⟨w.heap.size, 2, none⟩ = some vc ∧ w'.cell? ⟨w.heap.size, 3, none⟩ = some vn ∧ w'.cell? ⟨w.heap.size, 4, none⟩ = some vm)) := fun w' hb => by
          obtain ⟨k0, k1, k2⟩ := HDD.out w' (HB1.out.trans (hb.mono HB1.out.size))
          exact ⟨k0, k1, k2, HCELL.out w' hb⟩
        have hli : (i : Int) < (n : Int) := by omega
        have hi0 : (0 : Int) ≤ (i : Int) := by omega
        obtain ⟨mx, hmx⟩ : ∃ y, y = max m ex := ⟨_, rfl⟩
        have hmE : (if m < ex then ex else m) = mx := by rw [hmx]; split <;> omega
        rw [← hmx] at HST
        have HMX := Lib.hid hmx
        clear hmx d0 d1 d2
        have HBD : Hid (Below W1.heap.size W1 wr.drew) := HBEL.out.drew
        go_wp2_with fail
        refine seq_start (S := fun w' => w'.cell? ⟨b, off + i * 3, none⟩ = some (.int .i64 xp) ∧ w'.cell? ⟨b, off + i * 3 + 1, none⟩ = some (.int .i64 xk) ∧ w'.cell? ⟨b, off + i * 3 + 2, none⟩ = some (.int .i64 xs) ∧ (w'.cell? ⟨w.heap.size, 0, none⟩ = some (.int .i64 d.presses) ∧ w'.cell? ⟨w.heap.size, 1, none⟩ = some (.int .i64 d.change) ∧ w'.cell? ⟨w.heap.size, 2, none⟩ = some vc ∧ w'.cell? ⟨w.heap.size, 3, none⟩ = some vn ∧ w'.cell? ⟨w.heap.size, 4, none⟩ = some vm)) (by kernel_rfl) (by kernel_rfl) (by exact HS0.out _ HBD.out) ?_
        repeat (first
          | (refine seq_take0 (v := ?_) ?_ (fun _ _ _ h => h) (by kernel_rfl) ?_ ?_; rotate_left; (focus rfl); (focus (intro w' hSw; (try dsimp only at hSw); go_simp; (try with_reducible rfl); done)); (try simp only [Act.put, List.setIfInBounds_toArray, List.set_cons_zero, List.set_cons_succ]))
          | (refine seq_takeG (v := ?_) (g := ?_) (d := ?_) (b := ?_) (u := ?_) ?_ ?_ ?_ ?_ (fun _ _ _ h => h) (by kernel_rfl) ?_ ?_; rotate_left 5; (focus rfl); (focus rfl); (focus rfl); (focus (first | rfl | (go_simp; done))); (focus (intro w' hSw; (try dsimp only at hSw); go_simp; (try with_reducible rfl); done)); (try simp only [Act.put, List.setIfInBounds_toArray, List.set_cons_zero, List.set_cons_succ]))
          | (refine seq_skipG (g := ?_) (d := ?_) (b := ?_) (u := ?_) ?_ ?_ ?_ ?_ (fun _ _ _ h => h) (by kernel_rfl) ?_; rotate_left 4; (focus rfl); (focus rfl); (focus rfl); (focus (first | rfl | (go_simp; done))); (try simp only [Act.put, List.setIfInBounds_toArray, List.set_cons_zero, List.set_cons_succ])))
        refine seq_op (by kernel_rfl) (by rfl) (fun K hK => ?_)
        go_simp
        refine (HEN2.out _ (HB1.out.trans (HBD.out.mono HB1.out.size))).mono ?_
        rintro e' w5 ⟨rfl, hbx⟩
        have HB5 : Hid (Below W1.heap.size W1 w5) := HBD.out.trans (hbx.mono HBD.out.size)
        clear hbx
        refine hK.out _ _ (by exact HS0.out _ HB5.out) ?_
        clear hK K
        repeat (first
          | (refine seq_take0 (v := ?_) ?_ (fun _ _ _ h => h) (by kernel_rfl) ?_ ?_; rotate_left; (focus rfl); (focus (intro w' hSw; (try dsimp only at hSw); go_simp; (try with_reducible rfl); done)); (try simp only [Act.put, List.setIfInBounds_toArray, List.set_cons_zero, List.set_cons_succ]))
          | (refine seq_takeG (v := ?_) (g := ?_) (d := ?_) (b := ?_) (u := ?_) ?_ ?_ ?_ ?_ (fun _ _ _ h => h) (by kernel_rfl) ?_ ?_; rotate_left 5; (focus rfl); (focus rfl); (focus rfl); (focus (first | rfl | (go_simp; done))); (focus (intro w' hSw; (try dsimp only at hSw); go_simp; (try with_reducible rfl); done)); (try simp only [Act.put, List.setIfInBounds_toArray, List.set_cons_zero, List.set_cons_succ]))
          | (refine seq_skipG (g := ?_) (d := ?_) (b := ?_) (u := ?_) ?_ ?_ ?_ ?_ (fun _ _ _ h => h) (by kernel_rfl) ?_; rotate_left 4; (focus rfl); (focus rfl); (focus rfl); (focus (first | rfl | (go_simp; done))); (try simp only [Act.put, List.setIfInBounds_toArray, List.set_cons_zero, List.set_cons_succ])))
        refine seq_done (by kernel_rfl) ?_
        go_wp2_with fail
        go_roundw
        case rel => exact ⟨i + 1, by omega, by go_num, by (first | (rw [HST.out]; done) | (rw [HST.out, HMX.out])), HB5.out⟩
        case measure => simp [intOf]; omega
      · have hin : i = n := by omega
        have HA : Hid (en = endMax d (l.take i)) := by show _ = _; rw [HEN.out, if_pos trivial, hin, ← HN.out, List.take_length]
        have hli : ¬ ((i : Int) < (n : Int)) := by omega
        clear hin
        go_wp2_with fail
        go_ret2
        exact ⟨by rw [HA.out]; rfl, HBR.out⟩
  · have hz' : (ce != 0) = true := by rw [bne_iff_ne]; exact hz
    have HA : Hid (en = 0) := by show _ = _; rw [HEN.out, if_neg hz]
    clear hz
    go_enter Tryz.func8, Tryz.ntmps8
    go_wp2_with fail
    rw [← HW1.out]
    refine (HCH.out W1 HB1.out).mono ?_
    rintro e w2 ⟨rfl, hb2⟩
    have HB2' : Hid (Below W1.heap.size W1 w2) := hb2
    clear hb2 x0 x1 x2 x3 x4
    go_wp2_with fail
    go_ret2
    exact ⟨by rw [HA.out]; rfl, HB1.out.trans (HB2'.out.mono HB1.out.size)⟩

end Go.Proofs.YtogccnngdfancaaGreat
namespace Go.Proofs.YtogccnngdfancaaGreat
open Go.RowKit
set_option linter.unusedVariables false
set_option linter.unusedSimpArgs false
theorem pad_front : ∀ (k r : Nat), pad (k + 1) r = UInt8.ofNat (48 + r / 10 ^ k % 10) :: pad k r
  | 0, r => by simp [pad]
  | k + 1, r => by
    rw [pad, pad_front k (r / 10), Nat.div_div_eq_div_mul, ← Nat.pow_succ', pad]
    rfl
theorem dec_len_dm (n : Nat) : (dec n).length ≤ 10 * dm n := by
  refine dec_le n _ ?_
  have h1 := lt_len B32_2 n
  have h2 : B32 ^ (digs B32 n).length ≤ (10 ^ 10) ^ (digs B32 n).length := Nat.pow_le_pow_left (by unfold B32; decide) _
  rw [← Nat.pow_mul] at h2
  unfold dm
  omega
def digits10 : ByteArray := ⟨#[48, 49, 50, 51, 52, 53, 54, 55, 56, 57]⟩
theorem digit_at : ∀ d, d < 10 → digits10.extract d (d + 1) = ⟨[UInt8.ofNat (48 + d)].toArray⟩ := by decide
set_option maxRecDepth 100000 in
set_option maxHeartbeats 8000000 in
theorem rdigits_any (va : Value) (N : Nat) (w : World) (hP : RdM w va N) (h6 : dm N ≤ 1800000) : Calls Tryz.prog 69 #[va] w fun e w' => e = .returned (strV (decS N)) ∧ Below w.heap.size w w' := by
  have HP := Lib.hid hP
  have HN6 := Lib.hid h6
  have HDN : Hid ((dec N).length ≤ 18000000) := by
    show _ ≤ _
    have := dec_len_dm N
    omega
  clear hP h6
  go_enter Tryz.func69, Tryz.ntmps69
  go_wp2_with fail
  go_loopg [0, 3] N (fun n av sv wr => ∃ (S : ByteArray) (s0 : List UInt8), sv = .string S ∧ Hid (S = ⟨s0.toArray⟩) ∧ Hid (RdM wr av n) ∧ Hid (Below w.heap.size w wr) ∧ Hid (dec N = dec n ++ s0) ∧ Hid (dm n ≤ 1800000))
  case atStart => exact ⟨_, [], rfl, rfl, HP.out, Below.refl _ _, by show _ = _; simp, HN6.out⟩
  case round =>
    obtain ⟨S, s0, rfl, HS, HA, HBEL, HD, HL6⟩ := hrel
    obtain ⟨A1, k1, c1, rfl, e1, hk1, -, hm1, -⟩ := RdV.open_ HA.out
    by_cases h0 : gk = 0
    · have hDF : dec N = s0 := by have := HD.out; rw [h0, dec_zero, List.nil_append] at this; exact this
      rw [h0, digs_zero] at e1
      obtain rfl : k1 = 0 := by simpa using e1.symm
      by_cases hN : N = 0
      · have hs : S = ⟨#[]⟩ := by rw [HS.out, ← hDF, hN, dec_zero]
        have HR : Hid (decS N = [48]) := by show _ = _; unfold decS; rw [if_pos hN]
        subst hs
        clear e1 h0 hDF hN
        go_wp2_with fail
        go_ret
        exact ⟨by rw [HR.out]; rfl, HBEL.out⟩
      · have hse : S.toList.isEmpty = false := by
          rw [ByteArray.toList_eq, HS.out, ← hDF]
          show (dec N).isEmpty = false
          cases h : dec N with
          | nil => exact absurd h (dec_ne hN)
          | cons => rfl
        have HR : Hid (S = ⟨(decS N).toArray⟩) := by show _ = _; unfold decS; rw [if_neg hN, hDF]; exact HS.out
        clear e1 h0 hDF hN
        go_wp2_with fail
        go_ret
        exact ⟨by rw [HR.out]; rfl, HBEL.out⟩
    · have hk1p : 0 < k1 := by have := dm_pos h0; unfold dm at this; omega
      have hkp : (0 : Int) < (k1 : Int) := by omega
      obtain ⟨q, hq⟩ : ∃ q, q = gk / 1000000000 := ⟨_, rfl⟩
      obtain ⟨r, hr⟩ : ∃ r, r = gk % 1000000000 := ⟨_, rfl⟩
      have HBY := Lib.hid (rbyWord_any _ gk 1000000000 wr HA.out (by omega) (by unfold B32; omega) (by have := HL6.out; omega))
      rw [← hq, ← hr] at HBY
      have hr9 : r < 1000000000 := by rw [hr]; exact Nat.mod_lt _ (by omega)
      have HQN : Hid (q < gk) := by show _ < _; omega
      have HLQ : Hid (dm q ≤ 1800000) := by show _ ≤ _; have := dm_mono (show q ≤ gk by omega); have := HL6.out; omega
      have HSL : Hid (s0.length ≤ 18000000) := by
        have h1 := congrArg List.length HD.out
        rw [List.length_append] at h1
        have := HDN.out
        show _ ≤ _; omega
      have hgk : gk = q * 10 ^ 9 + r := by
        rw [hq, hr]
        have := Nat.div_add_mod gk 1000000000
        omega
      have HDQ : Hid (q ≠ 0 → dec N = dec q ++ (pad 9 r ++ s0)) := fun h => by
        rw [HD.out, hgk, dec_split 9 q r h (by omega), List.append_assoc]
      have HDZ : Hid (q = 0 → dec N = dec q ++ (dec r ++ s0)) := fun h => by
        rw [HD.out, hgk, h, dec_zero, List.nil_append]; simp
      clear e1 h0 hq hr hgk HD HDN
      go_upto_block 2 with (go_at_call 101; refine HBY.out.mono ?_; rintro e w3 ⟨⟨v3, rfl, hr3⟩, hb3⟩; have HR3 := Lib.hid hr3; have HB3 := Lib.hid hb3; clear hr3 hb3; obtain ⟨A3, n3, c3, rfl, e3, -, -, -, -⟩ := RdV.open_ HR3.out; have HE3 := Lib.hid e3; clear e3)
      go_cut [3, 5, 6] (fun sv rv kv wx => ∃ (S' : ByteArray) (s1 : List UInt8), sv = .string S' ∧ Hid (S' = ⟨s1.toArray⟩) ∧ Hid (wx = w3) ∧ Hid (dec N = dec q ++ s1))
      case first =>
        have HNZ : Hid (n3 = 0 ↔ q = 0) := by
          have := HE3.out
          constructor
          · intro h; exact (digs_nil B32_2).1 (List.length_eq_zero_iff.1 (by omega))
          · rintro rfl; rw [digs_zero] at this; simpa using this.symm
        go_wp2_with fail
        go_loop [3, 5, 6] (fun sv rv kv => ∃ (S' : ByteArray) (k r' : Nat) (P : List UInt8), sv = .string S' ∧ rv = .int .u32 (r' : Int) ∧ kv = .int .i64 (k : Int) ∧ k ≤ 9 ∧ r' < 1000000000 ∧ Hid (r' = r / 10 ^ k) ∧ Hid (P = pad k r) ∧ Hid (S' = ⟨(P ++ s0).toArray⟩) ∧ Hid (q = 0 → dec r = dec r' ++ P)) (fun _ _ kv => 9 - (intOf kv).toNat)
        case atStart => exact ⟨S, 0, r, [], rfl, rfl, rfl, Nat.zero_le _, hr9, by show _ = _; simp, rfl, by show _ = _; rw [HS.out]; rfl, fun _ => by simp⟩
        case round =>
          obtain ⟨S', k, r', P, rfl, rfl, rfl, hk, hr', HR', HPP, HS', HZ⟩ := hrel
          by_cases hk9 : k = 9
          · have HF : Hid (dec N = dec q ++ (P ++ s0)) := by
              by_cases hq0 : q = 0
              · have h1 := HZ.out hq0
                rw [HR'.out, hk9, Nat.div_eq_of_lt hr9, dec_zero, List.nil_append] at h1
                show _ = _
                rw [← h1]; exact HDZ.out hq0
              · show _ = _
                rw [HPP.out, hk9]; exact HDQ.out hq0
            subst hk9
            go_wp2_with fail
            go_meet
            case rel => exact ⟨S', P ++ s0, rfl, HS'.out, rfl, HF.out⟩
          · have hk8 : k < 9 := by omega
            have hki : (k : Int) < 9 := by omega
            by_cases hz : q = 0 ∧ r' = 0
            · obtain ⟨hq0, hr0⟩ := hz
              have HF : Hid (dec N = dec q ++ (P ++ s0)) := by
                have h1 := HZ.out hq0
                rw [hr0, dec_zero, List.nil_append] at h1
                show _ = _
                rw [← h1]; exact HDZ.out hq0
              have hn0 : n3 = 0 := HNZ.out.2 hq0
              subst hr0
              subst hn0
              clear hq0
              go_wp2_with fail
              go_meet
              case rel => exact ⟨S', P ++ s0, rfl, HS'.out, rfl, HF.out⟩
            · obtain ⟨d, hd⟩ : ∃ d, d = r' % 10 := ⟨_, rfl⟩
              obtain ⟨r1, hr1⟩ : ∃ x, x = r' / 10 := ⟨_, rfl⟩
              have hd10 : d < 10 := by omega
              obtain ⟨D1, hD1⟩ : ∃ B, B = digits10.extract d (d + 1) := ⟨_, rfl⟩
              obtain ⟨S2, hS2⟩ : ∃ B : ByteArray, B = ⟨([UInt8.ofNat (48 + d)] ++ (P ++ s0)).toArray⟩ := ⟨_, rfl⟩
              have hPl : (P ++ s0).length ≤ 50000000 := by rw [List.length_append, HPP.out, pad_length]; have := HSL.out; omega
              have hadd : ∀ w', (Op.stringOp .add D1 S').run Tryz.prog w' = .ok (.string S2) w' := fun w' => by
                rw [hD1, digit_at d hd10, HS'.out]
                exact add_str _ _ (by simp) (by omega) S2 hS2 w'
              have hext : (⟨#[48, 49, 50, 51, 52, 53, 54, 55, 56, 57]⟩ : ByteArray).extract d (d + 1) = D1 := hD1.symm
              have hdI : (r' : Int) % 10 = (d : Int) := by omega
              have hd1I : IntKind.u32.wrap ((d : Int) + 1) = (d : Int) + 1 := by rw [IntKind.wrap_u32]; omega
              have hqI : (r' : Int) / 10 = (r1 : Int) := by omega
              have hdle : (d : Int) + 1 ≤ 10 := by omega
              have HR1 : Hid (r1 = r / 10 ^ (k + 1)) := by show _ = _; rw [hr1, HR'.out, Nat.div_div_eq_div_mul, ← Nat.pow_succ]
              have HP1 : Hid (UInt8.ofNat (48 + d) :: P = pad (k + 1) r) := by show _ = _; rw [pad_front, ← HR'.out, ← hd, HPP.out]
              have HS1 : Hid (S2 = ⟨((UInt8.ofNat (48 + d) :: P) ++ s0).toArray⟩) := by show _ = _; rw [hS2]; simp
              have HZ1 : Hid (q = 0 → dec r = dec r1 ++ (UInt8.ofNat (48 + d) :: P)) := fun h => by
                rw [HZ.out h, dec_pos (fun e => hz ⟨h, e⟩), ← hd, ← hr1, List.append_assoc]; rfl
              have hr1l : r1 < 1000000000 := by omega
              have hz2 : 0 < n3 ∨ 0 < r' := by
                rcases Nat.eq_zero_or_pos r' with h | h
                · rcases Nat.eq_zero_or_pos n3 with h2 | h2
                  · exact absurd ⟨HNZ.out.1 h2, h⟩ hz
                  · exact .inl h2
                · exact .inr h
              have HADD := Lib.hid hadd
              have HEXT := Lib.hid hext
              clear hz hd hr1 hD1 hS2 hPl HR' HPP HZ hadd hext
              by_cases hn3 : 0 < n3
              · clear hz2
                have hadd := HADD.out
                have hext := HEXT.out
                go_wp2_with fail
                go_round
                case rel => exact ⟨S2, k + 1, r1, UInt8.ofNat (48 + d) :: P, rfl, by first | rfl | exact val_int hqI, by go_num, by omega, hr1l, HR1.out, HP1.out, HS1.out, HZ1.out⟩
                case measure => simp [intOf]; omega
              · have hrp : 0 < r' := by rcases hz2 with h | h; exact absurd h hn3; exact h
                have hn0 : n3 = 0 := by omega
                have hrpi : (0 : Int) < (r' : Int) := by omega
                clear hz2 hn3
                subst hn0
                have hadd := HADD.out
                have hext := HEXT.out
                go_wp2_with fail
                go_round
                case rel => exact ⟨S2, k + 1, r1, UInt8.ofNat (48 + d) :: P, rfl, by first | rfl | exact val_int hqI, by go_num, by omega, hr1l, HR1.out, HP1.out, HS1.out, HZ1.out⟩
                case measure => simp [intOf]; omega
      case rest =>
        obtain ⟨S', s1, rfl, HS', HWX, HDF⟩ := hcut
        have HR4 : Hid (RdM wc (.slice A3 n3 c3) q) := by rw [HWX.out]; exact HR3.out
        have HB4 : Hid (Below w.heap.size w wc) := by rw [HWX.out]; exact HBEL.out.trans (HB3.out.mono HBEL.out.size)
        go_wp2_with fail
        go_roundg q
        case measure => exact HQN.out
        case rel => exact ⟨S', s1, rfl, HS'.out, HR4.out, HB4.out, HDF.out, HLQ.out⟩
end Go.Proofs.YtogccnngdfancaaGreat
