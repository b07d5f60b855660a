/- Walk of the reference's ahead. -/
import Derived.Test.YtogccnngdfancaaGreatPart05
namespace Go.Proofs.YtogccnngdfancaaGreat
open Go.RowKit
set_option linter.unusedVariables false
set_option linter.unusedSimpArgs false
def ahdS (l : List JobD) (i : Nat) (best : Int) (k : Nat) : Int := if (jobAt l k).press = (jobAt l i).press ∧ (jobAt l k).start < (jobAt l i).start ∧ (best < 0 ∨ (jobAt l best).start < (jobAt l k).start) then (k : Int) else best
/-- The job of the same press that starts last before a job, among the first ones. -/
def ahdN (l : List JobD) (i : Nat) : Nat → Int
  | 0 => -1
  | n + 1 => ahdS l i (ahdN l i n) n
theorem ahdN_bd (l : List JobD) (i : Nat) : ∀ n : Nat, -1 ≤ ahdN l i n ∧ ahdN l i n < n
  | 0 => ⟨Int.le_refl _, by simp [ahdN]⟩
  | n + 1 => by
    have := ahdN_bd l i n
    simp only [ahdN, ahdS]
    split <;> omega
set_option maxRecDepth 100000 in
set_option maxHeartbeats 4000000 in
theorem ahead_any (vl : Value) (l : List JobD) (i : Nat) (T : Nat → Prop) (w : World) (hl : RdK 3 jobC w T vl l) (hi : i < l.length) (hll : l.length ≤ 1000) :
    Calls Tryz.prog 31 #[vl, .int .i64 (i : Int)] w fun e w' => e = .returned (.int .i64 (ahdN l i l.length)) ∧ Below w.heap.size w w' := by
  obtain ⟨A, n, cap, rfl, hn, hcap, hmax, hcc⟩ := (hl.lt jobC_0).open_
  rw [hn] at hi hll ⊢
  have HC : Hid (∀ k, k < n → ∃ x, l[k]? = some x ∧ ∀ b off, A = some ⟨b, off, none⟩ → b < w.heap.size ∧ w.cell? ⟨b, off + k * 3, none⟩ = some (.int .i64 x.press) ∧ w.cell? ⟨b, off + k * 3 + 2, none⟩ = some (.int .i64 x.start)) := fun k hk => by
    obtain ⟨b, off, x, hA, ⟨_, hb⟩, hx, hcell⟩ := hcc k hk
    refine ⟨x, hx, fun b' off' hA' => ?_⟩
    rw [hA] at hA'
    simp only [Option.some.injEq, Addr.mk.injEq] at hA'
    obtain ⟨rfl, rfl, _⟩ := hA'
    exact ⟨hb, hcell 0 _ rfl, hcell 2 _ rfl⟩
  obtain ⟨b, off, xi, rfl, ⟨_, hbl⟩, hxi, hci⟩ := hcc i hi
  have hci0 := hci 0 _ rfl
  have hci2 := hci 2 _ rfl
  have HI : Hid (∀ w', Below w.heap.size w w' → w'.cell? ⟨b, off + i * 3, none⟩ = some (.int .i64 xi.press) ∧ w'.cell? ⟨b, off + i * 3 + 2, none⟩ = some (.int .i64 xi.start)) := fun w' hb => ⟨(hb.cell (p := ⟨b, _, none⟩) hbl).trans hci0, (hb.cell (p := ⟨b, _, none⟩) hbl).trans hci2⟩
  have HXI := Lib.hid (jobAt_of hxi)
  have hii : (i : Int) < (n : Int) := by omega
  have hi0 : (0 : Int) ≤ (i : Int) := by omega
  obtain ⟨ip, ik, is⟩ := xi
  clear hn hcc hl hxi hci hci0 hci2
  go_enter Tryz.func31, Tryz.ntmps31
  go_wp2_with fail
  go_loopw [5, 6] (fun bv kv wr => ∃ (k : Nat), k ≤ n ∧ bv = .int .i64 (ahdN l i k) ∧ kv = .int .i64 (k : Int) ∧ Below w.heap.size w wr) (fun _ kv _ => n - (intOf kv).toNat)
  case atStart => exact ⟨0, Nat.zero_le _, rfl, rfl, Below.refl _ _⟩
  case round =>
    obtain ⟨k, hk, rfl, rfl, hbel⟩ := hrel
    have HBEL := Lib.hid hbel
    clear hbel
    obtain ⟨bs, hbs⟩ : ∃ x, x = ahdN l i k := ⟨_, rfl⟩
    have hbd := ahdN_bd l i k
    have HST : Hid (ahdN l i (k + 1) = ahdS l i bs k) := by show _ = _; rw [hbs]; rfl
    rw [← hbs] at hbd ⊢
    have HBS := Lib.hid hbs
    obtain ⟨hbd1, hbd2⟩ := hbd
    clear hbs
    by_cases hlt : k < n
    · obtain ⟨x, hx, hcx⟩ := HC.out k hlt
      obtain ⟨hbl', hck0, hck2⟩ := hcx b off rfl
      have hkI : (k : Int) < (n : Int) := by omega
      have hk0 : (0 : Int) ≤ (k : Int) := by omega
      have HXK := Lib.hid (jobAt_of hx)
      have HK : Hid (∀ w', Below w.heap.size w w' → w'.cell? ⟨b, off + k * 3, none⟩ = some (.int .i64 x.press) ∧ w'.cell? ⟨b, off + k * 3 + 2, none⟩ = some (.int .i64 x.start)) := fun w' hb => ⟨(hb.cell (p := ⟨b, _, none⟩) hbl).trans hck0, (hb.cell (p := ⟨b, _, none⟩) hbl).trans hck2⟩
      obtain ⟨kp, kk, ks⟩ := x
      clear hx hcx hck0 hck2 hbl'
      by_cases c1 : kp = ip
      · have c1b : (kp == ip) = true := by simpa using c1
        by_cases c2 : ks < is
        · have c2b : decide (ks < is) = true := decide_eq_true c2
          by_cases c3 : bs < 0
          · have c3b : decide (bs < 0) = true := decide_eq_true c3
            have HR : Hid (ahdN l i (k + 1) = (k : Int)) := by show _ = _; rw [HST.out]; unfold ahdS; rw [HXK.out, HXI.out]; exact if_pos ⟨c1, c2, .inl c3⟩
            have C1 := Lib.hid c1
            clear c1 HST
            go_wp2_with fail
            refine seq_start (S := fun w' => w'.cell? ⟨b, off + k * 3, none⟩ = some (.int .i64 kp) ∧ w'.cell? ⟨b, off + k * 3 + 2, none⟩ = some (.int .i64 ks) ∧ w'.cell? ⟨b, off + i * 3, none⟩ = some (.int .i64 ip) ∧ w'.cell? ⟨b, off + i * 3 + 2, none⟩ = some (.int .i64 is)) (by kernel_rfl) (by kernel_rfl) (by exact ⟨(HK.out _ HBEL.out.drew).1, (HK.out _ HBEL.out.drew).2, (HI.out _ HBEL.out.drew).1, (HI.out _ HBEL.out.drew).2⟩) ?_
            repeat (first
              | (refine seq_take0 (v := ?_) ?_ (fun _ _ _ h => h) (by kernel_rfl) ?_ ?_; rotate_left; (focus rfl); (focus (intro w' hSw; (try dsimp only at hSw); go_simp; (try with_reducible rfl); done)); (try simp only [Act.put, List.setIfInBounds_toArray, List.set_cons_zero, List.set_cons_succ]))
              | (refine seq_takeG (v := ?_) (g := ?_) (d := ?_) (b := ?_) (u := ?_) ?_ ?_ ?_ ?_ (fun _ _ _ h => h) (by kernel_rfl) ?_ ?_; rotate_left 5; (focus rfl); (focus rfl); (focus rfl); (focus (first | rfl | (go_simp; done))); (focus (intro w' hSw; (try dsimp only at hSw); go_simp; (try with_reducible rfl); done)); (try simp only [Act.put, List.setIfInBounds_toArray, List.set_cons_zero, List.set_cons_succ]))
              | (refine seq_skipG (g := ?_) (d := ?_) (b := ?_) (u := ?_) ?_ ?_ ?_ ?_ (fun _ _ _ h => h) (by kernel_rfl) ?_; rotate_left 4; (focus rfl); (focus rfl); (focus rfl); (focus (first | rfl | (go_simp; done))); (try simp only [Act.put, List.setIfInBounds_toArray, List.set_cons_zero, List.set_cons_succ])))
            refine seq_done (by kernel_rfl) ?_
            go_wp2_with fail
            go_roundw
            case rel => exact ⟨k + 1, by omega, by rw [HR.out], by go_num, HBEL.out.drew⟩
            case measure => simp [intOf]; omega
          · have c3b : decide (bs < 0) = false := decide_eq_false c3
            obtain ⟨m, rfl⟩ : ∃ m : Nat, bs = (m : Int) := ⟨bs.toNat, by omega⟩
            obtain ⟨y, hy, hcy⟩ := HC.out m (by omega)
            obtain ⟨_, _, hcm2⟩ := hcy b off rfl
            have HXM := Lib.hid (jobAt_of hy)
            have HM : Hid (∀ w', Below w.heap.size w w' → w'.cell? ⟨b, off + m * 3 + 2, none⟩ = some (.int .i64 y.start)) := fun w' hb => (hb.cell (p := ⟨b, _, none⟩) hbl).trans hcm2
            have hmI : (m : Int) < (n : Int) := by omega
            have hm0 : (0 : Int) ≤ (m : Int) := by omega
            obtain ⟨mp, mk, ms⟩ := y
            clear hy hcy hcm2
            by_cases c4 : ms < ks
            · have c4b : decide (ms < ks) = true := decide_eq_true c4
              have HR : Hid (ahdN l i (k + 1) = (k : Int)) := by show _ = _; rw [HST.out]; unfold ahdS; rw [HXK.out, HXI.out]; rw [HXM.out]; exact if_pos ⟨c1, c2, .inr c4⟩
              have C1 := Lib.hid c1
              clear c1 HST
              go_wp2_with fail
              refine seq_start (S := fun w' => w'.cell? ⟨b, off + k * 3, none⟩ = some (.int .i64 kp) ∧ w'.cell? ⟨b, off + k * 3 + 2, none⟩ = some (.int .i64 ks) ∧ w'.cell? ⟨b, off + i * 3, none⟩ = some (.int .i64 ip) ∧ w'.cell? ⟨b, off + i * 3 + 2, none⟩ = some (.int .i64 is) ∧ w'.cell? ⟨b, off + m * 3 + 2, none⟩ = some (.int .i64 ms)) (by kernel_rfl) (by kernel_rfl) (by exact ⟨(HK.out _ HBEL.out.drew).1, (HK.out _ HBEL.out.drew).2, (HI.out _ HBEL.out.drew).1, (HI.out _ HBEL.out.drew).2, HM.out _ HBEL.out.drew⟩) ?_
              repeat (first
                | (refine seq_take0 (v := ?_) ?_ (fun _ _ _ h => h) (by kernel_rfl) ?_ ?_; rotate_left; (focus rfl); (focus (intro w' hSw; (try dsimp only at hSw); go_simp; (try with_reducible rfl); done)); (try simp only [Act.put, List.setIfInBounds_toArray, List.set_cons_zero, List.set_cons_succ]))
                | (refine seq_takeG (v := ?_) (g := ?_) (d := ?_) (b := ?_) (u := ?_) ?_ ?_ ?_ ?_ (fun _ _ _ h => h) (by kernel_rfl) ?_ ?_; rotate_left 5; (focus rfl); (focus rfl); (focus rfl); (focus (first | rfl | (go_simp; done))); (focus (intro w' hSw; (try dsimp only at hSw); go_simp; (try with_reducible rfl); done)); (try simp only [Act.put, List.setIfInBounds_toArray, List.set_cons_zero, List.set_cons_succ]))
                | (refine seq_skipG (g := ?_) (d := ?_) (b := ?_) (u := ?_) ?_ ?_ ?_ ?_ (fun _ _ _ h => h) (by kernel_rfl) ?_; rotate_left 4; (focus rfl); (focus rfl); (focus rfl); (focus (first | rfl | (go_simp; done))); (try simp only [Act.put, List.setIfInBounds_toArray, List.set_cons_zero, List.set_cons_succ])))
              refine seq_done (by kernel_rfl) ?_
              go_wp2_with fail
              go_roundw
              case rel => exact ⟨k + 1, by omega, by rw [HR.out], by go_num, HBEL.out.drew⟩
              case measure => simp [intOf]; omega
            · have c4b : decide (ms < ks) = false := decide_eq_false c4
              have HR : Hid (ahdN l i (k + 1) = (m : Int)) := by show _ = _; rw [HST.out]; unfold ahdS; rw [HXK.out, HXI.out]; rw [HXM.out]; exact if_neg (fun h => h.2.2.elim (fun h => by omega) c4)
              have C1 := Lib.hid c1
              clear c1 HST
              go_wp2_with fail
              refine seq_start (S := fun w' => w'.cell? ⟨b, off + k * 3, none⟩ = some (.int .i64 kp) ∧ w'.cell? ⟨b, off + k * 3 + 2, none⟩ = some (.int .i64 ks) ∧ w'.cell? ⟨b, off + i * 3, none⟩ = some (.int .i64 ip) ∧ w'.cell? ⟨b, off + i * 3 + 2, none⟩ = some (.int .i64 is) ∧ w'.cell? ⟨b, off + m * 3 + 2, none⟩ = some (.int .i64 ms)) (by kernel_rfl) (by kernel_rfl) (by exact ⟨(HK.out _ HBEL.out.drew).1, (HK.out _ HBEL.out.drew).2, (HI.out _ HBEL.out.drew).1, (HI.out _ HBEL.out.drew).2, HM.out _ HBEL.out.drew⟩) ?_
              repeat (first
                | (refine seq_take0 (v := ?_) ?_ (fun _ _ _ h => h) (by kernel_rfl) ?_ ?_; rotate_left; (focus rfl); (focus (intro w' hSw; (try dsimp only at hSw); go_simp; (try with_reducible rfl); done)); (try simp only [Act.put, List.setIfInBounds_toArray, List.set_cons_zero, List.set_cons_succ]))
                | (refine seq_takeG (v := ?_) (g := ?_) (d := ?_) (b := ?_) (u := ?_) ?_ ?_ ?_ ?_ (fun _ _ _ h => h) (by kernel_rfl) ?_ ?_; rotate_left 5; (focus rfl); (focus rfl); (focus rfl); (focus (first | rfl | (go_simp; done))); (focus (intro w' hSw; (try dsimp only at hSw); go_simp; (try with_reducible rfl); done)); (try simp only [Act.put, List.setIfInBounds_toArray, List.set_cons_zero, List.set_cons_succ]))
                | (refine seq_skipG (g := ?_) (d := ?_) (b := ?_) (u := ?_) ?_ ?_ ?_ ?_ (fun _ _ _ h => h) (by kernel_rfl) ?_; rotate_left 4; (focus rfl); (focus rfl); (focus rfl); (focus (first | rfl | (go_simp; done))); (try simp only [Act.put, List.setIfInBounds_toArray, List.set_cons_zero, List.set_cons_succ])))
              refine seq_done (by kernel_rfl) ?_
              go_wp2_with fail
              go_roundw
              case rel => exact ⟨k + 1, by omega, by rw [HR.out], by go_num, HBEL.out.drew⟩
              case measure => simp [intOf]; omega
        · have c2b : decide (ks < is) = false := decide_eq_false c2
          have HR : Hid (ahdN l i (k + 1) = bs) := by show _ = _; rw [HST.out]; unfold ahdS; rw [HXK.out, HXI.out]; exact if_neg (fun h => c2 h.2.1)
          have C1 := Lib.hid c1
          clear c1 HST
          go_wp2_with fail
          refine seq_start (S := fun w' => w'.cell? ⟨b, off + k * 3, none⟩ = some (.int .i64 kp) ∧ w'.cell? ⟨b, off + k * 3 + 2, none⟩ = some (.int .i64 ks) ∧ w'.cell? ⟨b, off + i * 3, none⟩ = some (.int .i64 ip) ∧ w'.cell? ⟨b, off + i * 3 + 2, none⟩ = some (.int .i64 is)) (by kernel_rfl) (by kernel_rfl) (by exact ⟨(HK.out _ HBEL.out.drew).1, (HK.out _ HBEL.out.drew).2, (HI.out _ HBEL.out.drew).1, (HI.out _ HBEL.out.drew).2⟩) ?_
          repeat (first
            | (refine seq_take0 (v := ?_) ?_ (fun _ _ _ h => h) (by kernel_rfl) ?_ ?_; rotate_left; (focus rfl); (focus (intro w' hSw; (try dsimp only at hSw); go_simp; (try with_reducible rfl); done)); (try simp only [Act.put, List.setIfInBounds_toArray, List.set_cons_zero, List.set_cons_succ]))
            | (refine seq_takeG (v := ?_) (g := ?_) (d := ?_) (b := ?_) (u := ?_) ?_ ?_ ?_ ?_ (fun _ _ _ h => h) (by kernel_rfl) ?_ ?_; rotate_left 5; (focus rfl); (focus rfl); (focus rfl); (focus (first | rfl | (go_simp; done))); (focus (intro w' hSw; (try dsimp only at hSw); go_simp; (try with_reducible rfl); done)); (try simp only [Act.put, List.setIfInBounds_toArray, List.set_cons_zero, List.set_cons_succ]))
            | (refine seq_skipG (g := ?_) (d := ?_) (b := ?_) (u := ?_) ?_ ?_ ?_ ?_ (fun _ _ _ h => h) (by kernel_rfl) ?_; rotate_left 4; (focus rfl); (focus rfl); (focus rfl); (focus (first | rfl | (go_simp; done))); (try simp only [Act.put, List.setIfInBounds_toArray, List.set_cons_zero, List.set_cons_succ])))
          refine seq_done (by kernel_rfl) ?_
          go_wp2_with fail
          go_roundw
          case rel => exact ⟨k + 1, by omega, by rw [HR.out], by go_num, HBEL.out.drew⟩
          case measure => simp [intOf]; omega
      · have c1b : (kp == ip) = false := by simpa using c1
        have HR : Hid (ahdN l i (k + 1) = bs) := by show _ = _; rw [HST.out]; unfold ahdS; rw [HXK.out, HXI.out]; exact if_neg (fun h => c1 h.1)
        have C1 := Lib.hid c1
        clear c1 HST
        go_wp2_with fail
        refine seq_start (S := fun w' => w'.cell? ⟨b, off + k * 3, none⟩ = some (.int .i64 kp) ∧ w'.cell? ⟨b, off + k * 3 + 2, none⟩ = some (.int .i64 ks) ∧ w'.cell? ⟨b, off + i * 3, none⟩ = some (.int .i64 ip) ∧ w'.cell? ⟨b, off + i * 3 + 2, none⟩ = some (.int .i64 is)) (by kernel_rfl) (by kernel_rfl) (by exact ⟨(HK.out _ HBEL.out.drew).1, (HK.out _ HBEL.out.drew).2, (HI.out _ HBEL.out.drew).1, (HI.out _ HBEL.out.drew).2⟩) ?_
        repeat (first
          | (refine seq_take0 (v := ?_) ?_ (fun _ _ _ h => h) (by kernel_rfl) ?_ ?_; rotate_left; (focus rfl); (focus (intro w' hSw; (try dsimp only at hSw); go_simp; (try with_reducible rfl); done)); (try simp only [Act.put, List.setIfInBounds_toArray, List.set_cons_zero, List.set_cons_succ]))
          | (refine seq_takeG (v := ?_) (g := ?_) (d := ?_) (b := ?_) (u := ?_) ?_ ?_ ?_ ?_ (fun _ _ _ h => h) (by kernel_rfl) ?_ ?_; rotate_left 5; (focus rfl); (focus rfl); (focus rfl); (focus (first | rfl | (go_simp; done))); (focus (intro w' hSw; (try dsimp only at hSw); go_simp; (try with_reducible rfl); done)); (try simp only [Act.put, List.setIfInBounds_toArray, List.set_cons_zero, List.set_cons_succ]))
          | (refine seq_skipG (g := ?_) (d := ?_) (b := ?_) (u := ?_) ?_ ?_ ?_ ?_ (fun _ _ _ h => h) (by kernel_rfl) ?_; rotate_left 4; (focus rfl); (focus rfl); (focus rfl); (focus (first | rfl | (go_simp; done))); (try simp only [Act.put, List.setIfInBounds_toArray, List.set_cons_zero, List.set_cons_succ])))
        refine seq_done (by kernel_rfl) ?_
        go_wp2_with fail
        go_roundw
        case rel => exact ⟨k + 1, by omega, by rw [HR.out], by go_num, HBEL.out.drew⟩
        case measure => simp [intOf]; omega
    · have hke : k = n := by omega
      have hkI : ¬ (k : Int) < (n : Int) := by omega
      have HF : Hid (bs = ahdN l i n) := by show _ = _; rw [HBS.out, hke]
      clear hke
      go_wp2_with fail
      go_ret
      exact ⟨by rw [HF.out]; rfl, HBEL.out⟩
end Go.Proofs.YtogccnngdfancaaGreat
