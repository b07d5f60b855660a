/- The walks of small and gcd. -/
import Derived.Test.YtogccnngdfancaaGreatPart21
import Derived.Deep.LoopGhost
namespace Go.Proofs.YtogccnngdfancaaGreat
open Go.RowKit
set_option linter.unusedVariables false
set_option linter.unusedSimpArgs false
theorem gcd_step (a b : Nat) : Nat.gcd a b = Nat.gcd b (a % b) := by rw [Nat.gcd_comm a b, Nat.gcd_rec b a, Nat.gcd_comm]
set_option maxRecDepth 100000 in
set_option maxHeartbeats 4000000 in
theorem small_any (va vb : Value) (m n : Nat) (w : World) (hP : RdN w va m) (hQ : RdN w vb n) (hm : dl m ≤ 1) (hn : dl n ≤ 1) (hn0 : n ≠ 0) :
    Calls Tryz.prog 111 #[va, vb] w fun e w' => e = .returned (.int .u64 ((Nat.gcd m n : Nat) : Int)) ∧ Below w.heap.size w w' := by
  obtain ⟨A1, k1, c1, rfl, e1, hk1, _, hm1, hc1⟩ := RdW.open_ hP
  obtain ⟨A2, k2, c2, rfl, e2, hk2, _, hm2, hc2⟩ := RdW.open_ hQ
  have hnB : n < B64 := by have := (dl_le_iff n 1).1 hn; rwa [Nat.pow_one] at this
  have hmB : m < B64 := by have := (dl_le_iff m 1).1 hm; rwa [Nat.pow_one] at this
  rw [digs_small B64_2 hn0 hnB] at e2 hc2
  obtain rfl : k2 = 1 := by simpa using e2.symm
  obtain ⟨b2, f2, y, rfl, hb2, hy, hcy⟩ := hc2 0 (by omega)
  obtain rfl : n = y := by simpa using hy
  obtain ⟨G, hG⟩ : ∃ G, G = Nat.gcd m n := ⟨_, rfl⟩
  rw [← hG]
  have HG := Lib.hid hG
  have HNB := Lib.hid hnB
  have HMB := Lib.hid hmB
  rw [Nat.add_zero] at hcy
  have fin : Hid (∀ x y : Nat, y < x → True) := fun _ _ _ => trivial
  by_cases hm0 : m = 0
  · rw [hm0, digs_zero] at e1
    obtain rfl : k1 = 0 := by simpa using e1.symm
    have HM0 := Lib.hid hm0
    clear hP hQ hm hn e1 hc1 e2 hc2 hy hG hm0 hnB hmB hn0
    go_enter Tryz.func111, Tryz.ntmps111
    go_wp2_with fail
    go_loopw [5, 6] (fun xv yv wr => ∃ x y : Nat, xv = .int .u64 (x : Int) ∧ yv = .int .u64 (y : Int) ∧ Hid (Nat.gcd x y = G) ∧ Hid (x < B64) ∧ Hid (y < B64) ∧ Hid (Below w.heap.size w wr)) (fun _ yv _ => (intOf yv).toNat)
    case atStart => exact ⟨0, n, rfl, rfl, by show _ = _; rw [HG.out, HM0.out], by show _ < _; unfold B64; omega, HNB.out, Below.refl _ _⟩
    case round =>
      obtain ⟨x, y, rfl, rfl, HGC, HX, HY, HBEL⟩ := hrel
      by_cases hy0 : y = 0
      · have HXG : Hid (x = G) := by show _ = _; rw [← HGC.out, hy0, Nat.gcd_zero_right]
        subst hy0
        go_wp2_with fail
        go_ret
        exact ⟨by rw [← HXG.out]; rfl, HBEL.out⟩
      · have hyp : (0 : Int) < (y : Int) := by omega
        have hyz : ((y : Int)) ≠ 0 := by omega
        have hyb : ((y : Int) == 0) = false := by simp; omega
        obtain ⟨r, hr⟩ : ∃ r, r = x % y := ⟨_, rfl⟩
        have hdr : ((x : Int).tmod (y : Int)) = (r : Int) := by rw [Int.tmod_eq_emod_of_nonneg (by omega), ← Int.natCast_emod, ← hr]
        have hdr2 : ((x : Int) % (y : Int)) = (r : Int) := by rw [← Int.natCast_emod, ← hr]
        have HGR : Hid (Nat.gcd y r = G) := by show _ = _; rw [hr, ← gcd_step]; exact HGC.out
        have HRY : Hid (r < y) := by show _ < _; rw [hr]; exact Nat.mod_lt _ (by omega)
        clear hr
        go_wp2_with fail
        refine seq_start (S := fun _ => True) (by kernel_rfl) (by kernel_rfl) trivial ?_
        repeat (first
          | (refine seq_take0 (v := ?_) ?_ (fun _ _ _ h => h) (by kernel_rfl) ?_ ?_; rotate_left; (focus rfl); (focus (intro w' hSw; (try dsimp only at hSw); go_simp; (try with_reducible rfl); done)); (try simp only [Act.put, List.setIfInBounds_toArray, List.set_cons_zero, List.set_cons_succ]))
          | (refine seq_takeG (v := ?_) (g := ?_) (d := ?_) (b := ?_) (u := ?_) ?_ ?_ ?_ ?_ (fun _ _ _ h => h) (by kernel_rfl) ?_ ?_; rotate_left 5; (focus rfl); (focus rfl); (focus rfl); (focus (first | rfl | (go_simp; done))); (focus (intro w' hSw; (try dsimp only at hSw); go_simp; (try with_reducible rfl); done)); (try simp only [Act.put, List.setIfInBounds_toArray, List.set_cons_zero, List.set_cons_succ]))
          | (refine seq_skipG (g := ?_) (d := ?_) (b := ?_) (u := ?_) ?_ ?_ ?_ ?_ (fun _ _ _ h => h) (by kernel_rfl) ?_; rotate_left 4; (focus rfl); (focus rfl); (focus rfl); (focus (first | rfl | (go_simp; done))); (try simp only [Act.put, List.setIfInBounds_toArray, List.set_cons_zero, List.set_cons_succ])))
        refine seq_done (by kernel_rfl) ?_
        go_wp2_with fail
        go_roundw
        case rel => exact ⟨y, r, rfl, rfl, HGR.out, HY.out, by have := HRY.out; have := HY.out; show _ < _; omega, HBEL.out.drew⟩
        case measure => have := HRY.out; simp [intOf]; omega
  · rw [digs_small B64_2 hm0 hmB] at e1 hc1
    obtain rfl : k1 = 1 := by simpa using e1.symm
    obtain ⟨b1, f1, x, rfl, hb1, hx, hcx⟩ := hc1 0 (by omega)
    obtain rfl : m = x := by simpa using hx
    rw [Nat.add_zero] at hcx
    clear hP hQ hm hn e1 hc1 e2 hc2 hy hG hm0 hnB hmB hn0 hx
    go_enter Tryz.func111, Tryz.ntmps111
    go_wp2_with fail
    go_loopw [5, 6] (fun xv yv wr => ∃ x y : Nat, xv = .int .u64 (x : Int) ∧ yv = .int .u64 (y : Int) ∧ Hid (Nat.gcd x y = G) ∧ Hid (x < B64) ∧ Hid (y < B64) ∧ Hid (Below w.heap.size w wr)) (fun _ yv _ => (intOf yv).toNat)
    case atStart => exact ⟨m, n, rfl, rfl, HG.out.symm, HMB.out, HNB.out, Below.refl _ _⟩
    case round =>
      obtain ⟨x, y, rfl, rfl, HGC, HX, HY, HBEL⟩ := hrel
      by_cases hy0 : y = 0
      · have HXG : Hid (x = G) := by show _ = _; rw [← HGC.out, hy0, Nat.gcd_zero_right]
        subst hy0
        go_wp2_with fail
        go_ret
        exact ⟨by rw [← HXG.out]; rfl, HBEL.out⟩
      · have hyp : (0 : Int) < (y : Int) := by omega
        have hyz : ((y : Int)) ≠ 0 := by omega
        have hyb : ((y : Int) == 0) = false := by simp; omega
        obtain ⟨r, hr⟩ : ∃ r, r = x % y := ⟨_, rfl⟩
        have hdr : ((x : Int).tmod (y : Int)) = (r : Int) := by rw [Int.tmod_eq_emod_of_nonneg (by omega), ← Int.natCast_emod, ← hr]
        have hdr2 : ((x : Int) % (y : Int)) = (r : Int) := by rw [← Int.natCast_emod, ← hr]
        have HGR : Hid (Nat.gcd y r = G) := by show _ = _; rw [hr, ← gcd_step]; exact HGC.out
        have HRY : Hid (r < y) := by show _ < _; rw [hr]; exact Nat.mod_lt _ (by omega)
        clear hr
        go_wp2_with fail
        refine seq_start (S := fun _ => True) (by kernel_rfl) (by kernel_rfl) trivial ?_
        repeat (first
          | (refine seq_take0 (v := ?_) ?_ (fun _ _ _ h => h) (by kernel_rfl) ?_ ?_; rotate_left; (focus rfl); (focus (intro w' hSw; (try dsimp only at hSw); go_simp; (try with_reducible rfl); done)); (try simp only [Act.put, List.setIfInBounds_toArray, List.set_cons_zero, List.set_cons_succ]))
          | (refine seq_takeG (v := ?_) (g := ?_) (d := ?_) (b := ?_) (u := ?_) ?_ ?_ ?_ ?_ (fun _ _ _ h => h) (by kernel_rfl) ?_ ?_; rotate_left 5; (focus rfl); (focus rfl); (focus rfl); (focus (first | rfl | (go_simp; done))); (focus (intro w' hSw; (try dsimp only at hSw); go_simp; (try with_reducible rfl); done)); (try simp only [Act.put, List.setIfInBounds_toArray, List.set_cons_zero, List.set_cons_succ]))
          | (refine seq_skipG (g := ?_) (d := ?_) (b := ?_) (u := ?_) ?_ ?_ ?_ ?_ (fun _ _ _ h => h) (by kernel_rfl) ?_; rotate_left 4; (focus rfl); (focus rfl); (focus rfl); (focus (first | rfl | (go_simp; done))); (try simp only [Act.put, List.setIfInBounds_toArray, List.set_cons_zero, List.set_cons_succ])))
        refine seq_done (by kernel_rfl) ?_
        go_wp2_with fail
        go_roundw
        case rel => exact ⟨y, r, rfl, rfl, HGR.out, HY.out, by have := HRY.out; have := HY.out; show _ < _; omega, HBEL.out.drew⟩
        case measure => have := HRY.out; simp [intOf]; omega
set_option maxRecDepth 100000 in
set_option maxHeartbeats 4000000 in
theorem gcd_any (va vb : Value) (m n : Nat) (w : World) (hP : RdN w va m) (hQ : RdN w vb n) (hm6 : dl m ≤ 900000) (hn6 : dl n ≤ 900000) :
    Calls Tryz.prog 84 #[va, vb] w fun e w' => (∃ v', e = .returned v' ∧ RdN w' v' (Nat.gcd m n)) ∧ Below w.heap.size w w' := by
  obtain ⟨G, hG⟩ : ∃ G, G = Nat.gcd m n := ⟨_, rfl⟩
  rw [← hG]
  have HG := Lib.hid hG
  have HP := Lib.hid hP
  have HQ := Lib.hid hQ
  have HM6 := Lib.hid hm6
  have HN6 := Lib.hid hn6
  clear hG hP hQ hm6 hn6
  go_enter Tryz.func84, Tryz.ntmps84
  go_wp2_with fail
  go_loopg [0, 1] n (fun b va vb wr => ∃ a : Nat, Hid (RdN wr va a) ∧ Hid (RdN wr vb b) ∧ Hid (Nat.gcd a b = G) ∧ Hid (dl a ≤ 900000) ∧ Hid (dl b ≤ 900000) ∧ Hid (Below w.heap.size w wr))
  case atStart => exact ⟨m, HP.out, HQ.out, HG.out.symm, HM6.out, HN6.out, Below.refl _ _⟩
  case round =>
    obtain ⟨a, HA, HBn, HGC, HA6, HB6, HBEL⟩ := hrel
    obtain ⟨A1, k1, c1, rfl, e1, hk1, _, hm1, _⟩ := RdW.open_ HA.out
    obtain ⟨A2, k2, c2, rfl, e2, hk2, _, hm2, _⟩ := RdW.open_ HBn.out
    by_cases hb0 : gk = 0
    · have HAG : Hid (a = G) := by show _ = _; rw [← HGC.out, hb0, Nat.gcd_zero_right]
      rw [hb0, digs_zero] at e2
      obtain rfl : k2 = 0 := by simpa using e2.symm
      clear e1 e2 hb0
      go_wp2_with fail
      go_ret
      exact ⟨⟨_, rfl, by rw [← HAG.out]; exact HA.out⟩, HBEL.out⟩
    · have hk2p : 0 < k2 := by have := dl_pos hb0; unfold dl at this; omega
      have HG1 : Hid (Nat.gcd gk (a % gk) = G) := by show _ = _; rw [← gcd_step]; exact HGC.out
      have HB0 := Lib.hid hb0
      have hk1a : dl a = k1 := e1
      have hk2a : dl gk = k2 := e2
      have HK1 := Lib.hid hk1a
      have HK2 := Lib.hid hk2a
      have HDIV := Lib.hid (divide_any _ _ a gk wr HA.out HBn.out hb0 HA6.out HB6.out)
      by_cases h11 : k1 ≤ 1 ∧ k2 ≤ 1
      · have HSM := Lib.hid (small_any _ _ a gk wr HA.out HBn.out (by omega) (by omega) hb0)
        have HGB : Hid (Nat.gcd a gk < B64) := by
          show _ < _
          have h1 := (dl_le_iff gk 1).1 (by omega)
          rw [Nat.pow_one] at h1
          exact Nat.lt_of_le_of_lt (Nat.gcd_le_right a (by omega)) h1
        have HW := Lib.hid (fun w' => word_any (Nat.gcd a gk) w' HGB.out)
        rw [HGC.out] at HSM HW
        obtain ⟨h1, h2⟩ := h11
        clear e1 e2 hb0 hk1a hk2a
        go_wp2_with (first | (go_at_call 111; refine HSM.out.mono ?_; rintro e w2 ⟨rfl, hb2⟩; have HB2 := Lib.hid hb2; clear hb2) | (go_at_call 83; refine (HW.out _).mono ?_; rintro e w3 ⟨⟨v3, rfl, hr3⟩, hb3⟩; have HR3 := Lib.hid hr3; have HB3 := Lib.hid hb3; clear hr3 hb3))
        go_ret
        exact ⟨⟨_, rfl, HR3.out⟩, HBEL.out.trans ((HB2.out.mono HBEL.out.size).trans (HB3.out.mono (Nat.le_trans HBEL.out.size HB2.out.size)))⟩
      · have hnext : ∀ e w', DivPost wr a gk e w' → Hid (∃ v1 v2, e = .returned (.tuple #[v1, v2]) ∧ RdN w' v2 (a % gk) ∧ Below wr.heap.size wr w') := fun e w' ⟨v1, v2, h1, _, h3, h4⟩ => ⟨v1, v2, h1, h3, h4⟩
        have HNX := Lib.hid hnext
        have HM6 : Hid (dl (a % gk) ≤ 900000) := by
          show _ ≤ _
          have := dl_mono (Nat.le_of_lt (Nat.mod_lt a (Nat.pos_of_ne_zero hb0)))
          have := HB6.out
          omega
        have HML : Hid (a % gk < gk) := Nat.mod_lt a (Nat.pos_of_ne_zero hb0)
        clear e1 e2 hb0 hk1a hk2a hnext
        by_cases h1 : k1 ≤ 1
        all_goals
          have h1b := h1
          have h2b : k1 ≤ 1 → ¬ k2 ≤ 1 := fun h h' => h11 ⟨h, h'⟩
          clear h11
          first
            | (have h2c : ¬ k2 ≤ 1 := h2b h1
               clear h2b)
            | clear h2b
          go_wp2_with (go_at_call 86; refine HDIV.out.mono ?_; intro e w2 hd; have hd2 := HNX.out _ _ hd; clear hd; obtain ⟨v1, v2, rfl, hd3, hd4⟩ := hd2.out; have HD3 := Lib.hid hd3; have HD4 := Lib.hid hd4; clear hd2 hd3 hd4)
          go_roundg (a % gk)
          case measure => exact HML.out
          case rel => exact ⟨gk, HBn.out.below HD4.out, HD3.out, HG1.out, HB6.out, HM6.out, HBEL.out.trans (HD4.out.mono HBEL.out.size)⟩
end Go.Proofs.YtogccnngdfancaaGreat
