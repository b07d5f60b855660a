/- The walk of BuildNoises. The walk of BuildNoises, all inputs. -/
import Derived.Test.YtodckaioeomccaaGreatPart42
import Derived.Test.YtodckaioeomccaaGreatPart46
namespace Go.Proofs.YtodckaioeomccaaGreat
open Go.RowKit
set_option linter.unusedVariables false
set_option linter.unusedSimpArgs false
theorem own_cells {w : World} {B : Nat} {A : Option Addr} {n cap : Nat} {l : List Int} (h : OwnL w B (.slice A n cap) l) : ∀ k, k < l.length → ∃ b off, A = some ⟨b, off, none⟩ ∧ b < w.heap.size ∧ w.cell? ⟨b, off + k, none⟩ = some (.int .i64 (atL l k)) := by
  obtain ⟨A', cap', e, _, _, _, hc⟩ := h.rd.at_
  injection e with e1 e2 e3
  subst e1
  exact hc
/-- Sequence at few good pitches. -/
theorem seq_ok (v : Value) (l : List Int) (w : World) (h : RdL w v l) (hp : pitchE l = 0) (hl : l.length ≤ 7) :
    Calls Tryz.prog 24 #[v] w fun e w' => (∃ v', e = .returned (.tuple #[patV v' (noiseL (bestA l (arrN l - 1))) (boundL l), .int .i64 0]) ∧ OwnL w' w.heap.size v' (bestA l (arrN l - 1))) ∧ Below w.heap.size w w' := by
  refine (sequence_any v l w h).mono fun e w' hq => ?_
  unfold SeqPost at hq
  rw [if_neg (fun hne => hne hp), if_neg (by have := cntA_seven (atL (sortL l)) l.length hl; omega)] at hq
  exact hq
set_option maxRecDepth 100000 in
set_option maxHeartbeats 4000000 in
theorem noises_main (v : Value) (l : List Int) (t : Int) (w : World) (h : RdL w v l) (ht : 0 ≤ t ∧ t ≤ 255) (hp : pitchE l = 0) (hl : l.length ≤ 7) :
    Calls Tryz.prog 7 #[v, .int .u8 t] w fun e w' => e = .returned (.bool true) ∧ Below w.heap.size w w' := by
  obtain ⟨hl0, h12, hs⟩ := pitch_ok hp
  have HV := Lib.hid h
  have HP1 := Lib.hid (rpitched_any v l w h)
  rw [hp] at HP1
  have HQ : Hid (∀ w', RdL w' v l → Calls Tryz.prog 34 #[v] w' fun e w'' => (∃ v', e = .returned (.tuple #[v', .int .i64 0]) ∧ OwnL w'' w'.heap.size v' (corL l)) ∧ Below w'.heap.size w' w'') := fun w' h' => auto_any v l w' h' hp
  have HN : Hid (∀ w', RdL w' v l → Calls Tryz.prog 35 #[v] w' fun e w'' => e = .returned (.tuple #[.int .i64 (noiseL l), .int .i64 0]) ∧ Below w'.heap.size w' w'') := fun w' h' => noise35_any v l w' h' hp
  have HSQ : Hid (∀ w', RdL w' v l → Calls Tryz.prog 24 #[v] w' fun e w'' => (∃ v', e = .returned (.tuple #[patV v' (noiseL (bestA l (arrN l - 1))) (boundL l), .int .i64 0]) ∧ OwnL w'' w'.heap.size v' (bestA l (arrN l - 1))) ∧ Below w'.heap.size w' w'') := fun w' h' => seq_ok v l w' h' hp hl
  have HTO : Hid (∀ w', RdL w' v l → Calls Tryz.prog 36 #[v] w' fun e w'' => e = .returned (.int .i64 l.sum) ∧ w'' = w') := fun w' h' => total_any v l w' h' h12 hs
  have hpt : pitchE (turnL l t.toNat) = 0 := by
    refine pitch_small ?_ ?_ (small_turn hs _) <;> unfold turnL
    · intro e; have := congrArg List.length e; rw [List.length_map, List.length_range] at this; exact hl0 (List.length_eq_zero_iff.1 this)
    · rw [List.length_map, List.length_range]; exact h12
  have hpb : pitchE (backL l) = 0 := by
    refine pitch_small ?_ ?_ (small_back hs) <;> unfold backL
    · intro e; have := congrArg List.length e; rw [List.length_map, List.length_range] at this; exact hl0 (List.length_eq_zero_iff.1 this)
    · rw [List.length_map, List.length_range]; exact h12
  have HNT : Hid (∀ w' v', RdL w' v' (turnL l t.toNat) → Calls Tryz.prog 35 #[v'] w' fun e w'' => e = .returned (.tuple #[.int .i64 (noiseL l), .int .i64 0]) ∧ Below w'.heap.size w' w'') := fun w' v' h' => by
    have := noise35_any v' _ w' h' hpt; rwa [noise_turnL hl0] at this
  have HNB : Hid (∀ w' v', RdL w' v' (backL l) → Calls Tryz.prog 35 #[v'] w' fun e w'' => e = .returned (.tuple #[.int .i64 (noiseL l), .int .i64 0]) ∧ Below w'.heap.size w' w'') := fun w' v' h' => by
    have := noise35_any v' _ w' h' hpb; rwa [noise_backL] at this
  have hle1 : noiseL (bestA l (arrN l - 1)) ≤ noiseL l := seq_least hs
  have hle2 : boundL l ≤ noiseL (bestA l (arrN l - 1)) := bound_best hl0 hs
  have HBP : Hid ((bestA l (arrN l - 1)).length = l.length) := (best_perm hs (by have := (arr_zero hs).2; omega)).length_eq
  have HCL : Hid ((corL l).length = l.length) := by show _ = _; unfold corL; rw [List.length_map, List.length_range]
  obtain ⟨g, hg⟩ : ∃ g : Nat → Int, g = fun d => Cyc.cor (atL l) l.length d := ⟨_, rfl⟩
  have HGA : Hid (∀ d, d < l.length → atL (corL l) d = g d) := fun d hd => by rw [hg]; exact at_map _ hd
  have HGB : Hid (∀ d, d < l.length → g (l.length - d) = g d) := fun d hd => by rw [hg]; exact Cyc.cor_back (atL l) hd
  have HGP : Hid (∀ d, 0 ≤ g d ∧ g d ≤ 120000) := fun d => by
    rw [hg]
    have := sumN_bound (n := l.length) (g := fun i => atL l i * atL l ((i + d) % l.length)) (c := 10000) fun i hi => by
      have a := hs _ (at_mem hi)
      have b := hs _ (at_mem (l := l) (i := (i + d) % l.length) (Nat.mod_lt _ (by omega)))
      constructor
      · exact Int.mul_nonneg (by omega) (by omega)
      · exact Int.mul_le_mul a.2 b.2 (by omega) (by omega)
    show 0 ≤ Cyc.cor _ _ _ ∧ Cyc.cor _ _ _ ≤ _
    unfold Cyc.cor
    omega
  have HGS : Hid (Cyc.sumN l.length g = l.sum * l.sum) := by rw [hg]; exact cor_sumL hl0
  have hsb := sum_small hs h12 l.length
  rw [List.take_length] at hsb
  have HTK : Hid (∀ k, k < l.length → (turnL l t.toNat).take (k + 1) = (turnL l t.toNat).take k ++ [atL l ((k + t.toNat) % l.length)]) := fun k hk => map_take _ _ _ hk
  have HBK : Hid (∀ k, k < l.length → (backL l).take (k + 1) = (backL l).take k ++ [atL l (l.length - 1 - k)]) := fun k hk => map_take _ _ _ hk
  have HTL : Hid ((turnL l t.toNat).length = l.length) := by show _ = _; unfold turnL; rw [List.length_map, List.length_range]
  have HBL : Hid ((backL l).length = l.length) := by show _ = _; unfold backL; rw [List.length_map, List.length_range]
  obtain ⟨A, cap, rfl, hcap, hmax, hcm, hc⟩ := h.at_
  have HC := Lib.hid hc
  obtain ⟨tn, htn⟩ : ∃ n : Nat, n = t.toNat := ⟨_, rfl⟩
  obtain rfl : t = (tn : Int) := by omega
  rw [← htn] at HNT HTK HTL
  obtain ⟨TL, hTL⟩ : ∃ z, z = turnL l tn := ⟨_, rfl⟩
  obtain ⟨BL, hBL⟩ : ∃ z, z = backL l := ⟨_, rfl⟩
  rw [← hTL] at HNT HTK HTL
  rw [← hBL] at HNB HBK HBL
  obtain ⟨N, hN⟩ : ∃ z, z = noiseL l := ⟨_, rfl⟩
  obtain ⟨BA, hBA⟩ : ∃ z, z = bestA l (arrN l - 1) := ⟨_, rfl⟩
  rw [← hBA] at HSQ hle1 hle2 HBP
  obtain ⟨NB, hNB⟩ : ∃ z, z = noiseL BA := ⟨_, rfl⟩
  obtain ⟨BB, hBB⟩ : ∃ z, z = boundL l := ⟨_, rfl⟩
  obtain ⟨S, hS⟩ : ∃ z, z = l.sum := ⟨_, rfl⟩
  rw [← hN] at HN HNT HNB hle1
  rw [← hNB] at HSQ hle1 hle2
  rw [← hBB] at HSQ hle2
  rw [← hS] at HTO HGS hsb
  obtain ⟨n, hn⟩ : ∃ n, n = l.length := ⟨_, rfl⟩
  have hn0 : 0 < n := by rw [hn]; exact List.length_pos_iff.2 hl0
  rw [← hn] at HV HP1 HQ HN HSQ HTO HBP HCL HGA HGB HGS HTK HBK HTL HBL HC hcap hmax hl ⊢
  have hb7 : ¬ (7 : Int) < (n : Int) := by omega
  clear h hp h12 hs hl0 hpt hpb hc hn htn hTL hBL hN hBA hNB hBB hS hcm hg
  go_enter Tryz.func7, Tryz.ntmps7
  go_wp2_with fail
  refine HP1.out.mono ?_
  rintro e w0 ⟨rfl, hwx⟩
  obtain rfl := hwx.symm
  clear HP1 hwx
  go_wp2_with fail
  refine (HQ.out _ HV.out).mono ?_
  rintro e w1 ⟨⟨va, rfl, ho⟩, hbx⟩
  obtain ⟨Aa, ca, rfl⟩ := ho.slice
  have HOA := Lib.hid ho
  have HB := Lib.hid hbx
  rw [HCL.out] at HOA ⊢
  clear ho hbx HQ
  go_wp2_with fail
  refine (HN.out _ (HV.out.below HB.out)).mono ?_
  rintro e w2 ⟨rfl, hbx⟩
  replace HOA := Lib.hid (HOA.out.stay hbx)
  replace HB := kU HB hbx
  clear hbx HN
  go_wp2_with fail
  refine (HSQ.out _ (HV.out.below HB.out)).mono ?_
  rintro e w3 ⟨⟨vp, rfl, ho⟩, hbx⟩
  obtain ⟨Ap, cp, rfl⟩ := ho.slice
  rw [HBP.out]
  replace HOA := Lib.hid (HOA.out.stay hbx)
  replace HB := kU HB hbx
  clear hbx HSQ ho
  unfold patV
  obtain ⟨W4, HW4, HBX, HSZ4, hbx⟩ := st_al0 w3 #[.slice Ap n cp, .int .i64 NB, .int .i64 BB] 52
  replace HOA := Lib.hid (HOA.out.stay hbx)
  replace HB := kU HB hbx
  clear hbx
  go_wp2_with fail
  rw [← HW4.out]
  refine (HTO.out _ (HV.out.below HB.out)).mono ?_
  rintro e w5 ⟨rfl, hw⟩
  obtain rfl := hw.symm
  clear hw HTO HW4
  obtain ⟨z, hz⟩ : ∃ z, z = S * S := ⟨_, rfl⟩
  rw [← hz] at HGS
  have hzw : IntKind.i64.wrap (S * S) = z := by
    rw [hz]
    refine IntWalk.i64_in _ ?_
    have h1 : 0 ≤ S * S := Int.mul_nonneg (by omega) (by omega)
    have h2 : S * S ≤ 1200 * 1200 := Int.mul_le_mul hsb.2 hsb.2 (by omega) (by omega)
    omega
  have HZW := Lib.hid hzw
  have HSZ := Lib.hid HB.out.size
  clear hzw hz hsb
  go_wp2_with fail
  go_loopw [11, 72] (fun sv iv wr => ∃ (k : Nat) (s : Int), k ≤ n ∧ iv = .int .i64 (k : Int) ∧ sv = .int .i64 s ∧ Hid (s = Cyc.sumN k g) ∧ Hid (OwnL wr w.heap.size (.slice Aa n ca) (corL l)) ∧ Hid (wr.heap[w3.heap.size]? = some (.cells #[.slice Ap n cp, .int .i64 NB, .int .i64 BB] 52 (0, 0))) ∧ Hid (Below w.heap.size w wr)) (fun _ iv _ => n - (intOf iv).toNat)
  case atStart => exact ⟨0, 0, Nat.zero_le _, rfl, rfl, rfl, HOA, HBX, HB⟩
  case round =>
    clear HOA HBX HB
    obtain ⟨k, s, hk, rfl, rfl, HS, HOA, HBX, HB⟩ := hrel
    by_cases hlt : k < n
    · obtain ⟨b, off, rfl, hb, hx⟩ := own_cells HOA.out k (by rw [HCL.out]; exact hlt)
      rw [HGA.out k hlt] at hx
      have hsb := sumN_bound (n := k) (g := g) (c := 120000) fun i hi => HGP.out i
      rw [← HS.out] at hsb
      have hgk := HGP.out k
      obtain ⟨x, hxx⟩ : ∃ x, x = g k := ⟨_, rfl⟩
      obtain ⟨s', hs'⟩ : ∃ s', s' = s + x := ⟨_, rfl⟩
      have HS1 : Hid (s' = Cyc.sumN (k + 1) g) := by show _ = Cyc.sumN k g + g k; rw [hs', HS.out, hxx]
      rw [← hxx] at hx hgk
      have hw1 : IntKind.i64.wrap (s + x) = s' := by rw [hs']; exact IntWalk.i64_in _ (by omega)
      by_cases hk0 : k = 0
      · have hk1 : ¬ (0 : Int) < (k : Int) := by omega
        have hd1 : decide (0 < k) = false := decide_eq_false (by omega)
        have hd2 : decide ((0 : Int) < (k : Int)) = false := decide_eq_false hk1
        clear hb hxx hs' hsb hgk hk0
        go_wp2_with fail
        refine seq_start (S := fun _ => True) (by kernel_rfl) (by kernel_rfl) trivial ?_
        repeat (first
          | (refine seq_take0 (v := ?_) ?_ (fun _ _ _ h => h) (by kernel_rfl) ?_ ?_; rotate_left; (focus rfl); (focus (intro w' hSw; (try dsimp only at hSw); go_simp; (try with_reducible rfl); done)); (try simp only [Act.put, List.setIfInBounds_toArray, List.set_cons_zero, List.set_cons_succ]))
          | (refine seq_takeG (v := ?_) (g := ?_) (d := ?_) (b := ?_) (u := ?_) ?_ ?_ ?_ ?_ (fun _ _ _ h => h) (by kernel_rfl) ?_ ?_; rotate_left 5; (focus rfl); (focus rfl); (focus rfl); (focus (first | rfl | (go_simp; done))); (focus (intro w' hSw; (try dsimp only at hSw); go_simp; (try with_reducible rfl); done)); (try simp only [Act.put, List.setIfInBounds_toArray, List.set_cons_zero, List.set_cons_succ]))
          | (refine seq_skipG (g := ?_) (d := ?_) (b := ?_) (u := ?_) ?_ ?_ ?_ ?_ (fun _ _ _ h => h) (by kernel_rfl) ?_; rotate_left 4; (focus rfl); (focus rfl); (focus rfl); (focus (first | rfl | (go_simp; done))); (try simp only [Act.put, List.setIfInBounds_toArray, List.set_cons_zero, List.set_cons_succ])))
        refine seq_done (by kernel_rfl) ?_
        have hbd : Below wr.heap.size wr wr.drew := (Below.refl _ _).drew
        have HO1 := Lib.hid (HOA.out.stay hbd)
        have HBX1 := kB HBX hbd
        have HB1 := kU HB hbd
        clear hbd hx hd1 hd2
        go_wp2_with fail
        go_roundw
        case rel => exact ⟨k + 1, s', by omega, by go_num, rfl, HS1, HO1, HBX1, HB1⟩
        case measure => simp [intOf]; omega
      · obtain ⟨m, hm⟩ : ∃ m, m = n - k := ⟨_, rfl⟩
        obtain ⟨b', off', e, hb', hy⟩ := own_cells HOA.out m (by rw [HCL.out]; omega)
        simp only [Option.some.injEq, Addr.mk.injEq] at e
        obtain ⟨rfl, rfl, _⟩ := e
        rw [HGA.out m (by omega), hm, HGB.out k hlt, ← hxx, ← hm] at hy
        have hw2 : IntKind.i64.wrap ((n : Int) - (k : Int)) = (m : Int) := by rw [IntWalk.i64_in _ (by omega)]; omega
        have hw3 : IntKind.i64.wrap (m : Int) = (m : Int) := IntWalk.i64_in _ (by omega)
        have hmn : m < n := by omega
        have hk1 : (0 : Int) < (k : Int) := by omega
        have hd1 : decide (0 < k) = true := decide_eq_true (by omega)
        have hd2 : decide ((0 : Int) < (k : Int)) = true := decide_eq_true hk1
        clear hb hb' hxx hs' hsb hgk hm hk0
        go_wp2_with fail
        refine seq_start (S := fun w' => w'.cell? ⟨b, off + k, none⟩ = some (.int .i64 x) ∧ w'.cell? ⟨b, off + m, none⟩ = some (.int .i64 x)) (by kernel_rfl) (by kernel_rfl) (by exact ⟨hx, hy⟩) ?_
        repeat (first
          | (refine seq_take0 (v := ?_) ?_ (fun _ _ _ h => h) (by kernel_rfl) ?_ ?_; rotate_left; (focus rfl); (focus (intro w' hSw; (try dsimp only at hSw); go_simp; (try with_reducible rfl); done)); (try simp only [Act.put, List.setIfInBounds_toArray, List.set_cons_zero, List.set_cons_succ]))
          | (refine seq_takeG (v := ?_) (g := ?_) (d := ?_) (b := ?_) (u := ?_) ?_ ?_ ?_ ?_ (fun _ _ _ h => h) (by kernel_rfl) ?_ ?_; rotate_left 5; (focus rfl); (focus rfl); (focus rfl); (focus (first | rfl | (go_simp; done))); (focus (intro w' hSw; (try dsimp only at hSw); go_simp; (try with_reducible rfl); done)); (try simp only [Act.put, List.setIfInBounds_toArray, List.set_cons_zero, List.set_cons_succ]))
          | (refine seq_skipG (g := ?_) (d := ?_) (b := ?_) (u := ?_) ?_ ?_ ?_ ?_ (fun _ _ _ h => h) (by kernel_rfl) ?_; rotate_left 4; (focus rfl); (focus rfl); (focus rfl); (focus (first | rfl | (go_simp; done))); (try simp only [Act.put, List.setIfInBounds_toArray, List.set_cons_zero, List.set_cons_succ])))
        refine seq_done (by kernel_rfl) ?_
        have hbd : Below wr.heap.size wr wr.drew := (Below.refl _ _).drew
        have HO1 := Lib.hid (HOA.out.stay hbd)
        have HBX1 := kB HBX hbd
        have HB1 := kU HB hbd
        clear hbd hx hy hw2 hw3 hd1 hd2
        go_wp2_with fail
        go_roundw
        case rel => exact ⟨k + 1, s', by omega, by go_num, rfl, HS1, HO1, HBX1, HB1⟩
        case measure => simp [intOf]; omega
    · obtain rfl : n = k := by omega
      obtain rfl : z = s := (HS.out.trans HGS.out).symm
      obtain ⟨wo, rfl⟩ : ∃ wo : World, wo = wr := ⟨_, rfl⟩
      have HT0 : Hid (TwoO w.heap.size (.slice none 0 0) (TL.take 0) (.slice none 0 0) (BL.take 0) (fun k o => k = w3.heap.size ∧ o = .cells #[.slice Ap n cp, .int .i64 NB, .int .i64 BB] 52) w wo) :=
        ⟨OwnL.nil _ _, OwnL.nil _ _, (fun k h => by cases h), (fun k o h => by obtain ⟨rfl, rfl⟩ := h; exact ⟨HBX.out, (fun h => by cases h), (fun h => by cases h)⟩), HB.out, HB.out.size⟩
      clear HS HGS HOA HBX HGA HGB HGP HCL HB
      go_wp2_with fail
      go_loopw [14, 15, 100] (fun va vb iv wr => ∃ (k : Nat), k ≤ n ∧ iv = .int .i64 (k : Int) ∧ Hid (TwoO w.heap.size va (TL.take k) vb (BL.take k) (fun k o => k = w3.heap.size ∧ o = .cells #[.slice Ap n cp, .int .i64 NB, .int .i64 BB] 52) w wr)) (fun _ _ iv _ => n - (intOf iv).toNat)
      case atStart => exact ⟨0, Nat.zero_le _, rfl, HT0⟩
      case round =>
        clear HT0
        obtain ⟨k, hk, rfl, HT⟩ := hrel
        by_cases hlt : k < n
        · obtain ⟨j, hj⟩ : ∃ j, j = (k + tn) % n := ⟨_, rfl⟩
          have hjn : j < n := by rw [hj]; exact Nat.mod_lt _ hn0
          obtain ⟨n1, hn1⟩ : ∃ m, m = n - 1 := ⟨_, rfl⟩
          obtain ⟨m, hm⟩ : ∃ m, m = n - 1 - k := ⟨_, rfl⟩
          have hmn : m < n := by omega
          obtain ⟨b, off, rfl, hb, hx⟩ := HC.out j hjn
          obtain ⟨b', off', e, hb', hy⟩ := HC.out m hmn
          simp only [Option.some.injEq, Addr.mk.injEq] at e
          obtain ⟨rfl, rfl, _⟩ := e
          have HTk := Lib.hid (HTK.out k hlt)
          have HBk := Lib.hid (HBK.out k hlt)
          rw [← hj] at HTk
          rw [← hm] at HBk
          obtain ⟨x, hxx⟩ : ∃ x, x = atL l j := ⟨_, rfl⟩
          obtain ⟨y, hyy⟩ : ∃ y, y = atL l m := ⟨_, rfl⟩
          rw [← hxx] at hx HTk
          rw [← hyy] at hy HBk
          have HSS : Hid (∀ W, Below w.heap.size w W → W.cell? ⟨b, off + j, none⟩ = some (.int .i64 x) ∧ W.cell? ⟨b, off + m, none⟩ = some (.int .i64 y)) :=
            fun W hW => ⟨(hW.cell (p := ⟨b, off + j, none⟩) hb).trans hx, (hW.cell (p := ⟨b, off + m, none⟩) hb).trans hy⟩
          have HLT : Hid ((TL.take k).length ≤ 1000) := by show _ ≤ _; rw [List.length_take, HTL.out]; omega
          have HLB : Hid ((BL.take k).length ≤ 1000) := by show _ ≤ _; rw [List.length_take, HBL.out]; omega
          obtain ⟨q, hq⟩ : ∃ q : Nat, q = k + tn := ⟨_, rfl⟩
          have hw1 : IntKind.i64.wrap ((k : Int) + (tn : Int)) = (q : Int) := by rw [IntWalk.i64_in _ (by omega), hq]; omega
          have hrem : ((q : Int)).tmod (n : Int) = (j : Int) := by rw [hj, ← hq, Int.tmod_eq_emod_of_nonneg (by omega), Int.natCast_emod]
          have hw0 : IntKind.i64.wrap (j : Int) = (j : Int) := IntWalk.i64_in _ (by omega)
          have hwc : IntKind.i64.wrap (tn : Int) = (tn : Int) := IntWalk.i64_in _ (by omega)
          have hnz : ((n : Int) == 0) = false := beq_false_of_ne (by omega)
          have hnz2 : ¬ n = 0 := by omega
          have hw2 : IntKind.i64.wrap ((n : Int) - 1) = (n1 : Int) := by rw [IntWalk.i64_in _ (by omega)]; omega
          have hw3 : IntKind.i64.wrap ((n1 : Int) - (k : Int)) = (m : Int) := by rw [IntWalk.i64_in _ (by omega)]; omega
          have hw4 : IntKind.i64.wrap (m : Int) = (m : Int) := IntWalk.i64_in _ (by omega)
          have HKT : Hid ((TL.take k).length = k) := by show _ = _; rw [List.length_take, HTL.out]; omega
          have HKB : Hid ((BL.take k).length = k) := by show _ = _; rw [List.length_take, HBL.out]; omega
          obtain ⟨A1, c1, e1⟩ := HT.out.a.slice
          obtain ⟨A2, c2, e2⟩ := HT.out.b.slice
          rw [HKT.out] at e1
          rw [HKB.out] at e2
          subst e1 e2
          clear hxx hyy hj hm hn1 hq hb hb' hx hy
          go_wp2_with fail
          obtain ⟨W5, hW5⟩ : ∃ W, W = wr.drew := ⟨_, rfl⟩
          have HT5 : Hid (TwoO w.heap.size (.slice A1 k c1) (TL.take k) (.slice A2 k c2) (BL.take k) _ w W5) := HT.out.grow (by rw [hW5]; exact (Below.refl _ _).drew)
          refine seq_start (S := fun w' => w'.cell? ⟨b, off + j, none⟩ = some (.int .i64 x) ∧ w'.cell? ⟨b, off + m, none⟩ = some (.int .i64 y)) (by kernel_rfl) (by kernel_rfl) (by rw [← hW5]; exact HSS.out _ HT5.out.bel) ?_
          rw [← hW5]
          clear hW5
          repeat (first
            | (refine seq_take0 (v := ?_) ?_ (fun _ _ _ h => h) (by kernel_rfl) ?_ ?_; rotate_left; (focus rfl); (focus (intro w' hSw; (try dsimp only at hSw); go_simp; (try with_reducible rfl); done)); (try simp only [Act.put, List.setIfInBounds_toArray, List.set_cons_zero, List.set_cons_succ]))
            | (refine seq_takeG (v := ?_) (g := ?_) (d := ?_) (b := ?_) (u := ?_) ?_ ?_ ?_ ?_ (fun _ _ _ h => h) (by kernel_rfl) ?_ ?_; rotate_left 5; (focus rfl); (focus rfl); (focus rfl); (focus (first | rfl | (go_simp; done))); (focus (intro w' hSw; (try dsimp only at hSw); go_simp; (try with_reducible rfl); done)); (try simp only [Act.put, List.setIfInBounds_toArray, List.set_cons_zero, List.set_cons_succ]))
            | (refine seq_skipG (g := ?_) (d := ?_) (b := ?_) (u := ?_) ?_ ?_ ?_ ?_ (fun _ _ _ h => h) (by kernel_rfl) ?_; rotate_left 4; (focus rfl); (focus rfl); (focus rfl); (focus (first | rfl | (go_simp; done))); (try simp only [Act.put, List.setIfInBounds_toArray, List.set_cons_zero, List.set_cons_succ])))
          refine seq_pull 2 ?_
          simp only [places, pull]
          (first
            | (refine seq_take0 (v := ?_) ?_ (fun _ _ _ h => h) (by kernel_rfl) ?_ ?_; rotate_left; (focus rfl); (focus (intro w' hSw; (try dsimp only at hSw); go_simp; (try with_reducible rfl); done)); (try simp only [Act.put, List.setIfInBounds_toArray, List.set_cons_zero, List.set_cons_succ]))
            | (refine seq_takeG (v := ?_) (g := ?_) (d := ?_) (b := ?_) (u := ?_) ?_ ?_ ?_ ?_ (fun _ _ _ h => h) (by kernel_rfl) ?_ ?_; rotate_left 5; (focus rfl); (focus rfl); (focus rfl); (focus (first | rfl | (go_simp; done))); (focus (intro w' hSw; (try dsimp only at hSw); go_simp; (try with_reducible rfl); done)); (try simp only [Act.put, List.setIfInBounds_toArray, List.set_cons_zero, List.set_cons_succ]))
            | (refine seq_skipG (g := ?_) (d := ?_) (b := ?_) (u := ?_) ?_ ?_ ?_ ?_ (fun _ _ _ h => h) (by kernel_rfl) ?_; rotate_left 4; (focus rfl); (focus rfl); (focus rfl); (focus (first | rfl | (go_simp; done))); (try simp only [Act.put, List.setIfInBounds_toArray, List.set_cons_zero, List.set_cons_succ])))
          refine seq_pull 2 ?_
          simp only [places, pull]
          (first
            | (refine seq_take0 (v := ?_) ?_ (fun _ _ _ h => h) (by kernel_rfl) ?_ ?_; rotate_left; (focus rfl); (focus (intro w' hSw; (try dsimp only at hSw); go_simp; (try with_reducible rfl); done)); (try simp only [Act.put, List.setIfInBounds_toArray, List.set_cons_zero, List.set_cons_succ]))
            | (refine seq_takeG (v := ?_) (g := ?_) (d := ?_) (b := ?_) (u := ?_) ?_ ?_ ?_ ?_ (fun _ _ _ h => h) (by kernel_rfl) ?_ ?_; rotate_left 5; (focus rfl); (focus rfl); (focus rfl); (focus (first | rfl | (go_simp; done))); (focus (intro w' hSw; (try dsimp only at hSw); go_simp; (try with_reducible rfl); done)); (try simp only [Act.put, List.setIfInBounds_toArray, List.set_cons_zero, List.set_cons_succ]))
            | (refine seq_skipG (g := ?_) (d := ?_) (b := ?_) (u := ?_) ?_ ?_ ?_ ?_ (fun _ _ _ h => h) (by kernel_rfl) ?_; rotate_left 4; (focus rfl); (focus rfl); (focus rfl); (focus (first | rfl | (go_simp; done))); (try simp only [Act.put, List.setIfInBounds_toArray, List.set_cons_zero, List.set_cons_succ])))
          refine seq_pull 2 ?_
          simp only [places, pull]
          (first
            | (refine seq_take0 (v := ?_) ?_ (fun _ _ _ h => h) (by kernel_rfl) ?_ ?_; rotate_left; (focus rfl); (focus (intro w' hSw; (try dsimp only at hSw); go_simp; (try with_reducible rfl); done)); (try simp only [Act.put, List.setIfInBounds_toArray, List.set_cons_zero, List.set_cons_succ]))
            | (refine seq_takeG (v := ?_) (g := ?_) (d := ?_) (b := ?_) (u := ?_) ?_ ?_ ?_ ?_ (fun _ _ _ h => h) (by kernel_rfl) ?_ ?_; rotate_left 5; (focus rfl); (focus rfl); (focus rfl); (focus (first | rfl | (go_simp; done))); (focus (intro w' hSw; (try dsimp only at hSw); go_simp; (try with_reducible rfl); done)); (try simp only [Act.put, List.setIfInBounds_toArray, List.set_cons_zero, List.set_cons_succ]))
            | (refine seq_skipG (g := ?_) (d := ?_) (b := ?_) (u := ?_) ?_ ?_ ?_ ?_ (fun _ _ _ h => h) (by kernel_rfl) ?_; rotate_left 4; (focus rfl); (focus rfl); (focus rfl); (focus (first | rfl | (go_simp; done))); (try simp only [Act.put, List.setIfInBounds_toArray, List.set_cons_zero, List.set_cons_succ])))
          refine seq_pull 2 ?_
          simp only [places, pull]
          (first
            | (refine seq_take0 (v := ?_) ?_ (fun _ _ _ h => h) (by kernel_rfl) ?_ ?_; rotate_left; (focus rfl); (focus (intro w' hSw; (try dsimp only at hSw); go_simp; (try with_reducible rfl); done)); (try simp only [Act.put, List.setIfInBounds_toArray, List.set_cons_zero, List.set_cons_succ]))
            | (refine seq_takeG (v := ?_) (g := ?_) (d := ?_) (b := ?_) (u := ?_) ?_ ?_ ?_ ?_ (fun _ _ _ h => h) (by kernel_rfl) ?_ ?_; rotate_left 5; (focus rfl); (focus rfl); (focus rfl); (focus (first | rfl | (go_simp; done))); (focus (intro w' hSw; (try dsimp only at hSw); go_simp; (try with_reducible rfl); done)); (try simp only [Act.put, List.setIfInBounds_toArray, List.set_cons_zero, List.set_cons_succ]))
            | (refine seq_skipG (g := ?_) (d := ?_) (b := ?_) (u := ?_) ?_ ?_ ?_ ?_ (fun _ _ _ h => h) (by kernel_rfl) ?_; rotate_left 4; (focus rfl); (focus rfl); (focus rfl); (focus (first | rfl | (go_simp; done))); (try simp only [Act.put, List.setIfInBounds_toArray, List.set_cons_zero, List.set_cons_succ])))
          refine seq_pull 2 ?_
          simp only [places, pull]
          (first
            | (refine seq_take0 (v := ?_) ?_ (fun _ _ _ h => h) (by kernel_rfl) ?_ ?_; rotate_left; (focus rfl); (focus (intro w' hSw; (try dsimp only at hSw); go_simp; (try with_reducible rfl); done)); (try simp only [Act.put, List.setIfInBounds_toArray, List.set_cons_zero, List.set_cons_succ]))
            | (refine seq_takeG (v := ?_) (g := ?_) (d := ?_) (b := ?_) (u := ?_) ?_ ?_ ?_ ?_ (fun _ _ _ h => h) (by kernel_rfl) ?_ ?_; rotate_left 5; (focus rfl); (focus rfl); (focus rfl); (focus (first | rfl | (go_simp; done))); (focus (intro w' hSw; (try dsimp only at hSw); go_simp; (try with_reducible rfl); done)); (try simp only [Act.put, List.setIfInBounds_toArray, List.set_cons_zero, List.set_cons_succ]))
            | (refine seq_skipG (g := ?_) (d := ?_) (b := ?_) (u := ?_) ?_ ?_ ?_ ?_ (fun _ _ _ h => h) (by kernel_rfl) ?_; rotate_left 4; (focus rfl); (focus rfl); (focus rfl); (focus (first | rfl | (go_simp; done))); (try simp only [Act.put, List.setIfInBounds_toArray, List.set_cons_zero, List.set_cons_succ])))
          refine seq_pull 2 ?_
          simp only [places, pull]
          (first
            | (refine seq_take0 (v := ?_) ?_ (fun _ _ _ h => h) (by kernel_rfl) ?_ ?_; rotate_left; (focus rfl); (focus (intro w' hSw; (try dsimp only at hSw); go_simp; (try with_reducible rfl); done)); (try simp only [Act.put, List.setIfInBounds_toArray, List.set_cons_zero, List.set_cons_succ]))
            | (refine seq_takeG (v := ?_) (g := ?_) (d := ?_) (b := ?_) (u := ?_) ?_ ?_ ?_ ?_ (fun _ _ _ h => h) (by kernel_rfl) ?_ ?_; rotate_left 5; (focus rfl); (focus rfl); (focus rfl); (focus (first | rfl | (go_simp; done))); (focus (intro w' hSw; (try dsimp only at hSw); go_simp; (try with_reducible rfl); done)); (try simp only [Act.put, List.setIfInBounds_toArray, List.set_cons_zero, List.set_cons_succ]))
            | (refine seq_skipG (g := ?_) (d := ?_) (b := ?_) (u := ?_) ?_ ?_ ?_ ?_ (fun _ _ _ h => h) (by kernel_rfl) ?_; rotate_left 4; (focus rfl); (focus rfl); (focus rfl); (focus (first | rfl | (go_simp; done))); (try simp only [Act.put, List.setIfInBounds_toArray, List.set_cons_zero, List.set_cons_succ])))
          refine seq_pull 2 ?_
          simp only [places, pull]
          (first
            | (refine seq_take0 (v := ?_) ?_ (fun _ _ _ h => h) (by kernel_rfl) ?_ ?_; rotate_left; (focus rfl); (focus (intro w' hSw; (try dsimp only at hSw); go_simp; (try with_reducible rfl); done)); (try simp only [Act.put, List.setIfInBounds_toArray, List.set_cons_zero, List.set_cons_succ]))
            | (refine seq_takeG (v := ?_) (g := ?_) (d := ?_) (b := ?_) (u := ?_) ?_ ?_ ?_ ?_ (fun _ _ _ h => h) (by kernel_rfl) ?_ ?_; rotate_left 5; (focus rfl); (focus rfl); (focus rfl); (focus (first | rfl | (go_simp; done))); (focus (intro w' hSw; (try dsimp only at hSw); go_simp; (try with_reducible rfl); done)); (try simp only [Act.put, List.setIfInBounds_toArray, List.set_cons_zero, List.set_cons_succ]))
            | (refine seq_skipG (g := ?_) (d := ?_) (b := ?_) (u := ?_) ?_ ?_ ?_ ?_ (fun _ _ _ h => h) (by kernel_rfl) ?_; rotate_left 4; (focus rfl); (focus rfl); (focus rfl); (focus (first | rfl | (go_simp; done))); (try simp only [Act.put, List.setIfInBounds_toArray, List.set_cons_zero, List.set_cons_succ])))
          refine seq_pull 2 ?_
          simp only [places, pull]
          (first
            | (refine seq_take0 (v := ?_) ?_ (fun _ _ _ h => h) (by kernel_rfl) ?_ ?_; rotate_left; (focus rfl); (focus (intro w' hSw; (try dsimp only at hSw); go_simp; (try with_reducible rfl); done)); (try simp only [Act.put, List.setIfInBounds_toArray, List.set_cons_zero, List.set_cons_succ]))
            | (refine seq_takeG (v := ?_) (g := ?_) (d := ?_) (b := ?_) (u := ?_) ?_ ?_ ?_ ?_ (fun _ _ _ h => h) (by kernel_rfl) ?_ ?_; rotate_left 5; (focus rfl); (focus rfl); (focus rfl); (focus (first | rfl | (go_simp; done))); (focus (intro w' hSw; (try dsimp only at hSw); go_simp; (try with_reducible rfl); done)); (try simp only [Act.put, List.setIfInBounds_toArray, List.set_cons_zero, List.set_cons_succ]))
            | (refine seq_skipG (g := ?_) (d := ?_) (b := ?_) (u := ?_) ?_ ?_ ?_ ?_ (fun _ _ _ h => h) (by kernel_rfl) ?_; rotate_left 4; (focus rfl); (focus rfl); (focus rfl); (focus (first | rfl | (go_simp; done))); (try simp only [Act.put, List.setIfInBounds_toArray, List.set_cons_zero, List.set_cons_succ])))
          refine seq_pull 2 ?_
          simp only [places, pull]
          (first
            | (refine seq_take0 (v := ?_) ?_ (fun _ _ _ h => h) (by kernel_rfl) ?_ ?_; rotate_left; (focus rfl); (focus (intro w' hSw; (try dsimp only at hSw); go_simp; (try with_reducible rfl); done)); (try simp only [Act.put, List.setIfInBounds_toArray, List.set_cons_zero, List.set_cons_succ]))
            | (refine seq_takeG (v := ?_) (g := ?_) (d := ?_) (b := ?_) (u := ?_) ?_ ?_ ?_ ?_ (fun _ _ _ h => h) (by kernel_rfl) ?_ ?_; rotate_left 5; (focus rfl); (focus rfl); (focus rfl); (focus (first | rfl | (go_simp; done))); (focus (intro w' hSw; (try dsimp only at hSw); go_simp; (try with_reducible rfl); done)); (try simp only [Act.put, List.setIfInBounds_toArray, List.set_cons_zero, List.set_cons_succ]))
            | (refine seq_skipG (g := ?_) (d := ?_) (b := ?_) (u := ?_) ?_ ?_ ?_ ?_ (fun _ _ _ h => h) (by kernel_rfl) ?_; rotate_left 4; (focus rfl); (focus rfl); (focus rfl); (focus (first | rfl | (go_simp; done))); (try simp only [Act.put, List.setIfInBounds_toArray, List.set_cons_zero, List.set_cons_succ])))
          refine seq_pull 2 ?_
          simp only [places, pull]
          refine seq_both ?_ ?_ ?_ ?_ ?_
          · kernel_rfl
          · rfl
          · rfl
          focus
            intro K9 hK9
            go_simp
            have HTa := Lib.hid (HT5.out.lay (.cells #[.int .i64 y] 3))
            refine hK9.out _ _ (by exact HSS.out _ HTa.out.bel) ?_
            clear hK9 K9
            (try simp only [Act.put, List.setIfInBounds_toArray, List.set_cons_zero, List.set_cons_succ])
            refine seq_op (by kernel_rfl) (by rfl) (fun K9 hK9 => ?_)
            go_simp
            have HTb := Lib.hid (HTa.out.lay (.cells #[.int .i64 x] 3))
            refine hK9.out _ _ (by exact HSS.out _ HTb.out.bel) ?_
            clear hK9 K9
            (try simp only [Act.put, List.setIfInBounds_toArray, List.set_cons_zero, List.set_cons_succ])
            refine seq_op (by kernel_rfl) (by rfl) (fun K9 hK9 => ?_)
            refine op_two rfl _ _ rfl (by rfl) (W5.heap.size + 1) x (by rfl) HLT.out (HTb.out) (.inr ⟨by simp, rfl⟩) ?_
            intro v6 w6 hT6 hsl
            obtain ⟨A6, c6, e6⟩ := hsl; rw [HKT.out] at e6; subst e6
            have H6 := Lib.hid hT6
            clear hT6
            refine hK9.out _ _ (by exact HSS.out _ H6.out.bel) ?_
            clear hK9 K9
            (try simp only [Act.put, List.setIfInBounds_toArray, List.set_cons_zero, List.set_cons_succ])
            refine seq_op (by kernel_rfl) (by rfl) (fun K9 hK9 => ?_)
            refine op_two rfl _ _ rfl (by rfl) (W5.heap.size) y (by rfl) HLB.out (H6.out.swap) (.inl (.inr ⟨rfl, rfl⟩)) ?_
            intro v7 w7 hT7 hsl
            obtain ⟨A7, c7, e7⟩ := hsl; rw [HKB.out] at e7; subst e7
            have H7 := Lib.hid hT7
            clear hT7
            refine hK9.out _ _ (by exact HSS.out _ H7.out.bel) ?_
            clear hK9 K9
            (try simp only [Act.put, List.setIfInBounds_toArray, List.set_cons_zero, List.set_cons_succ])
          rotate_left
          focus
            intro K9 hK9
            go_simp
            have HTa := Lib.hid (HT5.out.lay (.cells #[.int .i64 x] 3))
            refine hK9.out _ _ (by exact HSS.out _ HTa.out.bel) ?_
            clear hK9 K9
            (try simp only [Act.put, List.setIfInBounds_toArray, List.set_cons_zero, List.set_cons_succ])
            refine seq_both ?_ ?_ ?_ ?_ ?_
            · kernel_rfl
            · rfl
            · rfl
            focus
              intro K9 hK9
              go_simp
              have HTb := Lib.hid (HTa.out.lay (.cells #[.int .i64 y] 3))
              refine hK9.out _ _ (by exact HSS.out _ HTb.out.bel) ?_
              clear hK9 K9
              (try simp only [Act.put, List.setIfInBounds_toArray, List.set_cons_zero, List.set_cons_succ])
              refine seq_op (by kernel_rfl) (by rfl) (fun K9 hK9 => ?_)
              refine op_two rfl _ _ rfl (by rfl) (W5.heap.size) x (by rfl) HLT.out (HTb.out) (.inl (.inr ⟨rfl, rfl⟩)) ?_
              intro v6 w6 hT6 hsl
              obtain ⟨A6, c6, e6⟩ := hsl; rw [HKT.out] at e6; subst e6
              have H6 := Lib.hid hT6
              clear hT6
              refine hK9.out _ _ (by exact HSS.out _ H6.out.bel) ?_
              clear hK9 K9
              (try simp only [Act.put, List.setIfInBounds_toArray, List.set_cons_zero, List.set_cons_succ])
              refine seq_op (by kernel_rfl) (by rfl) (fun K9 hK9 => ?_)
              refine op_two rfl _ _ rfl (by rfl) (W5.heap.size + 1) y (by rfl) HLB.out (H6.out.swap) (.inr ⟨by simp, rfl⟩) ?_
              intro v7 w7 hT7 hsl
              obtain ⟨A7, c7, e7⟩ := hsl; rw [HKB.out] at e7; subst e7
              have H7 := Lib.hid hT7
              clear hT7
              refine hK9.out _ _ (by exact HSS.out _ H7.out.bel) ?_
              clear hK9 K9
              (try simp only [Act.put, List.setIfInBounds_toArray, List.set_cons_zero, List.set_cons_succ])
            rotate_left
            focus
              intro K9 hK9
              refine op_two rfl _ _ rfl (by rfl) (W5.heap.size) x (by rfl) HLT.out (HTa.out) (.inr ⟨rfl, rfl⟩) ?_
              intro v6 w6 hT6 hsl
              obtain ⟨A6, c6, e6⟩ := hsl; rw [HKT.out] at e6; subst e6
              have H6 := Lib.hid hT6
              clear hT6
              refine hK9.out _ _ (by exact HSS.out _ H6.out.bel) ?_
              clear hK9 K9
              (try simp only [Act.put, List.setIfInBounds_toArray, List.set_cons_zero, List.set_cons_succ])
              refine seq_op (by kernel_rfl) (by rfl) (fun K9 hK9 => ?_)
              go_simp
              have HTb := Lib.hid (H6.out.lay (.cells #[.int .i64 y] 3))
              refine hK9.out _ _ (by exact HSS.out _ HTb.out.bel) ?_
              clear hK9 K9
              (try simp only [Act.put, List.setIfInBounds_toArray, List.set_cons_zero, List.set_cons_succ])
              refine seq_op (by kernel_rfl) (by rfl) (fun K9 hK9 => ?_)
              refine op_two rfl _ _ rfl (by rfl) (w6.heap.size) y (by rfl) HLB.out (HTb.out.swap) (.inr ⟨rfl, rfl⟩) ?_
              intro v7 w7 hT7 hsl
              obtain ⟨A7, c7, e7⟩ := hsl; rw [HKB.out] at e7; subst e7
              have H7 := Lib.hid hT7
              clear hT7
              refine hK9.out _ _ (by exact HSS.out _ H7.out.bel) ?_
              clear hK9 K9
              (try simp only [Act.put, List.setIfInBounds_toArray, List.set_cons_zero, List.set_cons_succ])
          all_goals
            repeat (first
              | (refine seq_take0 (v := ?_) ?_ (fun _ _ _ h => h) (by kernel_rfl) ?_ ?_; rotate_left; (focus rfl); (focus (intro w' hSw; (try dsimp only at hSw); go_simp; (try with_reducible rfl); done)); (try simp only [Act.put, List.setIfInBounds_toArray, List.set_cons_zero, List.set_cons_succ]))
              | (refine seq_takeG (v := ?_) (g := ?_) (d := ?_) (b := ?_) (u := ?_) ?_ ?_ ?_ ?_ (fun _ _ _ h => h) (by kernel_rfl) ?_ ?_; rotate_left 5; (focus rfl); (focus rfl); (focus rfl); (focus (first | rfl | (go_simp; done))); (focus (intro w' hSw; (try dsimp only at hSw); go_simp; (try with_reducible rfl); done)); (try simp only [Act.put, List.setIfInBounds_toArray, List.set_cons_zero, List.set_cons_succ]))
              | (refine seq_skipG (g := ?_) (d := ?_) (b := ?_) (u := ?_) ?_ ?_ ?_ ?_ (fun _ _ _ h => h) (by kernel_rfl) ?_; rotate_left 4; (focus rfl); (focus rfl); (focus rfl); (focus (first | rfl | (go_simp; done))); (try simp only [Act.put, List.setIfInBounds_toArray, List.set_cons_zero, List.set_cons_succ])))
            refine seq_done (by kernel_rfl) ?_
            have HT9 := Lib.hid (H7.out.swap.strike (P' := fun k o => k = w3.heap.size ∧ o = .cells #[.slice Ap n cp, .int .i64 NB, .int .i64 BB] 52) (fun _ _ h => .inl (.inl h)))
            rw [← HTk.out, ← HBk.out] at HT9
            clear H7 H6 HTb HT5 HT
            clear hw1 hrem hw0 hwc hnz hnz2 hw2 hw3 hw4
            go_wp2_with fail
            go_roundw
            case rel => exact ⟨k + 1, by omega, by go_num, HT9⟩
            case measure => simp [intOf]; omega
        · obtain rfl : n = k := by omega
          have h1 := HT.out.a
          have h2 := HT.out.b
          have h3 := (HT.out.pr w3.heap.size _ ⟨rfl, rfl⟩).1
          rw [List.take_of_length_le (by rw [HTL.out]; omega)] at h1
          rw [List.take_of_length_le (by rw [HBL.out]; omega)] at h2
          obtain ⟨A1, c1, rfl⟩ := h1.slice
          obtain ⟨A2, c2, rfl⟩ := h2.slice
          have HR1 := Lib.hid h1
          have HR2 := Lib.hid h2
          have HBX := Lib.hid h3
          have HB := Lib.hid HT.out.bel
          clear h1 h2 h3 HT HTK HBK
          go_wp2_with fail
          refine (HNT.out _ _ HR1.out.rd).mono ?_
          rintro e w6 ⟨rfl, hbx⟩
          replace HR2 := Lib.hid (HR2.out.stay hbx)
          replace HBX := kB HBX hbx
          replace HB := kU HB hbx
          clear hbx HR1 HNT
          go_wp2_with fail
          refine (HNB.out _ _ HR2.out.rd).mono ?_
          rintro e w7 ⟨rfl, hbx⟩
          replace HBX := kB HBX hbx
          replace HB := kU HB hbx
          clear hbx HR2 HNB
          have c1 := blk_cell HBX.out 1
          have c2 := blk_cell HBX.out 2
          have hzw := HZW.out
          have hle1' : NB ≤ N := hle1
          have hle2' : BB ≤ NB := hle2
          go_wp2_with fail
          clear c1 c2
          refine (awake_any _).mono ?_
          rintro e w8 ⟨rfl, hbx⟩
          replace HB := kU HB hbx
          clear hbx
          go_wp2_with fail
          go_ret
          exact ⟨rfl, HB.out⟩
end Go.Proofs.YtodckaioeomccaaGreat
namespace Go.Proofs.YtodckaioeomccaaGreat
open Go.RowKit
set_option linter.unusedVariables false
set_option linter.unusedSimpArgs false
set_option maxRecDepth 100000 in
set_option maxHeartbeats 2000000 in
theorem buildNoises_any (v : Value) (l : List Int) (t : Int) (w : World) (h : RdL w v l) (ht : 0 ≤ t ∧ t ≤ 255) :
    Calls Tryz.prog 7 #[v, .int .u8 t] w fun e w' => e = .returned (.bool true) ∧ Below w.heap.size w w' := by
  by_cases h7 : l.length ≤ 7
  · by_cases hp : pitchE l = 0
    · exact noises_main v l t w h ht hp h7
    · have HP1 := Lib.hid (rpitched_any v l w h)
      obtain ⟨p, hpp⟩ : ∃ p, p = pitchE l := ⟨_, rfl⟩
      rw [← hpp] at HP1 hp
      obtain ⟨A, cap, rfl, hcap, hmax, hcm, hc⟩ := h.at_
      obtain ⟨n, hn⟩ : ∃ n, n = l.length := ⟨_, rfl⟩
      rw [← hn] at HP1 hcap hmax h7 ⊢
      have hb7 : ¬ (7 : Int) < (n : Int) := by omega
      have hpb : (p == 0) = false := beq_false_of_ne hp
      clear h hc hn hcm hpp
      go_enter Tryz.func7, Tryz.ntmps7
      go_wp2_with fail
      refine HP1.out.mono ?_
      rintro e w0 ⟨rfl, hwx⟩
      obtain rfl := hwx.symm
      clear HP1 hwx
      go_wp2_with fail
      refine (awake_any _).mono ?_
      rintro e w1 ⟨rfl, hbx⟩
      have HB := Lib.hid hbx
      clear hbx
      go_wp2_with fail
      go_ret
      exact ⟨rfl, HB.out⟩
  · obtain ⟨A, cap, rfl, hcap, hmax, hcm, hc⟩ := h.at_
    obtain ⟨n, hn⟩ : ∃ n, n = l.length := ⟨_, rfl⟩
    rw [← hn] at hcap hmax h7 ⊢
    have hb7 : (7 : Int) < (n : Int) := by omega
    clear h hc hn hcm
    go_enter Tryz.func7, Tryz.ntmps7
    go_wp2_with fail
    refine (awake_any _).mono ?_
    rintro e w1 ⟨rfl, hbx⟩
    have HB := Lib.hid hbx
    clear hbx
    go_wp2_with fail
    go_ret
    exact ⟨rfl, HB.out⟩
end Go.Proofs.YtodckaioeomccaaGreat
