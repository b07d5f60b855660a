/- Walks of the reference's natural numbers: Order, Sum, Difference. Walks of the reference's natural numbers: Difference, byWord. -/
import Derived.Test.YtogccnngdfancaaGreatPart25
namespace Go.Proofs.YtogccnngdfancaaGreat
open Go.RowKit
set_option linter.unusedVariables false
set_option linter.unusedSimpArgs false
set_option maxRecDepth 100000 in
set_option maxHeartbeats 2000000 in
theorem rorder_any (va vb : Value) (m n : Nat) (w : World) (ha : RdM w va m) (hb : RdM w vb n) :
    Calls Tryz.prog 66 #[va, vb] w fun e w' => e = .returned (.int .i64 (cmpN m n)) ∧ Below w.heap.size w w' := by
  obtain ⟨A1, k1, c1, rfl, e1, _, _, _, hc1⟩ := RdV.open_ ha
  obtain ⟨A2, k2, c2, rfl, e2, _, _, _, hc2⟩ := RdV.open_ hb
  obtain ⟨r, hr⟩ : ∃ r, r = cmpN m n := ⟨_, rfl⟩
  rw [← hr]
  have HR := Lib.hid hr
  have HC1 := Lib.hid hc1
  have HC2 := Lib.hid hc2
  have hlt1 := digs_lt B32_2 m
  have hlt2 := digs_lt B32_2 n
  have E1 := Lib.hid e1
  have E2 := Lib.hid e2
  have HLT1 := Lib.hid hlt1
  have HLT2 := Lib.hid hlt2
  clear ha hb hc1 hc2 hr hlt1 hlt2 e1 e2
  by_cases hk : k1 = k2
  · subst hk
    go_enter Tryz.func66, Tryz.ntmps66
    go_wp2_with fail
    go_loopw [5] (fun iv wr => ∃ k : Nat, k ≤ k1 ∧ iv = .int .i64 ((k : Int) - 1) ∧ Hid ((digs B32 m).drop k = (digs B32 n).drop k) ∧ Below w.heap.size w wr) (fun iv _ => (intOf iv + 1).toNat)
    case atStart => exact ⟨k1, Nat.le_refl _, rfl, by show _ = _; rw [List.drop_of_length_le (by rw [E1.out]; exact Nat.le_refl _), List.drop_of_length_le (by rw [E2.out]; exact Nat.le_refl _)], Below.refl _ _⟩
    case round =>
      obtain ⟨k, hk, rfl, HD, hbel⟩ := hrel
      have HBEL := Lib.hid hbel
      clear hbel
      by_cases hk0 : k = 0
      · have hneg : ¬ ((k : Int) - 1 ≥ 0) := by omega
        have HQ : Hid (r = 0) := by
          show _ = _; rw [HR.out]
          refine cmpN_eq (digs_inj B32_2 ?_)
          have := HD.out
          rw [hk0, List.drop_zero, List.drop_zero] at this
          exact this
        clear hk0
        go_wp2_with fail
        go_ret
        exact ⟨by rw [HQ.out]; rfl, HBEL.out⟩
      · obtain ⟨j, rfl⟩ : ∃ j, k = j + 1 := ⟨k - 1, by omega⟩
        have hj : (((j + 1 : Nat) : Int) - 1) = (j : Int) := by omega
        rw [hj]
        obtain ⟨b1, f1, x, rfl, hl1, hx, hcx⟩ := HC1.out j (by omega)
        obtain ⟨b2, f2, y, rfl, hl2, hy, hcy⟩ := HC2.out j (by omega)
        have hxB := HLT1.out x (List.mem_of_getElem? hx)
        have hyB := HLT2.out y (List.mem_of_getElem? hy)
        have hji : (j : Int) < (k1 : Int) := by omega
        have hj0 : (0 : Int) ≤ (j : Int) := by omega
        have HCL : Hid (∀ w', Below w.heap.size w w' → w'.cell? ⟨b1, f1 + j, none⟩ = some (.int .u32 (x : Int)) ∧ w'.cell? ⟨b2, f2 + j, none⟩ = some (.int .u32 (y : Int))) := fun w' h =>
          ⟨(h.cell (p := ⟨b1, _, none⟩) hl1).trans hcx, (h.cell (p := ⟨b2, _, none⟩) hl2).trans hcy⟩
        have HBD : Hid (Below w.heap.size w wr.drew) := HBEL.out.drew
        have HBD2 : Hid (Below w.heap.size w wr.drew.drew) := HBEL.out.drew.drew
        have HLS : Hid (x < y → r = -1) := fun h => by
          rw [HR.out]
          refine cmpN_lt ?_
          rw [← val_digs B32_2 m, ← val_digs B32_2 n]
          exact val_le_of B32_2 (by rw [E1.out, E2.out]) hx hy HLT1.out HD.out h
        have HGT : Hid (y < x → r = 1) := fun h => by
          rw [HR.out]
          refine cmpN_gt ?_
          rw [← val_digs B32_2 m, ← val_digs B32_2 n]
          exact val_le_of B32_2 (by rw [E1.out, E2.out]) hy hx HLT2.out HD.out.symm h
        have HEQ : Hid (x = y → (digs B32 m).drop j = (digs B32 n).drop j) := fun h => by
          subst h
          obtain ⟨h1, h2⟩ := List.getElem?_eq_some_iff.1 hx
          obtain ⟨h3, h4⟩ := List.getElem?_eq_some_iff.1 hy
          rw [List.drop_eq_getElem_cons h1, List.drop_eq_getElem_cons h3, HD.out, h2, h4]
        clear hx hy hcx hcy hj hk0 hxB hyB
        rcases Nat.lt_trichotomy x y with h | h | h
        · have hb1 : decide (x < y) = true := decide_eq_true h
          have HQ := Lib.hid (HLS.out h)
          clear h
          go_wp2_with fail
          refine seq_start (S := fun w' => w'.cell? ⟨b1, f1 + j, none⟩ = some (.int .u32 (x : Int)) ∧ w'.cell? ⟨b2, f2 + j, none⟩ = some (.int .u32 (y : Int))) (by kernel_rfl) (by kernel_rfl) (by exact HCL.out _ HBD.out) ?_
          repeat (first
            | (refine seq_take0 (v := ?_) ?_ (fun _ _ _ h => h) (by kernel_rfl) ?_ ?_; rotate_left; (focus rfl); (focus (intro w' hSw; (try dsimp only at hSw); go_simp; (try with_reducible rfl); done)); (try simp only [Act.put, List.setIfInBounds_toArray, List.set_cons_zero, List.set_cons_succ])))
          refine seq_done (by kernel_rfl) ?_
          go_wp2_with fail
          go_ret
          exact ⟨by rw [HQ.out]; rfl, HBD.out⟩
        · have hb1 : decide (x < y) = false := decide_eq_false (by omega)
          have hb2 : decide (y < x) = false := decide_eq_false (by omega)
          have HQ := Lib.hid (HEQ.out h)
          clear h
          go_wp2_with fail
          refine seq_start (S := fun w' => w'.cell? ⟨b1, f1 + j, none⟩ = some (.int .u32 (x : Int)) ∧ w'.cell? ⟨b2, f2 + j, none⟩ = some (.int .u32 (y : Int))) (by kernel_rfl) (by kernel_rfl) (by exact HCL.out _ HBD.out) ?_
          repeat (first
            | (refine seq_take0 (v := ?_) ?_ (fun _ _ _ h => h) (by kernel_rfl) ?_ ?_; rotate_left; (focus rfl); (focus (intro w' hSw; (try dsimp only at hSw); go_simp; (try with_reducible rfl); done)); (try simp only [Act.put, List.setIfInBounds_toArray, List.set_cons_zero, List.set_cons_succ])))
          refine seq_done (by kernel_rfl) ?_
          go_wp2_with fail
          refine seq_start (S := fun w' => w'.cell? ⟨b1, f1 + j, none⟩ = some (.int .u32 (x : Int)) ∧ w'.cell? ⟨b2, f2 + j, none⟩ = some (.int .u32 (y : Int))) (by kernel_rfl) (by kernel_rfl) (by exact HCL.out _ HBD2.out) ?_
          repeat (first
            | (refine seq_take0 (v := ?_) ?_ (fun _ _ _ h => h) (by kernel_rfl) ?_ ?_; rotate_left; (focus rfl); (focus (intro w' hSw; (try dsimp only at hSw); go_simp; (try with_reducible rfl); done)); (try simp only [Act.put, List.setIfInBounds_toArray, List.set_cons_zero, List.set_cons_succ])))
          refine seq_done (by kernel_rfl) ?_
          go_wp2_with fail
          go_roundw
          case rel => exact ⟨j, by omega, rfl, HQ.out, HBD2.out⟩
          case measure => simp [intOf]
        · have hb1 : decide (x < y) = false := decide_eq_false (by omega)
          have hb2 : decide (y < x) = true := decide_eq_true h
          have HQ := Lib.hid (HGT.out h)
          clear h
          go_wp2_with fail
          refine seq_start (S := fun w' => w'.cell? ⟨b1, f1 + j, none⟩ = some (.int .u32 (x : Int)) ∧ w'.cell? ⟨b2, f2 + j, none⟩ = some (.int .u32 (y : Int))) (by kernel_rfl) (by kernel_rfl) (by exact HCL.out _ HBD.out) ?_
          repeat (first
            | (refine seq_take0 (v := ?_) ?_ (fun _ _ _ h => h) (by kernel_rfl) ?_ ?_; rotate_left; (focus rfl); (focus (intro w' hSw; (try dsimp only at hSw); go_simp; (try with_reducible rfl); done)); (try simp only [Act.put, List.setIfInBounds_toArray, List.set_cons_zero, List.set_cons_succ])))
          refine seq_done (by kernel_rfl) ?_
          go_wp2_with fail
          refine seq_start (S := fun w' => w'.cell? ⟨b1, f1 + j, none⟩ = some (.int .u32 (x : Int)) ∧ w'.cell? ⟨b2, f2 + j, none⟩ = some (.int .u32 (y : Int))) (by kernel_rfl) (by kernel_rfl) (by exact HCL.out _ HBD2.out) ?_
          repeat (first
            | (refine seq_take0 (v := ?_) ?_ (fun _ _ _ h => h) (by kernel_rfl) ?_ ?_; rotate_left; (focus rfl); (focus (intro w' hSw; (try dsimp only at hSw); go_simp; (try with_reducible rfl); done)); (try simp only [Act.put, List.setIfInBounds_toArray, List.set_cons_zero, List.set_cons_succ])))
          refine seq_done (by kernel_rfl) ?_
          go_wp2_with fail
          go_ret
          exact ⟨by rw [HQ.out]; rfl, HBD2.out⟩
  · by_cases hlt : k1 < k2
    · have hki : (k1 : Int) < (k2 : Int) := by omega
      have HQ : Hid (r = -1) := by show _ = _; rw [HR.out]; exact cmpN_lt (len_lt_val B32_2 (by rw [E1.out, E2.out]; exact hlt))
      clear hk
      go_enter Tryz.func66, Tryz.ntmps66
      go_wp2_with fail
      go_ret
      exact ⟨by rw [HQ.out]; rfl, Below.refl _ _⟩
    · have hki : ¬ ((k1 : Int) < (k2 : Int)) := by omega
      have HQ : Hid (r = 1) := by show _ = _; rw [HR.out]; exact cmpN_gt (len_lt_val B32_2 (by rw [E1.out, E2.out]; omega))
      have hgt : k2 < k1 := by omega
      clear hk
      go_enter Tryz.func66, Tryz.ntmps66
      go_wp2_with fail
      go_ret
      exact ⟨by rw [HQ.out]; rfl, Below.refl _ _⟩

theorem info119 : (Tryz.prog.info? 119).map (fun i => (i.zero, i.size, i.bytes)) = some (some (.int .u32 0), 1, 4) := by kernel_rfl
/-- An owned row of half words. -/
def OwnV (w : World) (B : Nat) (v : Value) (xs : List Nat) : Prop := w.ownsRow B 119 1 v xs.length (xs.map u32V)
theorem OwnV.rd {w : World} {B : Nat} {v : Value} {xs : List Nat} (h : OwnV w B v xs) : RdV w v xs := (Rd.of_own (f := u32V) (xs := xs) h).mono fun _ _ => trivial
theorem OwnV.rdS {w : World} {B : Nat} {v : Value} {xs : List Nat} (h : OwnV w B v xs) : Rd u32V w (B ≤ ·) v xs := Rd.of_own (f := u32V) (xs := xs) h
theorem OwnV.made (w : World) : OwnV (w.alloc (.cells #[] 119)) w.heap.size (.slice (some ⟨w.heap.size, 0, none⟩) 0 0) [] := World.ownsRow_made w #[] 0 (Nat.le_refl _) (by decide) rfl
theorem OwnV.slice {w : World} {B : Nat} {v : Value} {xs : List Nat} (h : OwnV w B v xs) : ∃ A c, v = .slice A xs.length c := ownsRow_slice h
theorem getD_lt32 (n k : Nat) : (digs B32 n).getD k 0 < B32 := by
  by_cases h : k < (digs B32 n).length
  · have e := List.getElem?_eq_getElem h
    rw [getD_of e]; exact digs_lt B32_2 n _ (List.getElem_mem h)
  · rw [List.getD_eq_getElem?_getD, List.getElem?_eq_none (by omega)]; unfold B32; simp
theorem rsum_step {O am bn : List Nat} {k c B : Nat} (hk : O.length = k) (hB : 0 < B)
    (h : val B O + c * B ^ k = val B (am.take k) + val B (bn.take k)) :
    val B (O ++ [(c + am.getD k 0 + bn.getD k 0) % B]) + ((c + am.getD k 0 + bn.getD k 0) / B) * B ^ (k + 1) = val B (am.take (k + 1)) + val B (bn.take (k + 1)) := by
  obtain ⟨s, hs⟩ : ∃ s, s = c + am.getD k 0 + bn.getD k 0 := ⟨_, rfl⟩
  rw [← hs, val_append, val_one, val_take_getD B am, val_take_getD B bn, hk, Nat.pow_succ]
  have e := Nat.div_add_mod s B
  have e2 : B ^ k * (s % B) + s / B * (B ^ k * B) = s * B ^ k := by
    conv => rhs; rw [← e, Nat.add_mul, Nat.mul_comm (s % B)]
    rw [Nat.add_comm, Nat.mul_comm (B ^ k) B, ← Nat.mul_assoc, Nat.mul_comm (s / B) B]
  have e3 : s * B ^ k = c * B ^ k + am.getD k 0 * B ^ k + bn.getD k 0 * B ^ k := by rw [hs, Nat.add_mul, Nat.add_mul]
  omega
set_option maxRecDepth 100000 in
set_option maxHeartbeats 8000000 in
theorem rsum_any (va vb : Value) (m n : Nat) (w : World) (ha : RdM w va m) (hb : RdM w vb n) (hm : dm m ≤ 2000000) (hn : dm n ≤ 2000000) :
    Calls Tryz.prog 65 #[va, vb] w fun e w' => (∃ v', e = .returned v' ∧ RdM w' v' (m + n)) ∧ Below w.heap.size w w' := by
  obtain ⟨i0, hi0, hz0, hz1, hz2⟩ := info_parts info119
  obtain ⟨A1, k1, c1, rfl, e1, hk1, _, hm1, hc1⟩ := RdV.open_ ha
  obtain ⟨A2, k2, c2, rfl, e2, hk2, _, hm2, hc2⟩ := RdV.open_ hb
  have hk16 : k1 ≤ 2000000 := by unfold dm at hm; omega
  have hk26 : k2 ≤ 2000000 := by unfold dm at hn; omega
  have HE1 := Lib.hid e1
  have HE2 := Lib.hid e2
  have HC1 := Lib.hid hc1
  have HC2 := Lib.hid hc2
  clear ha hb hm hn e1 e2 hc1 hc2
  go_enter Tryz.func65, Tryz.ntmps65
  go_wp2_with fail
  go_loopw [5, 6, 7] (fun ov cv iv wr => ∃ (k c : Nat) (O : List Nat), (k ≤ k1 ∨ k ≤ k2) ∧ c ≤ 1 ∧ cv = .int .u64 (c : Int) ∧ iv = .int .i64 (k : Int) ∧ Hid (O.length = k) ∧ Hid (∀ x ∈ O, x < B32) ∧ Hid (OwnV wr w.heap.size ov O) ∧ Hid (Below w.heap.size w wr) ∧ Hid (val B32 O + c * B32 ^ k = val B32 ((digs B32 m).take k) + val B32 ((digs B32 n).take k))) (fun _ _ iv _ => max k1 k2 - (intOf iv).toNat)
  case atStart => exact ⟨0, 0, [], .inl (Nat.zero_le _), Nat.zero_le _, rfl, rfl, rfl, (by show ∀ x ∈ ([] : List Nat), x < B32; intro x hx; cases hx), OwnV.made w, (Below.refl _ w).alloc (Nat.le_refl _) _, rfl⟩
  case round =>
    obtain ⟨k, c, O, hk, hc, rfl, rfl, HOL, HOX, HOW, HBEL, HV⟩ := hrel
    obtain ⟨A5, c5, rfl⟩ := HOW.out.slice
    rw [HOL.out]
    by_cases hlk : k < k1 ∨ k < k2
    · have hst := rsum_step (B := B32) (am := digs B32 m) (bn := digs B32 n) HOL.out (by unfold B32; omega) HV.out
      obtain ⟨x, hx⟩ : ∃ x, x = (digs B32 m).getD k 0 := ⟨_, rfl⟩
      obtain ⟨y, hy⟩ : ∃ y, y = (digs B32 n).getD k 0 := ⟨_, rfl⟩
      have hxB : x < B32 := by rw [hx]; exact getD_lt32 m k
      have hyB : y < B32 := by rw [hy]; exact getD_lt32 n k
      rw [← hx, ← hy] at hst
      obtain ⟨s, hs⟩ : ∃ s, s = (c + x + y) % B32 := ⟨_, rfl⟩
      obtain ⟨t, ht⟩ : ∃ t, t = (c + x + y) / B32 := ⟨_, rfl⟩
      rw [← hs, ← ht] at hst
      have hsB : s < B32 := by rw [hs]; exact Nat.mod_lt _ (by unfold B32; omega)
      have ht1 : t ≤ 1 := by rw [ht]; unfold B32 at *; omega
      have hw0 : IntKind.u64.wrap (x : Int) = (x : Int) := wrap_nat x (by unfold B32 at hxB; omega)
      have hw0y : IntKind.u64.wrap (y : Int) = (y : Int) := wrap_nat y (by unfold B32 at hyB; omega)
      obtain ⟨p, hp⟩ : ∃ p, p = c + x := ⟨_, rfl⟩
      have hw1 : IntKind.u64.wrap ((c : Int) + (x : Int)) = (p : Int) := by rw [hp, ← Int.natCast_add]; exact wrap_nat _ (by unfold B32 at hxB; omega)
      obtain ⟨q, hq⟩ : ∃ q, q = p + y := ⟨_, rfl⟩
      have hw2 : IntKind.u64.wrap ((p : Int) + (y : Int)) = (q : Int) := by rw [hq, ← Int.natCast_add]; exact wrap_nat _ (by unfold B32 at hxB hyB; omega)
      have hq' : q = c + x + y := by rw [hq, hp]
      have hc32 : IntKind.u32.wrap (q : Int) = (s : Int) := by rw [IntKind.wrap_u32, hs, hq']; unfold B32; omega
      have hsh : (q : Int) / 4294967296 = (t : Int) := by rw [ht, hq']; unfold B32; omega
      have HST := Lib.hid hst
      have HSB := Lib.hid hsB
      have hkm : k ≤ 2000000 := by omega
      by_cases hA : k < k1
      · by_cases hBk : k < k2
        · obtain ⟨b1, f1, x', rfl, hb1, hx', hcx⟩ := HC1.out k hA
          obtain rfl : x' = x := by rw [hx, getD_of hx']
          have hcx' := (HBEL.out.cell (p := ⟨b1, f1 + k, none⟩) hb1).trans hcx
          obtain ⟨b2, f2, y', rfl, hb2, hy', hcy⟩ := HC2.out k hBk
          obtain rfl : y' = y := by rw [hy, getD_of hy']
          have hcy' := (HBEL.out.cell (p := ⟨b2, f2 + k, none⟩) hb2).trans hcy
          clear hx' hcx hy' hcy  hst hs ht hxB hyB hsB hc hp hq hq' hx hy hk
          have HOW1 := Lib.hid (World.ownsRow.alloc HOW.out (.cells #[.int .u32 (s : Int)] 119))
          rw [HOL.out] at HOW1
          have HBE1 : Hid (Below w.heap.size w (wr.alloc (.cells #[.int .u32 (s : Int)] 119))) := HBEL.out.alloc HBEL.out.size _
          go_wp2_with (at_builtin; refine wpList_append_own _ rfl _ _ 54 rfl w.heap.size 119 i0 (.int .u32 0) 1 4 Tryz.underlying54 hi0 hz0 hz1 hz2 rfl (by decide) _ k _ rfl HOW1.out ⟨wr.heap.size, 0, none⟩ 1 1 [.int .u32 (s : Int)] rfl rfl (cells_new wr #[.int .u32 (s : Int)] 119 (0, 0)) (fun u hu => by rw [List.mem_singleton.1 hu]; rfl) (by unfold maxLen; omega) (by omega) (by have := HBEL.out.size; simp; omega) ?_; intro v' w1 hown1 hgrow1 _; have HW1 := Lib.hid hown1; have HG1 := Lib.hid hgrow1; clear hown1 hgrow1)
          go_roundw
          case rel =>
            refine ⟨k + 1, t, O ++ [s], by omega, ht1, rfl, by go_num, by show _ = _; rw [List.length_append, HOL.out]; rfl, fun z hz => ?_, ?_, HBE1.out.grown HG1.out (by have := HBEL.out.size; simp; omega) (fun g hg => (HOW1.out.lt g hg).1), HST.out⟩
            · rcases List.mem_append.1 hz with h | h
              · exact HOX.out z h
              · rw [List.mem_singleton.1 h]; exact HSB.out
            · have h := HW1.out
              unfold OwnV
              rw [List.length_append, HOL.out, List.map_append]; exact h
          case measure => simp [intOf]; omega
        · obtain ⟨b1, f1, x', rfl, hb1, hx', hcx⟩ := HC1.out k hA
          obtain rfl : x' = x := by rw [hx, getD_of hx']
          have hcx' := (HBEL.out.cell (p := ⟨b1, f1 + k, none⟩) hb1).trans hcx
          obtain rfl : y = 0 := by rw [hy, List.getD_eq_getElem?_getD, List.getElem?_eq_none (by have := HE2.out; omega)]; rfl
          obtain rfl : q = p := by rw [hq, Nat.add_zero]
          clear hx' hcx hw2  hst hs ht hxB hyB hsB hc hp hq hq' hx hy hk
          have HOW1 := Lib.hid (World.ownsRow.alloc HOW.out (.cells #[.int .u32 (s : Int)] 119))
          rw [HOL.out] at HOW1
          have HBE1 : Hid (Below w.heap.size w (wr.alloc (.cells #[.int .u32 (s : Int)] 119))) := HBEL.out.alloc HBEL.out.size _
          go_wp2_with (at_builtin; refine wpList_append_own _ rfl _ _ 54 rfl w.heap.size 119 i0 (.int .u32 0) 1 4 Tryz.underlying54 hi0 hz0 hz1 hz2 rfl (by decide) _ k _ rfl HOW1.out ⟨wr.heap.size, 0, none⟩ 1 1 [.int .u32 (s : Int)] rfl rfl (cells_new wr #[.int .u32 (s : Int)] 119 (0, 0)) (fun u hu => by rw [List.mem_singleton.1 hu]; rfl) (by unfold maxLen; omega) (by omega) (by have := HBEL.out.size; simp; omega) ?_; intro v' w1 hown1 hgrow1 _; have HW1 := Lib.hid hown1; have HG1 := Lib.hid hgrow1; clear hown1 hgrow1)
          go_roundw
          case rel =>
            refine ⟨k + 1, t, O ++ [s], by omega, ht1, rfl, by go_num, by show _ = _; rw [List.length_append, HOL.out]; rfl, fun z hz => ?_, ?_, HBE1.out.grown HG1.out (by have := HBEL.out.size; simp; omega) (fun g hg => (HOW1.out.lt g hg).1), HST.out⟩
            · rcases List.mem_append.1 hz with h | h
              · exact HOX.out z h
              · rw [List.mem_singleton.1 h]; exact HSB.out
            · have h := HW1.out
              unfold OwnV
              rw [List.length_append, HOL.out, List.map_append]; exact h
          case measure => simp [intOf]; omega
      · have hBk : k < k2 := by omega
        obtain rfl : x = 0 := by rw [hx, List.getD_eq_getElem?_getD, List.getElem?_eq_none (by have := HE1.out; omega)]; rfl
        obtain rfl : p = c := by rw [hp, Nat.add_zero]
        obtain ⟨b2, f2, y', rfl, hb2, hy', hcy⟩ := HC2.out k hBk
        obtain rfl : y' = y := by rw [hy, getD_of hy']
        have hcy' := (HBEL.out.cell (p := ⟨b2, f2 + k, none⟩) hb2).trans hcy
        clear hw1 hy' hcy  hst hs ht hxB hyB hsB hc hp hq hq' hx hy hk
        have HOW1 := Lib.hid (World.ownsRow.alloc HOW.out (.cells #[.int .u32 (s : Int)] 119))
        rw [HOL.out] at HOW1
        have HBE1 : Hid (Below w.heap.size w (wr.alloc (.cells #[.int .u32 (s : Int)] 119))) := HBEL.out.alloc HBEL.out.size _
        go_wp2_with (at_builtin; refine wpList_append_own _ rfl _ _ 54 rfl w.heap.size 119 i0 (.int .u32 0) 1 4 Tryz.underlying54 hi0 hz0 hz1 hz2 rfl (by decide) _ k _ rfl HOW1.out ⟨wr.heap.size, 0, none⟩ 1 1 [.int .u32 (s : Int)] rfl rfl (cells_new wr #[.int .u32 (s : Int)] 119 (0, 0)) (fun u hu => by rw [List.mem_singleton.1 hu]; rfl) (by unfold maxLen; omega) (by omega) (by have := HBEL.out.size; simp; omega) ?_; intro v' w1 hown1 hgrow1 _; have HW1 := Lib.hid hown1; have HG1 := Lib.hid hgrow1; clear hown1 hgrow1)
        go_roundw
        case rel =>
          refine ⟨k + 1, t, O ++ [s], by omega, ht1, rfl, by go_num, by show _ = _; rw [List.length_append, HOL.out]; rfl, fun z hz => ?_, ?_, HBE1.out.grown HG1.out (by have := HBEL.out.size; simp; omega) (fun g hg => (HOW1.out.lt g hg).1), HST.out⟩
          · rcases List.mem_append.1 hz with h | h
            · exact HOX.out z h
            · rw [List.mem_singleton.1 h]; exact HSB.out
          · have h := HW1.out
            unfold OwnV
            rw [List.length_append, HOL.out, List.map_append]; exact h
        case measure => simp [intOf]; omega
    · have hkk : ¬ k < k1 ∧ ¬ k < k2 := by omega
      obtain ⟨hn1, hn2⟩ := hkk
      have hkm : k ≤ 2000000 := by omega
      obtain ⟨xs, hxs⟩ : ∃ xs, xs = O ++ [c] := ⟨_, rfl⟩
      have HXX : Hid (∀ x ∈ xs, x < B32) := fun z hz => by
        rw [hxs] at hz
        rcases List.mem_append.1 hz with h | h
        · exact HOX.out z h
        · rw [List.mem_singleton.1 h]; unfold B32; omega
      have HXV : Hid (val B32 xs = m + n) := by
        show _ = _
        have h1 := HV.out
        rw [List.take_of_length_le (by rw [HE1.out]; omega), List.take_of_length_le (by rw [HE2.out]; omega), val_digs B32_2, val_digs B32_2] at h1
        rw [hxs, val_append, val_one, HOL.out, Nat.mul_comm (B32 ^ k)]; exact h1
      have hc32 : IntKind.u32.wrap (c : Int) = (c : Int) := by rw [IntKind.wrap_u32]; omega
      have HXS := Lib.hid hxs
      have HOW1 := Lib.hid (World.ownsRow.alloc HOW.out (.cells #[.int .u32 (c : Int)] 119))
      rw [HOL.out] at HOW1
      have HBE1 : Hid (Below w.heap.size w (wr.alloc (.cells #[.int .u32 (c : Int)] 119))) := HBEL.out.alloc HBEL.out.size _
      clear hxs hc hk hlk
      go_wp2_with (at_builtin; refine wpList_append_own _ rfl _ _ 54 rfl w.heap.size 119 i0 (.int .u32 0) 1 4 Tryz.underlying54 hi0 hz0 hz1 hz2 rfl (by decide) _ k _ rfl HOW1.out ⟨wr.heap.size, 0, none⟩ 1 1 [.int .u32 (c : Int)] rfl rfl (cells_new wr #[.int .u32 (c : Int)] 119 (0, 0)) (fun u hu => by rw [List.mem_singleton.1 hu]; rfl) (by unfold maxLen; omega) (by omega) (by have := HBEL.out.size; simp; omega) ?_; intro v' w1 hown1 hgrow1 _; have HW1 := Lib.hid hown1; have HG1 := Lib.hid hgrow1; clear hown1 hgrow1)
      have hOV : OwnV w1 w.heap.size v' xs := by
        have h := HW1.out
        unfold OwnV
        rw [HXS.out, List.length_append, HOL.out, List.map_append]; exact h
      refine (rcut_num v' xs w1 hOV.rd HXX.out).mono ?_
      rintro e w2 ⟨⟨v2, rfl, hr⟩, rfl⟩
      rw [HXV.out] at hr
      have HR := Lib.hid hr
      clear hr hOV
      go_wp2_with fail
      go_ret
      exact ⟨⟨_, rfl, HR.out⟩, HBE1.out.grown HG1.out (by have := HBEL.out.size; simp; omega) (fun g hg => (HOW1.out.lt g hg).1)⟩
end Go.Proofs.YtogccnngdfancaaGreat
namespace Go.Proofs.YtogccnngdfancaaGreat
open Go.RowKit
set_option linter.unusedVariables false
set_option linter.unusedSimpArgs false
theorem rdiff_step {O am bn : List Nat} {k c x y B d e : Nat} (hk : O.length = k) (hx : am.getD k 0 = x) (hy : bn.getD k 0 = y) (hd : d + y + c = x + e * B)
    (h : val B O + val B (bn.take k) = val B (am.take k) + c * B ^ k) :
    val B (O ++ [d]) + val B (bn.take (k + 1)) = val B (am.take (k + 1)) + e * B ^ (k + 1) := by
  rw [val_append, val_one, val_take_getD B am, val_take_getD B bn, hx, hy, hk, Nat.pow_succ]
  have e1 : (d + y + c) * B ^ k = (x + e * B) * B ^ k := by rw [hd]
  rw [Nat.add_mul, Nat.add_mul, Nat.add_mul, Nat.mul_assoc e, Nat.mul_comm B] at e1
  rw [Nat.mul_comm (B ^ k) d]
  omega
set_option maxRecDepth 100000 in
set_option maxHeartbeats 8000000 in
theorem rdiff_own (va vb : Value) (m n : Nat) (w : World) (ha : RdM w va m) (hb : RdM w vb n) (hm : dm m ≤ 2000000) (hle : n ≤ m) :
    Calls Tryz.prog 67 #[va, vb] w fun e w' => (∃ v', e = .returned v' ∧ RdMS w' (w.heap.size ≤ ·) v' (m - n)) ∧ Below w.heap.size w w' := by
  obtain ⟨i0, hi0, hz0, hz1, hz2⟩ := info_parts info119
  have hdl := dm_mono hle
  obtain ⟨A1, k1, c1, rfl, e1, hk1, _, hm1, hc1⟩ := RdV.open_ ha
  obtain ⟨A2, k2, c2, rfl, e2, hk2, _, hm2, hc2⟩ := RdV.open_ hb
  have hk16 : k1 ≤ 2000000 := by unfold dm at hm; omega
  have hk21 : k2 ≤ k1 := by unfold dm at hdl; omega
  have HE1 := Lib.hid e1
  have HE2 := Lib.hid e2
  have HC1 := Lib.hid hc1
  have HC2 := Lib.hid hc2
  have HLE := Lib.hid hle
  clear ha hb hm e1 e2 hc1 hc2 hle hdl
  go_enter Tryz.func67, Tryz.ntmps67
  go_wp2_with fail
  go_loopw [5, 6, 7] (fun ov cv iv wr => ∃ (k c : Nat) (O : List Nat), k ≤ k1 ∧ c ≤ 1 ∧ cv = .int .i64 (c : Int) ∧ iv = .int .i64 (k : Int) ∧ Hid (O.length = k) ∧ Hid (∀ x ∈ O, x < B32) ∧ Hid (OwnV wr w.heap.size ov O) ∧ Hid (Below w.heap.size w wr) ∧ Hid (val B32 O + val B32 ((digs B32 n).take k) = val B32 ((digs B32 m).take k) + c * B32 ^ k)) (fun _ _ iv _ => k1 - (intOf iv).toNat)
  case atStart => exact ⟨0, 0, [], Nat.zero_le _, Nat.zero_le _, rfl, rfl, rfl, (by show ∀ x ∈ ([] : List Nat), x < B32; intro x hx; cases hx), OwnV.made w, (Below.refl _ w).alloc (Nat.le_refl _) _, by show _ = _; simp [val]⟩
  case round =>
    obtain ⟨k, c, O, hk, hc, rfl, rfl, HOL, HOX, HOW, HBEL, HV⟩ := hrel
    obtain ⟨A5, c5, rfl⟩ := HOW.out.slice
    rw [HOL.out]
    by_cases hlk : k < k1
    · obtain ⟨b1, f1, x, rfl, hb1, hx, hcx⟩ := HC1.out k hlk
      have hxB : x < 4294967296 := digs_lt B32_2 m x (List.mem_of_getElem? hx)
      have hcx' := (HBEL.out.cell (p := ⟨b1, f1 + k, none⟩) hb1).trans hcx
      obtain ⟨y, hy⟩ : ∃ y, y = (digs B32 n).getD k 0 := ⟨_, rfl⟩
      have hyB : y < 4294967296 := by rw [hy]; exact getD_lt32 n k
      obtain ⟨D1, hD1⟩ : ∃ D : Int, D = (x : Int) - (c : Int) := ⟨_, rfl⟩
      have hd1a : -1 ≤ D1 := by omega
      have hd1b : D1 ≤ 4294967296 := by omega
      have hD1' := hD1.symm
      have hST := fun d e hd => rdiff_step (d := d) (e := e) HOL.out (getD_of hx) hy.symm hd HV.out
      have HSTP := Lib.hid hST
      clear hST
      by_cases hBk : k < k2
      · obtain ⟨b2, f2, y', rfl, hb2, hy', hcy⟩ := HC2.out k hBk
        obtain rfl : y' = y := by rw [hy, getD_of hy']
        have hcy' := (HBEL.out.cell (p := ⟨b2, f2 + k, none⟩) hb2).trans hcy
        by_cases hneg : D1 - (y' : Int) < 0
        · obtain ⟨s, hs⟩ : ∃ s : Nat, (s : Int) = D1 - y' + 4294967296 := ⟨(D1 - y' + 4294967296).toNat, by omega⟩
          have HST := Lib.hid (HSTP.out s 1 (by unfold B32; omega))
          have HSB : Hid (s < B32) := by show _ < _; unfold B32; omega
          have hc32 : IntKind.u32.wrap (s : Int) = (s : Int) := by rw [IntKind.wrap_u32]; omega
          obtain ⟨D2, hD2⟩ : ∃ D : Int, D = D1 - (y' : Int) := ⟨_, rfl⟩
          have hd2a : -4294967297 ≤ D2 := by omega
          have hd2b : D2 < 0 := by omega
          have hD2' := hD2.symm
          have hs' : D2 + 4294967296 = (s : Int) := by omega
          clear hD2 hs
          clear hD1 hx hcx hy hy' hcy hneg HSTP
          have HOW1 := Lib.hid (World.ownsRow.alloc HOW.out (.cells #[.int .u32 (s : Int)] 119))
          rw [HOL.out] at HOW1
          have HBE1 : Hid (Below w.heap.size w (wr.alloc (.cells #[.int .u32 (s : Int)] 119))) := HBEL.out.alloc HBEL.out.size _
          go_wp2_with (at_builtin; refine wpList_append_own _ rfl _ _ 54 rfl w.heap.size 119 i0 (.int .u32 0) 1 4 Tryz.underlying54 hi0 hz0 hz1 hz2 rfl (by decide) _ k _ rfl HOW1.out ⟨wr.heap.size, 0, none⟩ 1 1 [.int .u32 (s : Int)] rfl rfl (cells_new wr #[.int .u32 (s : Int)] 119 (0, 0)) (fun u hu => by rw [List.mem_singleton.1 hu]; rfl) (by unfold maxLen; omega) (by omega) (by have := HBEL.out.size; simp; omega) ?_; intro v' w1 hown1 hgrow1 _; have HW1 := Lib.hid hown1; have HG1 := Lib.hid hgrow1; clear hown1 hgrow1)
          go_roundw
          case rel =>
            refine ⟨k + 1, 1, O ++ [s], by omega, by omega, rfl, by go_num, by show _ = _; rw [List.length_append, HOL.out]; rfl, fun z hz => ?_, ?_, HBE1.out.grown HG1.out (by have := HBEL.out.size; simp; omega) (fun g hg => (HOW1.out.lt g hg).1), HST.out⟩
            · rcases List.mem_append.1 hz with h | h
              · exact HOX.out z h
              · rw [List.mem_singleton.1 h]; exact HSB.out
            · have h := HW1.out
              unfold OwnV
              rw [List.length_append, HOL.out, List.map_append]; exact h
          case measure => simp [intOf]; omega
        · obtain ⟨s, hs⟩ : ∃ s : Nat, (s : Int) = D1 - y' := ⟨(D1 - y').toNat, by omega⟩
          have HST := Lib.hid (HSTP.out s 0 (by omega))
          have HSB : Hid (s < B32) := by show _ < _; unfold B32; omega
          have hc32 : IntKind.u32.wrap (s : Int) = (s : Int) := by rw [IntKind.wrap_u32]; omega
          have hs' : D1 - (y' : Int) = (s : Int) := hs.symm
          have hsn : ¬ ((s : Int) < 0) := by omega
          clear hs
          clear hD1 hx hcx hy hy' hcy hneg HSTP
          have HOW1 := Lib.hid (World.ownsRow.alloc HOW.out (.cells #[.int .u32 (s : Int)] 119))
          rw [HOL.out] at HOW1
          have HBE1 : Hid (Below w.heap.size w (wr.alloc (.cells #[.int .u32 (s : Int)] 119))) := HBEL.out.alloc HBEL.out.size _
          go_wp2_with (at_builtin; refine wpList_append_own _ rfl _ _ 54 rfl w.heap.size 119 i0 (.int .u32 0) 1 4 Tryz.underlying54 hi0 hz0 hz1 hz2 rfl (by decide) _ k _ rfl HOW1.out ⟨wr.heap.size, 0, none⟩ 1 1 [.int .u32 (s : Int)] rfl rfl (cells_new wr #[.int .u32 (s : Int)] 119 (0, 0)) (fun u hu => by rw [List.mem_singleton.1 hu]; rfl) (by unfold maxLen; omega) (by omega) (by have := HBEL.out.size; simp; omega) ?_; intro v' w1 hown1 hgrow1 _; have HW1 := Lib.hid hown1; have HG1 := Lib.hid hgrow1; clear hown1 hgrow1)
          go_roundw
          case rel =>
            refine ⟨k + 1, 0, O ++ [s], by omega, by omega, rfl, by go_num, by show _ = _; rw [List.length_append, HOL.out]; rfl, fun z hz => ?_, ?_, HBE1.out.grown HG1.out (by have := HBEL.out.size; simp; omega) (fun g hg => (HOW1.out.lt g hg).1), HST.out⟩
            · rcases List.mem_append.1 hz with h | h
              · exact HOX.out z h
              · rw [List.mem_singleton.1 h]; exact HSB.out
            · have h := HW1.out
              unfold OwnV
              rw [List.length_append, HOL.out, List.map_append]; exact h
          case measure => simp [intOf]; omega
      · obtain rfl : y = 0 := by rw [hy, List.getD_eq_getElem?_getD, List.getElem?_eq_none (by have := HE2.out; omega)]; rfl
        by_cases hneg : D1 < 0
        · obtain ⟨s, hs⟩ : ∃ s : Nat, (s : Int) = D1 + 4294967296 := ⟨(D1 + 4294967296).toNat, by omega⟩
          have HST := Lib.hid (HSTP.out s 1 (by unfold B32; omega))
          have HSB : Hid (s < B32) := by show _ < _; unfold B32; omega
          have hc32 : IntKind.u32.wrap (s : Int) = (s : Int) := by rw [IntKind.wrap_u32]; omega
          have hs' : D1 + 4294967296 = (s : Int) := hs.symm
          clear hs
          clear hD1 hx hcx hy HSTP
          have HOW1 := Lib.hid (World.ownsRow.alloc HOW.out (.cells #[.int .u32 (s : Int)] 119))
          rw [HOL.out] at HOW1
          have HBE1 : Hid (Below w.heap.size w (wr.alloc (.cells #[.int .u32 (s : Int)] 119))) := HBEL.out.alloc HBEL.out.size _
          go_wp2_with (at_builtin; refine wpList_append_own _ rfl _ _ 54 rfl w.heap.size 119 i0 (.int .u32 0) 1 4 Tryz.underlying54 hi0 hz0 hz1 hz2 rfl (by decide) _ k _ rfl HOW1.out ⟨wr.heap.size, 0, none⟩ 1 1 [.int .u32 (s : Int)] rfl rfl (cells_new wr #[.int .u32 (s : Int)] 119 (0, 0)) (fun u hu => by rw [List.mem_singleton.1 hu]; rfl) (by unfold maxLen; omega) (by omega) (by have := HBEL.out.size; simp; omega) ?_; intro v' w1 hown1 hgrow1 _; have HW1 := Lib.hid hown1; have HG1 := Lib.hid hgrow1; clear hown1 hgrow1)
          go_roundw
          case rel =>
            refine ⟨k + 1, 1, O ++ [s], by omega, by omega, rfl, by go_num, by show _ = _; rw [List.length_append, HOL.out]; rfl, fun z hz => ?_, ?_, HBE1.out.grown HG1.out (by have := HBEL.out.size; simp; omega) (fun g hg => (HOW1.out.lt g hg).1), HST.out⟩
            · rcases List.mem_append.1 hz with h | h
              · exact HOX.out z h
              · rw [List.mem_singleton.1 h]; exact HSB.out
            · have h := HW1.out
              unfold OwnV
              rw [List.length_append, HOL.out, List.map_append]; exact h
          case measure => simp [intOf]; omega
        · obtain ⟨s, hs⟩ : ∃ s : Nat, (s : Int) = D1 := ⟨(D1).toNat, by omega⟩
          have HST := Lib.hid (HSTP.out s 0 (by omega))
          have HSB : Hid (s < B32) := by show _ < _; unfold B32; omega
          have hc32 : IntKind.u32.wrap (s : Int) = (s : Int) := by rw [IntKind.wrap_u32]; omega
          obtain rfl : D1 = (s : Int) := hs.symm
          clear hs
          clear hD1 hx hcx hy HSTP
          have HOW1 := Lib.hid (World.ownsRow.alloc HOW.out (.cells #[.int .u32 (s : Int)] 119))
          rw [HOL.out] at HOW1
          have HBE1 : Hid (Below w.heap.size w (wr.alloc (.cells #[.int .u32 (s : Int)] 119))) := HBEL.out.alloc HBEL.out.size _
          go_wp2_with (at_builtin; refine wpList_append_own _ rfl _ _ 54 rfl w.heap.size 119 i0 (.int .u32 0) 1 4 Tryz.underlying54 hi0 hz0 hz1 hz2 rfl (by decide) _ k _ rfl HOW1.out ⟨wr.heap.size, 0, none⟩ 1 1 [.int .u32 (s : Int)] rfl rfl (cells_new wr #[.int .u32 (s : Int)] 119 (0, 0)) (fun u hu => by rw [List.mem_singleton.1 hu]; rfl) (by unfold maxLen; omega) (by omega) (by have := HBEL.out.size; simp; omega) ?_; intro v' w1 hown1 hgrow1 _; have HW1 := Lib.hid hown1; have HG1 := Lib.hid hgrow1; clear hown1 hgrow1)
          go_roundw
          case rel =>
            refine ⟨k + 1, 0, O ++ [s], by omega, by omega, rfl, by go_num, by show _ = _; rw [List.length_append, HOL.out]; rfl, fun z hz => ?_, ?_, HBE1.out.grown HG1.out (by have := HBEL.out.size; simp; omega) (fun g hg => (HOW1.out.lt g hg).1), HST.out⟩
            · rcases List.mem_append.1 hz with h | h
              · exact HOX.out z h
              · rw [List.mem_singleton.1 h]; exact HSB.out
            · have h := HW1.out
              unfold OwnV
              rw [List.length_append, HOL.out, List.map_append]; exact h
          case measure => simp [intOf]; omega
    · obtain rfl : k = k1 := by omega
      have HXV : Hid (val B32 O = m - n) := by
        show _ = _
        have h1 := HV.out
        rw [List.take_of_length_le (by rw [HE2.out]; omega), List.take_of_length_le (by rw [HE1.out]; omega), val_digs B32_2, val_digs B32_2] at h1
        have h2 := val_lt (b := B32) (by unfold B32; omega) HOX.out
        rw [HOL.out] at h2
        have h3 := HLE.out
        have hc0 : c = 0 := by
          rcases Nat.eq_zero_or_pos c with h0 | h0
          · exact h0
          · have : c = 1 := by omega
            subst this; omega
        subst hc0; omega
      have HCUT := Lib.hid (rcut_numS _ _ O wr HOW.out.rdS HOX.out)
      rw [HXV.out, HOL.out] at HCUT
      clear hc hlk
      go_wp2_with (go_at_call 89; refine HCUT.out.mono ?_; rintro e w2 ⟨⟨v', rfl, hr⟩, rfl⟩; have HR := Lib.hid hr; clear hr)
      go_ret
      exact ⟨⟨_, rfl, HR.out⟩, HBEL.out⟩
theorem rdiff_any (va vb : Value) (m n : Nat) (w : World) (ha : RdM w va m) (hb : RdM w vb n) (hm : dm m ≤ 2000000) (hle : n ≤ m) :
    Calls Tryz.prog 67 #[va, vb] w fun e w' => (∃ v', e = .returned v' ∧ RdM w' v' (m - n)) ∧ Below w.heap.size w w' :=
  (rdiff_own va vb m n w ha hb hm hle).mono fun e w' ⟨⟨v', h1, h2⟩, h3⟩ => ⟨⟨v', h1, h2.all⟩, h3⟩
end Go.Proofs.YtogccnngdfancaaGreat
