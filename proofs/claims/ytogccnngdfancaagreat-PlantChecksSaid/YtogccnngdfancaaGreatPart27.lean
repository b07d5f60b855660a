/- Walks of the reference's natural numbers: Product, byWord. -/
import Derived.Test.YtogccnngdfancaaGreatPart26
namespace Go.Proofs.YtogccnngdfancaaGreat
open Go.RowKit
set_option linter.unusedVariables false
set_option linter.unusedSimpArgs false
/-! A block of half words, known whole. -/
def BlkV (w : World) (g : Nat) (xs : List Nat) : Prop := w.heap[g]? = some (.cells (xs.map u32V).toArray 119 (0, 0))
theorem BlkV.lt {w : World} {g : Nat} {xs : List Nat} (h : BlkV w g xs) : g < w.heap.size := (Array.getElem?_eq_some_iff.1 h).1
theorem BlkV.cell {w : World} {g : Nat} {xs : List Nat} {i x : Nat} (h : BlkV w g xs) (hx : xs[i]? = some x) : w.cell? ⟨g, i, none⟩ = some (.int .u32 (x : Int)) := by
  rw [cell_of_row w g i _ 119 (0, 0) h, List.getElem?_toArray, List.getElem?_map, hx]; rfl
theorem BlkV.frozen {w : World} {g : Nat} {xs : List Nat} (h : BlkV w g xs) (i : Nat) : w.frozen? ⟨g, i, none⟩ = false := frozen_of_row w g i _ 119 h
theorem BlkV.set_ {w : World} {g : Nat} {xs : List Nat} (h : BlkV w g xs) (i y : Nat) : BlkV (w.setCell ⟨g, i, none⟩ (.int .u32 (y : Int))) g (xs.set i y) := by
  have := heap_setCell_same w g i _ 119 (.int .u32 (y : Int)) h
  unfold BlkV
  rw [this]
  congr 1
  rw [List.map_set, List.setIfInBounds_toArray]; rfl
theorem BlkV.drew {w : World} {g : Nat} {xs : List Nat} (h : BlkV w g xs) : BlkV w.drew g xs := h
theorem BlkV.below {w w' : World} {g : Nat} {xs : List Nat} (h : BlkV w g xs) (hb : Below w.heap.size w w') : BlkV w' g xs := (hb.block g h.lt).trans h
theorem madeWords32 (n : Nat) : (madeCells (Value.int .u32 0).cells (n * 1)) = ((List.replicate n 0).map u32V).toArray := by
  rw [Nat.mul_one]
  apply Array.ext'
  have : ∀ x : Nat, x % 1 = 0 := fun x => Nat.mod_one x
  simp [madeCells, Value.cells, u32V, this]
  refine List.ext_getElem (by simp) fun i h1 h2 => by simp
theorem BlkV.new (w : World) (xs : List Nat) : BlkV (w.alloc (.cells (xs.map u32V).toArray 119)) w.heap.size xs := heap_alloc_new w _
theorem BlkV.own {w : World} {g base n : Nat} {xs : List Nat} (h : BlkV w g xs) (hb : base ≤ g) (hn : n ≤ xs.length) (hm : xs.length ≤ maxLen) : w.ownsRow base 119 1 (.slice (some ⟨g, 0, none⟩) n xs.length) n ((xs.take n).map u32V) :=
  ⟨by simp; omega, .inr ⟨g, xs.length, _, rfl, hb, h, by omega, hm, by simp, by simp⟩⟩
theorem BlkV.rd {w : World} {g off n cap : Nat} {xs : List Nat} (h : BlkV w g xs) (hn : off + n ≤ xs.length) (hc : n ≤ cap) (hm : cap ≤ maxLen) : RdV w (.slice (some ⟨g, off, none⟩) n cap) ((xs.drop off).take n) := by
  have hl : ((xs.drop off).take n).length = n := by simp; omega
  refine ⟨some ⟨g, off, none⟩, cap, by rw [hl], by omega, hm, fun _ => ⟨g, off, rfl, trivial, fun i hi => ?_⟩⟩
  rw [hl] at hi
  rw [h.cell (i := off + i) (x := xs[off + i]'(by omega)) (List.getElem?_eq_getElem (by omega))]
  simp [u32V]
theorem BlkV.rd0 {w : World} {g n cap : Nat} {xs : List Nat} (h : BlkV w g xs) (hn : n = xs.length) (hc : n ≤ cap) (hm : cap ≤ maxLen) : RdV w (.slice (some ⟨g, 0, none⟩) n cap) xs := by
  have := h.rd (off := 0) (n := n) (by omega) hc hm
  rwa [List.drop_zero, List.take_of_length_le (by omega)] at this
theorem BlkV.rd0S {w : World} {g n cap B : Nat} {xs : List Nat} (h : BlkV w g xs) (hB : B ≤ g) (hn : n = xs.length) (hc : n ≤ cap) (hm : cap ≤ maxLen) : Rd u32V w (B ≤ ·) (.slice (some ⟨g, 0, none⟩) n cap) xs := by
  refine ⟨some ⟨g, 0, none⟩, cap, by rw [hn], by omega, hm, fun _ => ⟨g, 0, rfl, hB, fun i hi => ?_⟩⟩
  rw [h.cell (i := 0 + i) (x := xs[i]) (by rw [Nat.zero_add]; exact List.getElem?_eq_getElem hi)]; rfl
/-- make([]uint32, n, c). -/
theorem make_words32 (n c : Nat) (hnc : n ≤ c) (hc : c ≤ 4000000) (w : World) :
    (Instr.makeSlice 54 (.int .i64 (n : Int)) (.int .i64 (c : Int))).run Tryz.prog w = .ok (.slice (some ⟨w.heap.size, 0, none⟩) n c) (w.alloc (.cells ((List.replicate c 0).map u32V).toArray 119)) := by
  obtain ⟨i0, hi, hz0, hz1, hz2⟩ := info_parts info119
  rw [run_make_rowN 54 119 i0 (.int .u32 0) Tryz.underlying54 hi hz0 .i64 .i64 n c hnc (by rw [hz2]; omega) (by omega) w, hz1, madeWords32]

set_option maxRecDepth 100000 in
set_option maxHeartbeats 8000000 in
theorem rprod_own (va vb : Value) (m n : Nat) (w : World) (hP : RdM w va m) (hQ : RdM w vb n) (hm6 : dm m ≤ 1900000) (hn6 : dm n ≤ 1900000) :
    Calls Tryz.prog 64 #[va, vb] w fun e w' => (∃ v', e = .returned v' ∧ RdMS w' (w.heap.size ≤ ·) v' (m * n)) ∧ Below w.heap.size w w' := by
  have hmk := make_words32
  obtain ⟨A1, k1, c1, rfl, e1, hk1, _, hm1, hc1⟩ := RdV.open_ hP
  obtain ⟨A2, k2, c2, rfl, e2, hk2, _, hm2, hc2⟩ := RdV.open_ hQ
  have hk16 : k1 ≤ 1900000 := by unfold dm at hm6; omega
  have hk26 : k2 ≤ 1900000 := by unfold dm at hn6; omega
  have HE1 := Lib.hid e1
  have HE2 := Lib.hid e2
  have HC1 := Lib.hid hc1
  have HC2 := Lib.hid hc2
  have HMK := hmk (k1 + k2) (k1 + k2) (Nat.le_refl _) (by omega)
  obtain ⟨C0, hC0⟩ : ∃ C, C = ((List.replicate (k1 + k2) 0).map u32V).toArray := ⟨_, rfl⟩
  rw [← hC0, show ((k1 + k2 : Nat) : Int) = (k1 : Int) + (k2 : Int) by omega] at HMK
  have HB0 : Hid (BlkV (w.alloc (.cells C0 119)) w.heap.size (List.replicate (k1 + k2) 0)) := by rw [hC0]; exact BlkV.new w _
  clear hmk e1 e2 hc1 hc2 hP hQ hm6 hn6 hC0
  go_enter Tryz.func64, Tryz.ntmps64
  go_wp2_with fail
  go_loopw [6] (fun iv wr => ∃ (i : Nat) (O : List Nat), i ≤ k1 ∧ iv = .int .i64 (i : Int) ∧ Hid (O.length = k1 + k2) ∧ Hid (∀ x ∈ O, x < B32) ∧ Hid (∀ j, i + k2 ≤ j → O.getD j 0 = 0) ∧ Hid (BlkV wr w.heap.size O) ∧ Hid (Below w.heap.size w wr) ∧ Hid (val B32 O = val B32 ((digs B32 m).take i) * n)) (fun iv _ => k1 - (intOf iv).toNat)
  case atStart =>
    refine ⟨0, List.replicate (k1 + k2) 0, Nat.zero_le _, rfl, by show _ = _; simp, fun x hx => ?_, fun j hj => ?_, HB0, (Below.refl _ w).alloc (Nat.le_refl _) _, ?_⟩
    · rw [List.eq_of_mem_replicate hx]; unfold B32; omega
    · rw [List.getD_eq_getElem?_getD, List.getElem?_replicate]; split <;> rfl
    · show _ = _
      rw [val_replicate]; simp [val]
  case round =>
    obtain ⟨i, O, hi, rfl, HOL, HOX, HOZ, HBW, HBEL, HV⟩ := hrel
    by_cases hlt : i < k1
    · obtain ⟨b1, f1, x, rfl, hb1, hx, hcx⟩ := HC1.out i hlt
      have hxB := digs_lt B32_2 m x (List.mem_of_getElem? hx)
      have HCX : Hid (∀ w', Below w.heap.size w w' → w'.cell? ⟨b1, f1 + i, none⟩ = some (.int .u32 (x : Int))) := fun w' h => (h.cell (p := ⟨b1, f1 + i, none⟩) hb1).trans hcx
      have HX := Lib.hid hx
      have HXB := Lib.hid hxB
      obtain ⟨V, hV⟩ : ∃ V, V = val B32 ((digs B32 m).take i) := ⟨_, rfl⟩
      have HVe := Lib.hid hV
      rw [← hV] at HV
      clear hV hx hcx hxB
      go_wp2_with fail
      go_loopw [7, 8] (fun cv kv wr => ∃ (k c : Nat) (P : List Nat), k ≤ k2 ∧ cv = .int .u64 (c : Int) ∧ kv = .int .i64 (k : Int) ∧ Hid (c < B32) ∧ Hid (P.length = k1 + k2) ∧ Hid (∀ x ∈ P, x < B32) ∧ Hid (∀ j, i + k2 ≤ j → P.getD j 0 = 0) ∧ Hid (BlkV wr w.heap.size P) ∧ Hid (Below w.heap.size w wr) ∧ Hid (val B32 P + c * B32 ^ (i + k) = V * n + x * val B32 ((digs B32 n).take k) * B32 ^ i)) (fun _ kv _ => k2 - (intOf kv).toNat)
      case atStart =>
        exact ⟨0, 0, O, Nat.zero_le _, rfl, rfl, by show _ < _; unfold B32; omega, HOL, HOX, HOZ, HBW, HBEL, by show _ = _; rw [HV.out]; simp [val]⟩
      case round =>
        clear HBEL HBW HV HOL HOX HOZ
        obtain ⟨k, c, P, hk, rfl, rfl, HCB, HOL, HOX, HOZ, HBW, HBEL, HV⟩ := hrel
        by_cases hlk : k < k2
        · obtain ⟨b2, f2, y, rfl, hb2, hy, hcy⟩ := HC2.out k hlk
          have hyB := digs_lt B32_2 n y (List.mem_of_getElem? hy)
          have HCY : Hid (∀ w', Below w.heap.size w w' → w'.cell? ⟨b2, f2 + k, none⟩ = some (.int .u32 (y : Int))) := fun w' h => (h.cell (p := ⟨b2, f2 + k, none⟩) hb2).trans hcy
          have hpl : i + k < P.length := by have := HOL.out; omega
          obtain ⟨o, ho⟩ : ∃ o, P.getD (i + k) 0 = o := ⟨_, rfl⟩
          have hoB : o < B32 := by
            rw [← ho, List.getD_eq_getElem?_getD, List.getElem?_eq_getElem hpl]
            exact HOX.out _ (List.getElem_mem hpl)
          have hst := times_step (B := B32) hpl hy ho HV.out
          have hTL := times_lt HXB.out hyB hoB HCB.out
          obtain ⟨p, hp⟩ : ∃ p, p = x * y := ⟨_, rfl⟩
          obtain ⟨T, hT⟩ : ∃ T, T = p + o + c := ⟨_, rfl⟩
          rw [← hp, ← hT] at hst hTL
          have hpB : p ≤ 18446744065119617025 := by
            have h1 : x * y ≤ 4294967295 * 4294967295 := Nat.mul_le_mul (by have := HXB.out; unfold B32 at this; omega) (by unfold B32 at hyB; omega)
            omega
          obtain ⟨q, hq⟩ : ∃ q, q = c + p := ⟨_, rfl⟩
          have hcB := HCB.out
          have hxBo := HXB.out
          unfold B32 at hcB hoB hxBo hyB
          have hw0 : IntKind.u64.wrap (x : Int) = (x : Int) := wrap_nat x (by omega)
          have hw0y : IntKind.u64.wrap (y : Int) = (y : Int) := wrap_nat y (by omega)
          have hw0o : IntKind.u64.wrap (o : Int) = (o : Int) := wrap_nat o (by omega)
          have hw1 : IntKind.u64.wrap ((x : Int) * (y : Int)) = (p : Int) := by rw [← Int.natCast_mul, ← hp]; exact wrap_nat _ (by omega)
          have hw2 : IntKind.u64.wrap ((c : Int) + (p : Int)) = (q : Int) := by rw [hq, ← Int.natCast_add]; exact wrap_nat _ (by omega)
          have hw3 : IntKind.u64.wrap ((q : Int) + (o : Int)) = (T : Int) := by rw [hT, hq, ← Int.natCast_add, show c + p + o = p + o + c by omega]; exact wrap_nat _ (by omega)
          obtain ⟨s, hs⟩ : ∃ h, h = T % B32 := ⟨_, rfl⟩
          obtain ⟨t, ht⟩ : ∃ h, h = T / B32 := ⟨_, rfl⟩
          rw [← hs, ← ht] at hst
          rw [← ht] at hTL
          have hc32 : IntKind.u32.wrap (T : Int) = (s : Int) := by rw [IntKind.wrap_u32, hs]; unfold B32; omega
          have hsh : (T : Int) / 4294967296 = (t : Int) := by rw [ht]; unfold B32; omega
          have hsB : s < B32 := by rw [hs]; exact Nat.mod_lt _ (by unfold B32; omega)
          have hik : (i : Int) + (k : Int) < (k1 : Int) + (k2 : Int) := by omega
          have hwik : IntKind.i64.wrap ((i : Int) + (k : Int)) = (i : Int) + (k : Int) := IntWalk.i64_in _ (by omega)
          have hik0 : (0 : Int) ≤ (i : Int) + (k : Int) := by omega
          have hikn : ((i : Int) + (k : Int)).toNat = i + k := by omega
          have HCO : Hid (∀ w' : World, w'.heap[w.heap.size]? = wr.heap[w.heap.size]? → w'.cell? ⟨w.heap.size, i + k, none⟩ = some (.int .u32 (o : Int)) ∧ w'.frozen? ⟨w.heap.size, i + k, none⟩ = false) := fun w' h => by
            have hB : BlkV w' w.heap.size P := h.trans HBW.out
            exact ⟨hB.cell (i := i + k) (x := o) (by rw [← ho, List.getD_eq_getElem?_getD, List.getElem?_eq_getElem hpl]; rfl), hB.frozen (i + k)⟩
          have HTL := Lib.hid hTL
          have HSB := Lib.hid hsB
          have HST := Lib.hid hst
          have hbd : Below w.heap.size w wr.drew := HBEL.out.drew
          have d1 := HCX.out _ hbd
          have d2 := HCY.out _ hbd
          obtain ⟨d3, d4⟩ := HCO.out wr.drew rfl
          clear hy hcy hst hs ht hT hq hp ho hTL hsB hpl hyB hoB hcB hxBo hpB hbd
          go_wp2_with fail
          refine seq_start (S := fun w' => w'.cell? ⟨b1, f1 + i, none⟩ = some (.int .u32 (x : Int)) ∧ w'.cell? ⟨b2, f2 + k, none⟩ = some (.int .u32 (y : Int)) ∧ w'.cell? ⟨w.heap.size, i + k, none⟩ = some (.int .u32 (o : Int))) (by kernel_rfl) (by kernel_rfl) (by exact ⟨d1, d2, d3⟩) ?_
          repeat (first
            | (refine seq_take0 (v := ?_) ?_ (fun _ _ _ h => h) (by kernel_rfl) ?_ ?_; rotate_left; (focus rfl); (focus (intro w' hSw; (try dsimp only at hSw); go_simp; (try with_reducible rfl); done)); (try simp only [Act.put, List.setIfInBounds_toArray, List.set_cons_zero, List.set_cons_succ]))
            | (refine seq_takeG (v := ?_) (g := ?_) (d := ?_) (b := ?_) (u := ?_) ?_ ?_ ?_ ?_ (fun _ _ _ h => h) (by kernel_rfl) ?_ ?_; rotate_left 5; (focus rfl); (focus rfl); (focus rfl); (focus (first | rfl | (go_simp; done))); (focus (intro w' hSw; (try dsimp only at hSw); go_simp; (try with_reducible rfl); done)); (try simp only [Act.put, List.setIfInBounds_toArray, List.set_cons_zero, List.set_cons_succ]))
            | (refine seq_skipG (g := ?_) (d := ?_) (b := ?_) (u := ?_) ?_ ?_ ?_ ?_ (fun _ _ _ h => h) (by kernel_rfl) ?_; rotate_left 4; (focus rfl); (focus rfl); (focus rfl); (focus (first | rfl | (go_simp; done))); (try simp only [Act.put, List.setIfInBounds_toArray, List.set_cons_zero, List.set_cons_succ])))
          refine seq_done (by kernel_rfl) ?_
          clear hw0 hw0y hw0o hw1 hw2 hw3 hwik hikn
          go_wp2_with fail
          go_roundw
          case rel =>
            refine ⟨k + 1, t, P.set (i + k) s, by omega, rfl, by go_num, HTL.out, by show _ = _; rw [List.length_set]; exact HOL.out, fun z hz => ?_, fun j hj => ?_, (HBW.out.set_ (i + k) s).drew, (HBEL.out.setCell (Nat.le_refl _) _).drew, HST.out⟩
            · rcases List.mem_or_eq_of_mem_set hz with h | h
              · exact HOX.out z h
              · rw [h]; exact HSB.out
            · rw [List.getD_eq_getElem?_getD, List.getElem?_set_ne (by omega), ← List.getD_eq_getElem?_getD]; exact HOZ.out j hj
          case measure => simp [intOf]; omega
        · obtain rfl : k = k2 := by omega
          have hpl : i + k < P.length := by have := HOL.out; omega
          have ho := HOZ.out (i + k) (Nat.le_refl _)
          have hrow := times_row (B := B32) hpl HE2.out.symm ho (val_digs B32_2 n) HV.out
          have hcg := HBW.out.cell (i := i + k) (x := 0) (by rw [← ho, List.getD_eq_getElem?_getD, List.getElem?_eq_getElem hpl]; rfl)
          have hfg := HBW.out.frozen (i + k)
          have hik : (i : Int) + (k : Int) < (k1 : Int) + (k : Int) := by omega
          have hc32 : IntKind.u32.wrap (c : Int) = (c : Int) := by have := HCB.out; unfold B32 at this; rw [IntKind.wrap_u32]; omega
          have HROW : Hid (val B32 (P.set (i + k) c) = val B32 ((digs B32 m).take (i + 1)) * n) := by
            show _ = _
            rw [hrow, val_take B32 HX.out, HVe.out]
          clear hpl ho hrow
          go_wp2_with fail
          go_roundw
          case rel =>
            refine ⟨i + 1, P.set (i + k) c, by omega, by go_num, by show _ = _; rw [List.length_set]; exact HOL.out, fun z hz => ?_, fun j hj => ?_, HBW.out.set_ (i + k) c, HBEL.out.setCell (Nat.le_refl _) _, HROW.out⟩
            · rcases List.mem_or_eq_of_mem_set hz with h | h
              · exact HOX.out z h
              · rw [h]; exact HCB.out
            · rw [List.getD_eq_getElem?_getD, List.getElem?_set_ne (by omega), ← List.getD_eq_getElem?_getD]; exact HOZ.out j (by omega)
          case measure => simp [intOf]; omega
    · obtain rfl : i = k1 := by omega
      have HVV : Hid (val B32 O = m * n) := by
        show _ = _
        rw [HV.out, List.take_of_length_le (by rw [HE1.out]; exact Nat.le_refl _), val_digs B32_2]
      have HCUT := Lib.hid (rcut_numS _ _ O wr (HBW.out.rd0S (Nat.le_refl _) (n := i + k2) (cap := i + k2) (HOL.out.symm) (Nat.le_refl _) (by unfold maxLen; omega)) HOX.out)
      rw [HVV.out] at HCUT
      go_wp2_with (go_at_call 89; refine HCUT.out.mono ?_; rintro e w2 ⟨⟨v', rfl, hr⟩, rfl⟩; have HR := Lib.hid hr; clear hr)
      go_ret
      exact ⟨⟨_, rfl, HR.out⟩, HBEL.out⟩
theorem rprod_any (va vb : Value) (m n : Nat) (w : World) (hP : RdM w va m) (hQ : RdM w vb n) (hm6 : dm m ≤ 1900000) (hn6 : dm n ≤ 1900000) :
    Calls Tryz.prog 64 #[va, vb] w fun e w' => (∃ v', e = .returned v' ∧ RdM w' v' (m * n)) ∧ Below w.heap.size w w' :=
  (rprod_own va vb m n w hP hQ hm6 hn6).mono fun e w' ⟨⟨v', h1, h2⟩, h3⟩ => ⟨⟨v', h1, h2.all⟩, h3⟩
set_option maxRecDepth 100000 in
set_option maxHeartbeats 4000000 in
theorem rbyWord_any (va : Value) (m d : Nat) (w : World) (hP : RdM w va m) (hd : 0 < d) (hdB : d < B32) (hm6 : dm m ≤ 1900000) :
    Calls Tryz.prog 101 #[va, .int .u32 (d : Int)] w fun e w' => (∃ v', e = .returned (.tuple #[v', .int .u32 ((m % d : Nat) : Int)]) ∧ RdM w' v' (m / d)) ∧ Below w.heap.size w w' := by
  have hmk := make_words32
  obtain ⟨A1, k1, c1, rfl, e1, hk1, _, hm1, hc1⟩ := RdV.open_ hP
  have hk16 : k1 ≤ 1900000 := by unfold dm at hm6; omega
  have HE1 := Lib.hid e1
  have HC1 := Lib.hid hc1
  have HMK := hmk k1 k1 (Nat.le_refl _) (by omega)
  obtain ⟨C0, hC0⟩ : ∃ C, C = ((List.replicate k1 0).map u32V).toArray := ⟨_, rfl⟩
  rw [← hC0] at HMK
  have HB0 : Hid (BlkV (w.alloc (.cells C0 119)) w.heap.size (List.replicate k1 0)) := by rw [hC0]; exact BlkV.new w _
  have HD := Lib.hid hd
  have HDB := Lib.hid hdB
  have hdn : ¬ (d = 0) := by omega
  have hwd : IntKind.u64.wrap (d : Int) = (d : Int) := wrap_nat d (by unfold B32 at hdB; omega)
  clear hmk e1 hc1 hP hC0 hm6 hd hdB
  go_enter Tryz.func101, Tryz.ntmps101
  go_wp2_with fail
  go_loopw [7, 8] (fun rv iv wr => ∃ (k r : Nat) (O : List Nat), k ≤ k1 ∧ rv = .int .u64 (r : Int) ∧ iv = .int .i64 ((k : Int) - 1) ∧ Hid (r < d) ∧ Hid (O.length = k1) ∧ Hid (∀ x ∈ O, x < B32) ∧ Hid (BlkV wr w.heap.size O) ∧ Hid (Below w.heap.size w wr) ∧ Hid (val B32 ((digs B32 m).drop k) = val B32 (O.drop k) * d + r)) (fun _ iv _ => (intOf iv + 1).toNat)
  case atStart =>
    refine ⟨k1, 0, List.replicate k1 0, Nat.le_refl _, rfl, rfl, HD.out, by show _ = _; simp, fun x hx => ?_, HB0, (Below.refl _ w).alloc (Nat.le_refl _) _, ?_⟩
    · rw [List.eq_of_mem_replicate hx]; unfold B32; omega
    · show _ = _
      rw [List.drop_of_length_le (by rw [HE1.out]; exact Nat.le_refl _), List.drop_of_length_le (by simp)]; simp [val]
  case round =>
    obtain ⟨k, r, O, hk, rfl, rfl, HRD, HOL, HOX, HBW, HBEL, HV⟩ := hrel
    by_cases hk0 : k = 0
    · subst hk0
      have HV0 : Hid (val B32 O = m / d ∧ r = m % d) := by
        have h1 := HV.out
        rw [List.drop_zero, List.drop_zero, val_digs B32_2] at h1
        have h2 := HRD.out
        have := HD.out
        exact ⟨by rw [h1, Nat.mul_comm, Nat.mul_add_div this, Nat.div_eq_of_lt h2, Nat.add_zero], by rw [h1, Nat.mul_comm, Nat.mul_add_mod, Nat.mod_eq_of_lt h2]⟩
      have HCUT := Lib.hid (rcut_num _ O wr (HBW.out.rd0 (n := k1) (cap := k1) (HOL.out.symm) (Nat.le_refl _) (by unfold maxLen; omega)) HOX.out)
      rw [HV0.out.1] at HCUT
      have hr32 : IntKind.u32.wrap (r : Int) = (r : Int) := by have := HRD.out; have := HDB.out; unfold B32 at this; rw [IntKind.wrap_u32]; omega
      go_wp2_with (go_at_call 89; refine HCUT.out.mono ?_; rintro e w2 ⟨⟨v', rfl, hr⟩, rfl⟩; have HR := Lib.hid hr; clear hr)
      go_ret2
      exact ⟨⟨_, by rw [← HV0.out.2]; rfl, HR.out⟩, HBEL.out⟩
    · obtain ⟨j, rfl⟩ : ∃ j, k = j + 1 := ⟨k - 1, by omega⟩
      have hj : (((j + 1 : Nat) : Int) - 1) = (j : Int) := by omega
      rw [hj]
      obtain ⟨b1, f1, x, rfl, hb1, hx, hcx⟩ := HC1.out j (by omega)
      have hxB := digs_lt B32_2 m x (List.mem_of_getElem? hx)
      have hcx' := (HBEL.out.cell (p := ⟨b1, f1 + j, none⟩) hb1).trans hcx
      have hst := byWord_step (B := B32) (O := O) (k := j) (r := r) (d := d) (by have := HOL.out; omega) hx HD.out HV.out
      obtain ⟨T, hT⟩ : ∃ T, T = r * B32 + x := ⟨_, rfl⟩
      rw [← hT] at hst
      obtain ⟨s, hs⟩ : ∃ s, s = T / d := ⟨_, rfl⟩
      obtain ⟨t, ht⟩ : ∃ t, t = T % d := ⟨_, rfl⟩
      rw [← hs, ← ht] at hst
      have htd : t < d := by rw [ht]; exact Nat.mod_lt _ HD.out
      have hTB : T < d * B32 := by
        have : (r + 1) * B32 ≤ d * B32 := Nat.mul_le_mul_right _ HRD.out
        rw [Nat.add_mul, Nat.one_mul] at this
        omega
      have hsB : s < B32 := by rw [hs, Nat.div_lt_iff_lt_mul HD.out, Nat.mul_comm]; exact hTB
      have hdBo := HDB.out
      have hrd := HRD.out
      unfold B32 at hxB hT hdBo hTB hsB
      obtain ⟨R, hR⟩ : ∃ R, R = r * 4294967296 := ⟨_, rfl⟩
      have hwR : IntKind.u64.wrap ((r : Int) * 4294967296) = (R : Int) := by rw [show (r : Int) * 4294967296 = (R : Int) by omega]; exact wrap_nat R (by omega)
      have hwx : IntKind.u64.wrap (x : Int) = (x : Int) := wrap_nat x (by omega)
      have hor : bits .or .u64 (R : Int) (x : Int) = (T : Int) := by
        rw [bits_or_u64_nat _ _ (by omega) (by omega), hT, hR, show (4294967296 : Nat) = 2 ^ 32 by decide, Nat.mul_comm, ← Nat.two_pow_add_eq_or_of_lt (by omega)]
      have hdq : IntKind.u64.wrap ((T : Int) / (d : Int)) = (s : Int) := by rw [← Int.natCast_ediv, ← hs]; exact wrap_nat _ (by omega)
      have hdr : ((T : Int) % (d : Int)) = (t : Int) := by rw [← Int.natCast_emod, ← ht]
      have hs32 : IntKind.u32.wrap (s : Int) = (s : Int) := by rw [IntKind.wrap_u32]; omega
      have hcg := HBW.out.cell (i := j) (x := O.getD j 0) (by rw [List.getD_eq_getElem?_getD, List.getElem?_eq_getElem (by have := HOL.out; omega)]; rfl)
      have hfg := HBW.out.frozen j
      have HTD := Lib.hid htd
      have HSB : Hid (s < B32) := hsB
      have HSTP := Lib.hid hst
      have hk1i : (j : Int) < (k1 : Int) := by omega
      clear hx hcx hst hs ht hxB hsB htd hk0 hj hT hR hTB hdBo hrd
      go_wp2_with fail
      go_roundw
      case rel =>
        refine ⟨j, t, O.set j s, by omega, by first | rfl | exact val_int hdr, rfl, HTD.out, by show _ = _; rw [List.length_set]; exact HOL.out, fun z hz => ?_, HBW.out.set_ j s, HBEL.out.setCell (Nat.le_refl _) _, HSTP.out⟩
        rcases List.mem_or_eq_of_mem_set hz with h | h
        · exact HOX.out z h
        · rw [h]; exact HSB.out
      case measure => simp [intOf]
end Go.Proofs.YtogccnngdfancaaGreat
