/- The walk of Bound. The walks of slices.IndexFunc and slices.ContainsFunc over a function value of which a contract is known. The walks of fits. The walks of fits. What Plan reckons, in plain words: the free time of a press, the earliest time for a job. Plan in plain words. -/
import Derived.Test.YtogccnngdfancaaGreatPart03
import Derived.Test.YtogccnngdfancaaGreatPart01
import Derived.Test.YtogccnngdfancaaGreatPart02
namespace Go.Proofs.YtogccnngdfancaaGreat
open Go.RowKit
set_option linter.unusedVariables false
set_option linter.unusedSimpArgs false
theorem room_le : ∀ {l : List Int} {r : Int}, roomErr r l = 0 → (∀ x ∈ l, 0 ≤ x) → ∀ x ∈ l, x ≤ r
  | [], _, _, _, _, h => by cases h
  | y :: l, r, h, h0, x, hx => by
    simp only [roomErr] at h
    split at h
    · cases h
    · have hy := h0 y (List.mem_cons_self ..)
      rcases List.mem_cons.1 hx with rfl | hx
      · omega
      · have := room_le h (fun z hz => h0 z (List.mem_cons_of_mem _ hz)) x hx; omega
theorem okUp_yes {d : WorksD} {n : Nat} (h : okUp d n = true) {k : Nat} (hk : k < n) : okK d k = true := by
  unfold okUp at h
  exact List.all_eq_true.1 h k (List.mem_range.2 hk)
structure WGood (d : WorksD) : Prop where
  ok : WOk d
  n64 : ∀ k : Nat, k < d.cure.length → needOf d k ≤ 64
  room : roomErr 64 d.need = 0
theorem wgood_of {d : WorksD} (h : wErr d = 0) : WGood d := by
  unfold wErr at h
  split at h
  · cases h
  split at h
  · cases h
  split at h
  · cases h
  rename_i a b c
  have hup : okUp d d.cure.length = true := by simpa using c
  have hk : ∀ k : Nat, k < d.cure.length → 1 ≤ cureOf d k ∧ cureOf d k ≤ 1000 ∧ 0 ≤ needOf d k ∧ 1 ≤ mouldOf d k := fun k hk => by
    have := okUp_yes hup hk
    unfold okK at this
    simpa using this
  have hn : d.need.length = d.cure.length := by omega
  have hm : d.moulds.length = d.cure.length := by omega
  have hmem : ∀ x ∈ d.need, ∃ k : Nat, k < d.cure.length ∧ needOf d k = x := fun x hx => by
    obtain ⟨k, hk⟩ := List.mem_iff_getElem?.1 hx
    refine ⟨k, by rw [← hn]; exact (List.getElem?_eq_some_iff.1 hk).1, ?_⟩
    unfold needOf
    rw [Int.toNat_natCast, at_of hk]
  have h0 : ∀ x ∈ d.need, 0 ≤ x := fun x hx => by
    obtain ⟨k, h1, rfl⟩ := hmem x hx
    exact (hk k h1).2.2.1
  refine ⟨⟨by omega, by omega, by omega, by omega, hn, hm, by omega, fun k h1 => ⟨(hk k h1).1, (hk k h1).2.1⟩, fun k h1 => (hk k h1).2.2.1, fun k h1 => (hk k h1).2.2.2⟩, fun k h1 => ?_, h⟩
  refine room_le h h0 _ ?_
  unfold needOf
  rw [Int.toNat_natCast, List.getD_eq_getElem?_getD, List.getElem?_eq_getElem (by omega)]
  exact List.getElem_mem _
theorem up_bd {a b : Int} (ha : 0 ≤ a) (hb : 1 ≤ b) : 0 ≤ upZ a b ∧ upZ a b ≤ a := by
  unfold upZ
  refine ⟨Int.ediv_nonneg (by omega) (by omega), ?_⟩
  have : (a + b - 1) / b < a + 1 := Int.ediv_lt_of_lt_mul (by omega) (by
    have : a + 1 ≤ (a + 1) * b := by have := Int.mul_le_mul_of_nonneg_left hb (show 0 ≤ a + 1 by omega); omega
    have h2 : (a + 1) * b = a * b + b := by rw [Int.add_mul]; omega
    have h3 : a ≤ a * b := by have := Int.mul_le_mul_of_nonneg_left hb ha; omega
    omega)
  omega
theorem mul_bd {a b x y : Int} (ha : 0 ≤ a) (ha2 : a ≤ x) (hb : 0 ≤ b) (hb2 : b ≤ y) : 0 ≤ a * b ∧ a * b ≤ x * y :=
  ⟨Int.mul_nonneg ha hb, Int.mul_le_mul ha2 hb2 hb (by omega)⟩
theorem boundK_bd {d : WorksD} (hw : WGood d) : ∀ k, k ≤ d.cure.length → 0 ≤ boundK d k ∧ boundK d k ≤ 64000
  | 0, _ => by simp [boundK]
  | k + 1, hk => by
    have ih := boundK_bd hw k (by omega)
    have h1 := hw.ok.cure k (by omega)
    have h2 := hw.ok.need k (by omega)
    have h3 := hw.n64 k (by omega)
    have h4 := hw.ok.mould k (by omega)
    have h5 := hw.ok.p1
    have h6 := up_bd h2 (b := min (mouldOf d k) d.presses) (by omega)
    have h7 := mul_bd (a := cureOf d k) (b := upZ (needOf d k) (min (mouldOf d k) d.presses)) (x := 1000) (y := 64) (by omega) h1.2 h6.1 (by omega)
    simp only [boundK]; omega
theorem work_bd {d : WorksD} (hw : WGood d) : ∀ k, k ≤ d.cure.length → 0 ≤ sumR k (fun k => cureOf d k * needOf d k) ∧ sumR k (fun k => cureOf d k * needOf d k) ≤ 64000 * k
  | 0, _ => by simp [sumR]
  | k + 1, hk => by
    have ih := work_bd hw k (by omega)
    have h1 := hw.ok.cure k (by omega)
    have h2 := hw.ok.need k (by omega)
    have h3 := hw.n64 k (by omega)
    have h7 := mul_bd (a := cureOf d k) (b := needOf d k) (x := 1000) (y := 64) (by omega) h1.2 h2 h3
    simp only [sumR]; omega
theorem kinds_bd {d : WorksD} : ∀ k, 0 ≤ sumR k (fun k => if 0 < needOf d k then 1 else 0) ∧ sumR k (fun k => if 0 < needOf d k then 1 else 0) ≤ k
  | 0 => by simp [sumR]
  | k + 1 => by
    have ih := kinds_bd (d := d) k
    simp only [sumR]
    split <;> omega
set_option maxRecDepth 100000 in
set_option maxHeartbeats 2000000 in
theorem Bound_any (v : Value) (d : WorksD) (S : Nat → Prop) (w : World) (hv : WkV w S v d) :
    Calls Tryz.prog 9 #[v] w fun e w' => e = .returned (.tuple #[.int .i64 (if wErr d = 0 then boundW d else 0), .int .i64 (wErr d)]) ∧ Below w.heap.size w w' := by
  have HCH := Lib.hid (fun w' (h : Below w.heap.size w w') => wcheck_any v d S w' (hv.below h))
  obtain ⟨vc, vn, vm, rfl, h1, h2, h3⟩ := hv.lt
  obtain ⟨Ac, nc, cc, rfl, hnc, -, hmc, hcc⟩ := h1.open_
  obtain ⟨An, nn, cn, rfl, hnn, -, hmn, hcn⟩ := h2.open_
  obtain ⟨Am, nm, cm, rfl, hnm, -, hmm, hcm⟩ := h3.open_
  obtain ⟨we, hwe⟩ : ∃ we, we = wErr d := ⟨_, rfl⟩
  rw [← hwe] at HCH ⊢
  obtain ⟨bo, hbo⟩ : ∃ bo, bo = (if we = 0 then boundW d else 0) := ⟨_, rfl⟩
  rw [← hbo]
  have HBO := Lib.hid hbo
  obtain ⟨W1, hW1⟩ : ∃ W1, W1 = w.alloc (.cells #[.int .i64 d.presses, .int .i64 d.change, .slice Ac nc cc, .slice An nn cn, .slice Am nm cm] 38) := ⟨_, rfl⟩
  have hm1 := heap_alloc_new w (.cells #[.int .i64 d.presses, .int .i64 d.change, .slice Ac nc cc, .slice An nn cn, .slice Am nm cm] 38)
  have hb1 : Below w.heap.size w W1 := by rw [hW1]; exact (Below.refl _ w).alloc (Nat.le_refl _) _
  rw [← hW1] at hm1
  have x0 : W1.cell? ⟨w.heap.size, 0, none⟩ = some (.int .i64 d.presses) := cell_of_row W1 _ 0 _ _ _ hm1
  have x1 : W1.cell? ⟨w.heap.size, 1, none⟩ = some (.int .i64 d.change) := cell_of_row W1 _ 1 _ _ _ hm1
  have x2 : W1.cell? ⟨w.heap.size, 2, none⟩ = some (.slice Ac nc cc) := cell_of_row W1 _ 2 _ _ _ hm1
  have x3 : W1.cell? ⟨w.heap.size, 3, none⟩ = some (.slice An nn cn) := cell_of_row W1 _ 3 _ _ _ hm1
  have x4 : W1.cell? ⟨w.heap.size, 4, none⟩ = some (.slice Am nm cm) := cell_of_row W1 _ 4 _ _ _ hm1
  have HW1 := Lib.hid hW1
  have HB1 := Lib.hid hb1
  have HM1 := Lib.hid hm1
  have HCC := Lib.hid hcc
  have HCN := Lib.hid hcn
  have HCM := Lib.hid hcm
  have HNC := Lib.hid hnc
  have HNN := Lib.hid hnn
  have HNM := Lib.hid hnm
  have HWE := Lib.hid hwe
  clear hW1 hm1 hb1 hcc hcn hcm hnc hnn hnm h1 h2 h3 hv hwe hbo
  by_cases hz : we = 0
  · subst hz
    have hg := wgood_of HWE.out.symm
    have hnn' : nn = nc := by have := HNN.out; have := HNC.out; have := hg.ok.n1; omega
    have hnm' : nm = nc := by have := HNM.out; have := HNC.out; have := hg.ok.n2; omega
    subst hnn'
    subst hnm'
    have HG := Lib.hid hg
    have hp1 := hg.ok.p1
    have hp8 := hg.ok.p8
    have hc0 := hg.ok.c0
    have hc1 := hg.ok.c1
    have hn8 : nm ≤ 8 := by have := hg.ok.n8; have := HNC.out; omega
    clear hg
    have HB0 : Hid (bo = boundW d) := by show _ = _; rw [HBO.out, if_pos rfl]
    go_enter Tryz.func9, Tryz.ntmps9
    go_wp2_with fail
    rw [← HW1.out]
    refine (HCH.out W1 HB1.out).mono ?_
    rintro e w2 ⟨rfl, hb2⟩
    have HB2 := Lib.hid (HB1.out.trans (hb2.mono HB1.out.size))
    have hm2 := (hb2.block _ (Array.getElem?_eq_some_iff.1 HM1.out).1).trans HM1.out
    have y0 : w2.cell? ⟨w.heap.size, 0, none⟩ = some (.int .i64 d.presses) := cell_of_row w2 _ 0 _ _ _ hm2
    have y1 : w2.cell? ⟨w.heap.size, 1, none⟩ = some (.int .i64 d.change) := cell_of_row w2 _ 1 _ _ _ hm2
    have y2 : w2.cell? ⟨w.heap.size, 2, none⟩ = some (.slice Ac nm cc) := cell_of_row w2 _ 2 _ _ _ hm2
    have HM2 := Lib.hid hm2
    clear hb2 x0 x1 x2 x3 x4 hm2
    go_wp2_with fail
    clear y0 y1 y2
    go_loopw [5, 6, 7, 18] (fun ov kv nv iv wr => ∃ (i : Nat) (o k n : Int), i ≤ nm ∧ iv = .int .i64 (i : Int) ∧ ov = .int .i64 o ∧ kv = .int .i64 k ∧ nv = .int .i64 n ∧ o = boundK d i ∧ k = sumR i (fun k => cureOf d k * needOf d k) ∧ n = sumR i (fun k => if 0 < needOf d k then 1 else 0) ∧ Below w2.heap.size w2 wr) (fun _ _ _ iv _ => nm - (intOf iv).toNat)
    case atStart => exact ⟨0, 0, 0, 0, Nat.zero_le _, rfl, rfl, rfl, rfl, rfl, rfl, rfl, Below.refl _ _⟩
    case round =>
      obtain ⟨i, o, k, n, hi, rfl, rfl, rfl, rfl, ho, hk, hn, hbel⟩ := hrel
      have HBR := Lib.hid (HB2.out.trans (hbel.mono HB2.out.size))
      have hmr := (hbel.block _ (Array.getElem?_eq_some_iff.1 HM2.out).1).trans HM2.out
      have y0 : wr.cell? ⟨w.heap.size, 0, none⟩ = some (.int .i64 d.presses) := cell_of_row wr _ 0 _ _ _ hmr
      have y1 : wr.cell? ⟨w.heap.size, 1, none⟩ = some (.int .i64 d.change) := cell_of_row wr _ 1 _ _ _ hmr
      have y3 : wr.cell? ⟨w.heap.size, 3, none⟩ = some (.slice An nm cn) := cell_of_row wr _ 3 _ _ _ hmr
      have y4 : wr.cell? ⟨w.heap.size, 4, none⟩ = some (.slice Am nm cm) := cell_of_row wr _ 4 _ _ _ hmr
      have HBEL := Lib.hid hbel
      have hob := boundK_bd HG.out i (by have := HNC.out; omega)
      have hkb := work_bd HG.out i (by have := HNC.out; omega)
      have hnb := kinds_bd (d := d) i
      rw [← ho] at hob
      rw [← hk] at hkb
      rw [← hn] at hnb
      obtain ⟨o0, o1⟩ := hob
      obtain ⟨k0, k1⟩ := hkb
      obtain ⟨n0, n1⟩ := hnb
      have k2 : k ≤ 512000 := by omega
      have HO := Lib.hid ho
      have HK := Lib.hid hk
      have HN := Lib.hid hn
      clear hbel hmr ho hk hn k1
      by_cases hlt : i < nm
      · obtain ⟨b1, f1, c, hA1, ⟨_, hl1⟩, hc, hcl1⟩ := HCC.out i hlt
        obtain ⟨b2, f2, q, hA2, ⟨_, hl2⟩, hq, hcl2⟩ := HCN.out i hlt
        obtain ⟨b3, f3, m, hA3, ⟨_, hl3⟩, hm, hcl3⟩ := HCM.out i hlt
        cases hA1
        cases hA2
        cases hA3
        have hcv : cureOf d i = c := by unfold cureOf; rw [Int.toNat_natCast, at_of hc]
        have hqv : needOf d i = q := by unfold needOf; rw [Int.toNat_natCast, at_of hq]
        have hmv : mouldOf d i = m := by unfold mouldOf; rw [Int.toNat_natCast, at_of hm]
        have hil : i < d.cure.length := by have := HNC.out; omega
        have g1 := HG.out.ok.cure i hil
        have g2 := HG.out.ok.need i hil
        have g3 := HG.out.n64 i hil
        have g4 := HG.out.ok.mould i hil
        rw [hcv] at g1
        rw [hqv] at g2 g3
        rw [hmv] at g4
        obtain ⟨g5, g6⟩ := g1
        have z1 := (HBR.out.cell (p := ⟨b1, _, none⟩) hl1).trans hcl1
        have z2 := (HBR.out.cell (p := ⟨b2, _, none⟩) hl2).trans hcl2
        have z3 := (HBR.out.cell (p := ⟨b3, _, none⟩) hl3).trans hcl3
        have hK : boundK d (i + 1) = max o (c * upZ q (min m d.presses)) := by rw [HO.out, ← hcv, ← hqv, ← hmv]; rfl
        have hS : sumR (i + 1) (fun k => cureOf d k * needOf d k) = k + c * q := by rw [HK.out, ← hcv, ← hqv]; rfl
        have hT : sumR (i + 1) (fun k => if 0 < needOf d k then 1 else 0) = n + if 0 < q then 1 else 0 := by rw [HN.out, ← hqv]; rfl
        obtain ⟨mm, hmm'⟩ : ∃ mm, mm = min m d.presses := ⟨_, rfl⟩
        have hminE : (if d.presses < m then d.presses else m) = mm := by rw [hmm']; split <;> omega
        have hmm1 : 1 ≤ mm := by omega
        have hmm8 : mm ≤ 8 := by omega
        rw [← hmm'] at hK
        have hub := up_bd g2 hmm1
        have HUP := Lib.hid (fun w' => up_any q mm w' g2 (by omega) hmm1 (by omega))
        obtain ⟨u, hu⟩ : ∃ u, u = upZ q mm := ⟨_, rfl⟩
        rw [← hu] at hub hK HUP
        have hcu := mul_bd (a := c) (b := u) (x := 1000) (y := 64) (by omega) g6 hub.1 (by omega)
        have hcq := mul_bd (a := c) (b := q) (x := 1000) (y := 64) (by omega) g6 g2 g3
        have HKK := Lib.hid hK
        have HSS := Lib.hid hS
        have HTT := Lib.hid hT
        have HMM := Lib.hid hmm'
        obtain ⟨hcu0, hcu1⟩ := hcu
        obtain ⟨o2, ho2⟩ : ∃ o2, o2 = max o (c * u) := ⟨_, rfl⟩
        have hmaxE : (if o < c * u then c * u else o) = o2 := by rw [ho2]; split <;> omega
        have HO2 : Hid (o2 = boundK d (i + 1)) := by show _ = _; rw [ho2, HKK.out]
        obtain ⟨hcq0, hcq1⟩ := hcq
        obtain ⟨hu0, hu1⟩ := hub
        have hlti : (i : Int) < (nm : Int) := by omega
        have hi0 : (0 : Int) ≤ (i : Int) := by omega
        have hw1 : IntKind.i64.wrap (c * u) = c * u := IntWalk.i64_in _ (by omega)
        clear hc hq hm hcl1 hcl2 hcl3 hcv hqv hmv hK hS hT hmm' hu ho2
        go_wp2_with fail
        refine seq_start (S := fun w' => w'.cell? ⟨w.heap.size, 0, none⟩ = some (.int .i64 d.presses) ∧ w'.cell? ⟨w.heap.size, 3, none⟩ = some (.slice (some ⟨b2, f2, none⟩) nm cn) ∧ w'.cell? ⟨w.heap.size, 4, none⟩ = some (.slice (some ⟨b3, f3, none⟩) nm cm) ∧ w'.cell? ⟨b2, f2 + i, none⟩ = some (.int .i64 q) ∧ w'.cell? ⟨b3, f3 + i, none⟩ = some (.int .i64 m)) (by kernel_rfl) (by kernel_rfl) (by exact ⟨y0, y3, y4, z2, z3⟩) ?_
        repeat (first
          | (refine seq_take0 (v := ?_) ?_ (fun _ _ _ h => h) (by kernel_rfl) ?_ ?_; rotate_left; (focus rfl); (focus (intro w' hSw; (try dsimp only at hSw); go_simp; (try with_reducible rfl); done)); (try simp only [Act.put, List.setIfInBounds_toArray, List.set_cons_zero, List.set_cons_succ]))
          | (refine seq_takeG (v := ?_) (g := ?_) (d := ?_) (b := ?_) (u := ?_) ?_ ?_ ?_ ?_ (fun _ _ _ h => h) (by kernel_rfl) ?_ ?_; rotate_left 5; (focus rfl); (focus rfl); (focus rfl); (focus (first | rfl | (go_simp; done))); (focus (intro w' hSw; (try dsimp only at hSw); go_simp; (try with_reducible rfl); done)); (try simp only [Act.put, List.setIfInBounds_toArray, List.set_cons_zero, List.set_cons_succ]))
          | (refine seq_skipG (g := ?_) (d := ?_) (b := ?_) (u := ?_) ?_ ?_ ?_ ?_ (fun _ _ _ h => h) (by kernel_rfl) ?_; rotate_left 4; (focus rfl); (focus rfl); (focus rfl); (focus (first | rfl | (go_simp; done))); (try simp only [Act.put, List.setIfInBounds_toArray, List.set_cons_zero, List.set_cons_succ])))
        refine seq_op (by kernel_rfl) (by rfl) (fun K hK => ?_)
        go_simp
        refine (HUP.out _).mono ?_
        rintro e w' ⟨rfl, rfl⟩
        refine hK.out _ _ ⟨y0, y3, y4, z2, z3⟩ ?_
        clear hK K
        repeat (first
          | (refine seq_take0 (v := ?_) ?_ (fun _ _ _ h => h) (by kernel_rfl) ?_ ?_; rotate_left; (focus rfl); (focus (intro w' hSw; (try dsimp only at hSw); go_simp; (try with_reducible rfl); done)); (try simp only [Act.put, List.setIfInBounds_toArray, List.set_cons_zero, List.set_cons_succ]))
          | (refine seq_takeG (v := ?_) (g := ?_) (d := ?_) (b := ?_) (u := ?_) ?_ ?_ ?_ ?_ (fun _ _ _ h => h) (by kernel_rfl) ?_ ?_; rotate_left 5; (focus rfl); (focus rfl); (focus rfl); (focus (first | rfl | (go_simp; done))); (focus (intro w' hSw; (try dsimp only at hSw); go_simp; (try with_reducible rfl); done)); (try simp only [Act.put, List.setIfInBounds_toArray, List.set_cons_zero, List.set_cons_succ]))
          | (refine seq_skipG (g := ?_) (d := ?_) (b := ?_) (u := ?_) ?_ ?_ ?_ ?_ (fun _ _ _ h => h) (by kernel_rfl) ?_; rotate_left 4; (focus rfl); (focus rfl); (focus rfl); (focus (first | rfl | (go_simp; done))); (try simp only [Act.put, List.setIfInBounds_toArray, List.set_cons_zero, List.set_cons_succ])))
        refine seq_done (by kernel_rfl) ?_
        have HBD : Hid (Below w2.heap.size w2 wr.drew) := HBEL.out.drew
        have hcqw : c * q ≤ 64000 := by omega
        clear hminE hmaxE hw1
        by_cases hq0 : 0 < q
        · have HTT2 : Hid (n + 1 = sumR (i + 1) (fun k => if 0 < needOf d k then 1 else 0)) := by show _ = _; rw [HTT.out, if_pos hq0]
          go_wp2_with fail
          go_roundw
          case rel => exact ⟨i + 1, o2, _, _, by omega, by go_num, rfl, rfl, rfl, HO2.out, HSS.out.symm, HTT2.out, HBD.out⟩
          case measure => simp [intOf]; omega
        · have HTT2 : Hid (n = sumR (i + 1) (fun k => if 0 < needOf d k then 1 else 0)) := by show _ = _; rw [HTT.out, if_neg hq0, Int.add_zero]
          go_wp2_with fail
          go_roundw
          case rel => exact ⟨i + 1, o2, _, _, by omega, by go_num, rfl, rfl, rfl, HO2.out, HSS.out.symm, HTT2.out, HBD.out⟩
          case measure => simp [intOf]; omega
      · have hin : i = nm := by omega
        have hlen : d.cure.length = nm := HNC.out
        have HO3 : Hid (o = boundK d d.cure.length) := by show _ = _; rw [hlen, ← hin]; exact HO.out
        have HK3 : Hid (k = workOf d) := by show _ = _; unfold workOf; rw [hlen, ← hin]; exact HK.out
        have HN3 : Hid (n = kindsOf d) := by show _ = _; unfold kindsOf; rw [hlen, ← hin]; exact HN.out
        obtain ⟨x, hx⟩ : ∃ x, x = max (n - d.presses) 0 := ⟨_, rfl⟩
        have hx0 : 0 ≤ x := by omega
        have hx8 : x ≤ 8 := by omega
        have hcx := mul_bd (a := d.change) (b := x) (x := 1000) (y := 8) hc0 hc1 hx0 hx8
        obtain ⟨hcx0, hcx1⟩ := hcx
        have hub := up_bd (a := k + d.change * x) (b := d.presses) (by omega) hp1
        have HUP := Lib.hid (fun w' => up_any (k + d.change * x) d.presses w' (by omega) (by omega) hp1 (by omega))
        have HRES : Hid (bo = max o (upZ (k + d.change * x) d.presses)) := by
          show _ = _
          rw [HB0.out]
          unfold boundW
          rw [← HO3.out, ← HK3.out, ← HN3.out, ← hx]
        have hmaxE : (if n - d.presses < 0 then 0 else n - d.presses) = x := by rw [hx]; split <;> omega
        obtain ⟨u2, hu2⟩ : ∃ u2, u2 = upZ (k + d.change * x) d.presses := ⟨_, rfl⟩
        rw [← hu2] at HUP HRES
        have HU2 : Hid ((if o < u2 then u2 else o) = bo) := by show _ = _; rw [HRES.out]; split <;> omega
        have hlti : ¬ ((i : Int) < (nm : Int)) := by omega
        clear hx hin hlen hub HO HK HN hu2
        go_wp2_with fail
        refine (HUP.out _).mono ?_
        rintro e w' ⟨rfl, rfl⟩
        have hm2 := HU2.out
        clear hmaxE
        go_wp2_with fail
        go_ret2
        exact ⟨rfl, HBR.out⟩
  · have hz' : (we != 0) = true := by rw [bne_iff_ne]; exact hz
    have HZ : Hid (bo = 0) := by show bo = 0; rw [HBO.out, if_neg hz]
    clear hz
    go_enter Tryz.func9, Tryz.ntmps9
    go_wp2_with fail
    rw [← HW1.out]
    refine (HCH.out W1 HB1.out).mono ?_
    rintro e w2 ⟨rfl, hb2⟩
    have HB2 := Lib.hid (HB1.out.trans (hb2.mono HB1.out.size))
    clear hb2 x0 x1 x2 x3 x4
    go_wp2_with fail
    go_ret2
    exact ⟨by rw [HZ.out]; rfl, HB2.out⟩
end Go.Proofs.YtogccnngdfancaaGreat
namespace Go.Proofs.YtogccnngdfancaaGreat
open Go.RowKit

/-- The first place below n at which p holds; -1 if there is none. -/
def firstIdx (p : Nat → Bool) (n : Nat) : Int := match (List.range n).find? p with | some i => i | none => -1
theorem firstIdx_hit {p : Nat → Bool} {n k : Nat} (hk : k < n) (h : p k = true) (hn : ∀ j, j < k → p j = false) : firstIdx p n = k := by
  unfold firstIdx
  have : (List.range n).find? p = some k := by
    rw [List.find?_range_eq_some]
    exact ⟨h, by simpa using hk, fun j hj => by simp [hn j hj]⟩
  rw [this]
theorem firstIdx_miss {p : Nat → Bool} {n : Nat} (hn : ∀ j, j < n → p j = false) : firstIdx p n = -1 := by
  unfold firstIdx
  have : (List.range n).find? p = none := by rw [List.find?_eq_none]; intro j hj; simp [hn j (List.mem_range.1 hj)]
  rw [this]

set_option maxHeartbeats 400000 in
theorem indexFunc105_any (v : Value) (vs : List Value) (S : Nat → Prop) (fid : FuncId) (cpt : Array Value) (eg : ∀ args w, (callFunc fid args).run Tryz.prog w = .ok (.enter fid args) w) (p : Nat → Bool) (w : World) (hv : Rd id w S v vs)
    (hf : ∀ i u, vs[i]? = some u → ∀ w', Below w.heap.size w w' → Calls Tryz.prog fid (#[u] ++ cpt) w' fun e w'' => e = .returned (.bool (p i)) ∧ Below w'.heap.size w' w'') :
    Calls Tryz.prog 103 #[v, .func (.func fid) #[] cpt] w fun e w' => e = .returned (.int .i64 (firstIdx p vs.length)) ∧ Below w.heap.size w w' := by
  obtain ⟨A, n, cap, rfl, hn, hcap, hmax, hc⟩ := hv.lt.open_
  rw [hn]
  have HF := Lib.hid hf
  have HN := Lib.hid hn
  clear hn hf
  go_enter Tryz.func103, Tryz.ntmps103
  go_wp2_with fail
  go_loopw [8] (fun i wr => ∃ k : Nat, k ≤ n ∧ i = .int .i64 k ∧ Hid (∀ j, j < k → p j = false) ∧ Below w.heap.size w wr) (fun i _ => n - (intOf i).toNat)
  case atStart => exact ⟨0, by omega, rfl, fun j hj => absurd hj (by omega), Below.refl _ _⟩
  case round =>
    obtain ⟨k, hk, rfl, HK, hbl⟩ := hrel
    by_cases hlt : k < n
    · obtain ⟨b, off, u, rfl, ⟨_, hbw⟩, hu, hcell⟩ := hc k hlt
      have hcell' : wr.cell? ⟨b, off + k, none⟩ = some u := (hbl.cell (p := ⟨b, off + k, none⟩) hbw).trans hcell
      have HCO := Lib.hid (HF.out k u hu wr hbl)
      clear hc hcell hu
      cases hp : p k with
      | true =>
        have HR := Lib.hid (firstIdx_hit hlt hp HK.out)
        rw [hp] at HCO
        clear hp
        go_wp2_with fail
        refine HCO.out.mono ?_
        rintro e w1 ⟨rfl, hb1⟩
        go_wp2_with fail
        go_ret
        exact ⟨ret_int HR.out.symm, hbl.trans (hb1.mono hbl.size)⟩
      | false =>
        have HK1 : Hid (∀ j, j < k + 1 → p j = false) := fun j hj => by
          rcases Nat.lt_or_ge j k with h | h
          · exact HK.out j h
          · obtain rfl : j = k := by omega
            exact hp
        rw [hp] at HCO
        clear hp
        go_wp2_with fail
        refine HCO.out.mono ?_
        rintro e w1 ⟨rfl, hb1⟩
        go_wp2_with fail
        go_roundw
        case rel => exact ⟨k + 1, by omega, by go_num, HK1, hbl.trans (hb1.mono hbl.size)⟩
        case measure => simp [intOf]; omega
    · have HR := Lib.hid (firstIdx_miss (n := n) (fun j hj => HK.out j (by omega)))
      clear hc
      go_wp2_with fail
      go_ret
      exact ⟨ret_int HR.out.symm, hbl⟩

/-- Some place below n at which p holds. -/
def anyIdx (p : Nat → Bool) (n : Nat) : Bool := (List.range n).any p
theorem anyIdx_first (p : Nat → Bool) (n : Nat) : decide (0 ≤ firstIdx p n) = anyIdx p n := by
  unfold firstIdx anyIdx
  cases h : (List.range n).find? p with
  | none =>
    rw [List.find?_eq_none] at h
    symm
    simp only [show decide ((0 : Int) ≤ -1) = false from rfl]
    rw [List.any_eq_false]; exact h
  | some i =>
    have h1 := List.find?_some h
    have h2 := List.mem_of_find?_eq_some h
    symm
    have : decide ((0 : Int) ≤ (i : Int)) = true := by simp
    simp only [this]
    rw [List.any_eq_true]; exact ⟨i, h2, h1⟩

set_option maxHeartbeats 400000 in
theorem containsFunc92_any (v : Value) (vs : List Value) (S : Nat → Prop) (fid : FuncId) (cpt : Array Value) (eg : ∀ args w, (callFunc fid args).run Tryz.prog w = .ok (.enter fid args) w) (p : Nat → Bool) (w : World) (hv : Rd id w S v vs)
    (hf : ∀ i u, vs[i]? = some u → ∀ w', Below w.heap.size w w' → Calls Tryz.prog fid (#[u] ++ cpt) w' fun e w'' => e = .returned (.bool (p i)) ∧ Below w'.heap.size w' w'') :
    Calls Tryz.prog 73 #[v, .func (.func fid) #[] cpt] w fun e w' => e = .returned (.bool (anyIdx p vs.length)) ∧ Below w.heap.size w w' := by
  have HC := Lib.hid (indexFunc105_any v vs S fid cpt eg p w hv hf)
  have HA := Lib.hid (anyIdx_first p vs.length)
  obtain ⟨q, hq⟩ : ∃ q, q = firstIdx p vs.length := ⟨_, rfl⟩
  rw [← hq] at HC HA
  clear hf hv eg hq
  go_enter Tryz.func73, Tryz.ntmps73
  go_wp2_with (go_at_call 103; refine HC.out.mono ?_; rintro e w1 ⟨rfl, hb1⟩)
  go_ret
  exact ⟨ret_bool HA.out, hb1⟩

set_option maxHeartbeats 400000 in
theorem indexFunc107_any (v : Value) (vs : List Value) (S : Nat → Prop) (fid : FuncId) (cpt : Array Value) (eg : ∀ args w, (callFunc fid args).run Tryz.prog w = .ok (.enter fid args) w) (p : Nat → Bool) (w : World) (hv : Rd id w S v vs)
    (hf : ∀ i u, vs[i]? = some u → ∀ w', Below w.heap.size w w' → Calls Tryz.prog fid (#[u] ++ cpt) w' fun e w'' => e = .returned (.bool (p i)) ∧ Below w'.heap.size w' w'') :
    Calls Tryz.prog 127 #[v, .func (.func fid) #[] cpt] w fun e w' => e = .returned (.int .i64 (firstIdx p vs.length)) ∧ Below w.heap.size w w' := by
  obtain ⟨A, n, cap, rfl, hn, hcap, hmax, hc⟩ := hv.lt.open_
  rw [hn]
  have HF := Lib.hid hf
  have HN := Lib.hid hn
  clear hn hf
  go_enter Tryz.func127, Tryz.ntmps127
  go_wp2_with fail
  go_loopw [8] (fun i wr => ∃ k : Nat, k ≤ n ∧ i = .int .i64 k ∧ Hid (∀ j, j < k → p j = false) ∧ Below w.heap.size w wr) (fun i _ => n - (intOf i).toNat)
  case atStart => exact ⟨0, by omega, rfl, fun j hj => absurd hj (by omega), Below.refl _ _⟩
  case round =>
    obtain ⟨k, hk, rfl, HK, hbl⟩ := hrel
    by_cases hlt : k < n
    · obtain ⟨b, off, u, rfl, ⟨_, hbw⟩, hu, hcell⟩ := hc k hlt
      have hcell' : wr.cell? ⟨b, off + k, none⟩ = some u := (hbl.cell (p := ⟨b, off + k, none⟩) hbw).trans hcell
      have HCO := Lib.hid (HF.out k u hu wr hbl)
      clear hc hcell hu
      cases hp : p k with
      | true =>
        have HR := Lib.hid (firstIdx_hit hlt hp HK.out)
        rw [hp] at HCO
        clear hp
        go_wp2_with fail
        refine HCO.out.mono ?_
        rintro e w1 ⟨rfl, hb1⟩
        go_wp2_with fail
        go_ret
        exact ⟨ret_int HR.out.symm, hbl.trans (hb1.mono hbl.size)⟩
      | false =>
        have HK1 : Hid (∀ j, j < k + 1 → p j = false) := fun j hj => by
          rcases Nat.lt_or_ge j k with h | h
          · exact HK.out j h
          · obtain rfl : j = k := by omega
            exact hp
        rw [hp] at HCO
        clear hp
        go_wp2_with fail
        refine HCO.out.mono ?_
        rintro e w1 ⟨rfl, hb1⟩
        go_wp2_with fail
        go_roundw
        case rel => exact ⟨k + 1, by omega, by go_num, HK1, hbl.trans (hb1.mono hbl.size)⟩
        case measure => simp [intOf]; omega
    · have HR := Lib.hid (firstIdx_miss (n := n) (fun j hj => HK.out j (by omega)))
      clear hc
      go_wp2_with fail
      go_ret
      exact ⟨ret_int HR.out.symm, hbl⟩


set_option maxHeartbeats 400000 in
theorem containsFunc98_any (v : Value) (vs : List Value) (S : Nat → Prop) (fid : FuncId) (cpt : Array Value) (eg : ∀ args w, (callFunc fid args).run Tryz.prog w = .ok (.enter fid args) w) (p : Nat → Bool) (w : World) (hv : Rd id w S v vs)
    (hf : ∀ i u, vs[i]? = some u → ∀ w', Below w.heap.size w w' → Calls Tryz.prog fid (#[u] ++ cpt) w' fun e w'' => e = .returned (.bool (p i)) ∧ Below w'.heap.size w' w'') :
    Calls Tryz.prog 107 #[v, .func (.func fid) #[] cpt] w fun e w' => e = .returned (.bool (anyIdx p vs.length)) ∧ Below w.heap.size w w' := by
  have HC := Lib.hid (indexFunc107_any v vs S fid cpt eg p w hv hf)
  have HA := Lib.hid (anyIdx_first p vs.length)
  obtain ⟨q, hq⟩ : ∃ q, q = firstIdx p vs.length := ⟨_, rfl⟩
  rw [← hq] at HC HA
  clear hf hv eg hq
  go_enter Tryz.func107, Tryz.ntmps107
  go_wp2_with (go_at_call 127; refine HC.out.mono ?_; rintro e w1 ⟨rfl, hb1⟩)
  go_ret
  exact ⟨ret_bool HA.out, hb1⟩
end Go.Proofs.YtogccnngdfancaaGreat
namespace Go.Proofs.YtogccnngdfancaaGreat
open Go.RowKit
set_option linter.unusedVariables false
set_option linter.unusedSimpArgs false
end Go.Proofs.YtogccnngdfancaaGreat
namespace Go.Proofs.YtogccnngdfancaaGreat
open Go.RowKit
set_option linter.unusedVariables false
set_option linter.unusedSimpArgs false
theorem jobC_nil {w : World} {S : Nat → Prop} {n c : Nat} {l : List JobD} (h : RdK 3 jobC w S (.slice none n c) l) : l = [] := by
  obtain ⟨A, c', he, _, _, h3⟩ := h
  by_cases h0 : l = []
  · exact h0
  · obtain ⟨b, off, rfl, _⟩ := h3 h0
    simp at he
set_option maxRecDepth 100000 in
set_option maxHeartbeats 400000 in
theorem cloneJ_own (v : Value) (l : List JobD) (S : Nat → Prop) (w : World) (hv : RdK 3 jobC w S v l) (hll : l.length ≤ 1000000) :
    Calls Tryz.prog 49 #[v] w fun e w' => (∃ v', e = .returned v' ∧ w'.ownsRow w.heap.size 79 3 v' l.length (l.flatMap jobC)) ∧ Below w.heap.size w w' := by
  obtain ⟨i0, hi, hz0, hz1, hz2⟩ := info_parts info38
  have hv0 := hv.lt jobC_0
  obtain ⟨A, cap, rfl, hcap, hmax, _⟩ := hv
  have heq := fun (w : World) (A : Option Addr) (n c : Nat) => Lib.run_eql_slice_nil (P := Tryz.prog) w 31 79 A n c 0 0 Tryz.underlying31
  obtain ⟨n, hn⟩ : ∃ n, n = l.length := ⟨_, rfl⟩
  rw [← hn] at hll hcap hv0 ⊢
  have HN := Lib.hid hn
  clear hn
  cases A with
  | none =>
    have HX := Lib.hid (jobC_nil hv0)
    go_enter Tryz.func49, Tryz.ntmps49
    go_wp2_with fail
    go_ret
    exact ⟨⟨_, rfl, by rw [HN.out, HX.out]; exact World.ownsRow_nil _ _ _ _⟩, Below.refl _ _⟩
  | some ad =>
    have hc1 := (hv0.keep (((Keep.refl _ w).alloc (fun k hk => hk.2) (.cells #[] 79)))).cells (fun _ => rfl) (by decide)
    have HC := Lib.hid hc1
    have HL : Hid ((l.flatMap jobC).length = n * 3) := by rw [flat_len (k := 3) (fun _ => rfl), HN.out]; exact rfl
    clear hc1 hv0
    go_enter Tryz.func49, Tryz.ntmps49
    go_wp2_with (at_builtin; refine wpList_append_own _ rfl _ _ 31 rfl w.heap.size 79 i0 (.agg #[.int .i64 0, .int .i64 0, .int .i64 0]) 3 24 Tryz.underlying31 hi hz0 hz1 hz2 rfl (by decide) _ 0 [] rfl (World.ownsRow_made w #[] 0 (Nat.le_refl _) (by decide) rfl) ad n cap (l.flatMap jobC) rfl HL.out HC.out (jobC_one l) (by unfold maxLen; omega) (by omega) (by simp) ?_; intro v' w1 hown' hgrow _)
    go_ret
    have hown'' : w1.ownsRow w.heap.size 79 3 v' n (l.flatMap jobC) := by simpa using hown'
    exact ⟨⟨_, rfl, hown''⟩, ((Below.refl _ w).alloc (Nat.le_refl _) _).grown hgrow (by simp) (fun k hk => by simp [Value.ownBlock, Act.eval] at hk; omega)⟩
end Go.Proofs.YtogccnngdfancaaGreat
namespace Go.Proofs.YtogccnngdfancaaGreat
set_option linter.unusedVariables false
end Go.Proofs.YtogccnngdfancaaGreat
namespace Go.Proofs.YtogccnngdfancaaGreat
set_option linter.unusedVariables false
end Go.Proofs.YtogccnngdfancaaGreat
