/- The walk of the reference's Plan. -/
import Derived.Test.YtogccnngdfancaaFits4
import Derived.Test.YtogccnngdfancaaRight
import Derived.Test.YtogccnngdfancaaRefP
import Derived.Test.YtogccnngdfancaaNone0
namespace Go.Proofs.Ytogccnngdfancaa
open Go.RowKit
set_option linter.unusedVariables false
set_option linter.unusedSimpArgs false
theorem info37r : (Try.prog.info? 37).map (fun i => (i.zero, i.size, i.bytes)) = some (some (.agg #[.int .i64 0, .int .i64 0, .int .i64 0]), 3, 24) := by kernel_rfl
set_option maxRecDepth 100000 in
set_option maxHeartbeats 4000000 in
theorem RPlan_any (v : Value) (d : WorksD) (S : Nat → Prop) (w : World) (hv : WkV w S v d) :
    Calls Try.prog 8 #[v] w fun e w' => (∃ v', e = .returned (.tuple #[v', .int .i64 (wErr d)]) ∧ w'.ownsRow w.heap.size 37 3 v' (planL d).length ((planL d).flatMap jobC)) ∧ Below w.heap.size w w' := by
  obtain ⟨i0, hi, hz0, hz1, hz2⟩ := info_parts info37r
  have HCH := Lib.hid (fun w' (h : Below w.heap.size w w') => right_any v d S w' (hv.below h))
  have HV := Lib.hid hv
  obtain ⟨vc, vn, vm, rfl, h1, h2, h3⟩ := hv.lt
  obtain ⟨Ac, nc, cc, rfl, hnc, -, hmc, hcc⟩ := h1.open_
  have HN2 := Lib.hid h2
  obtain ⟨we, hwe⟩ : ∃ we, we = wErr d := ⟨_, rfl⟩
  rw [← hwe] at HCH ⊢
  obtain ⟨pl, hpl⟩ : ∃ pl, pl = planL d := ⟨_, rfl⟩
  rw [← hpl]
  have HPL : Hid (pl = if we = 0 then planW d else []) := by show _ = _; rw [hpl, hwe]; rfl
  obtain ⟨W1, hW1⟩ : ∃ W1, W1 = w.alloc (.cells #[.int .i64 d.presses, .int .i64 d.change, .slice Ac nc cc, vn, vm] 35) := ⟨_, rfl⟩
  have hm1 := heap_alloc_new w (.cells #[.int .i64 d.presses, .int .i64 d.change, .slice Ac nc cc, vn, vm] 35)
  have hb1 : Below w.heap.size w W1 := by rw [hW1]; exact (Below.refl _ w).alloc (Nat.le_refl _) _
  rw [← hW1] at hm1
  have HSZ : Hid (W1.heap.size = w.heap.size + 1) := by show _ = _; rw [hW1]; simp
  have HCELL : Hid (∀ w', Below W1.heap.size W1 w' → w'.cell? ⟨w.heap.size, 0, none⟩ = some (.int .i64 d.presses) ∧ w'.cell? ⟨w.heap.size, 1, none⟩ = some (.int .i64 d.change) ∧ w'.cell? ⟨w.heap.size, 2, none⟩ = some (.slice Ac nc cc) ∧ w'.cell? ⟨w.heap.size, 3, none⟩ = some vn ∧ w'.cell? ⟨w.heap.size, 4, none⟩ = some vm) := fun w' hb => by
    have k0 := (hb.block _ (by have := HSZ.out; omega)).trans hm1
    exact ⟨cell_of_row w' _ 0 _ _ _ k0, cell_of_row w' _ 1 _ _ _ k0, cell_of_row w' _ 2 _ _ _ k0, cell_of_row w' _ 3 _ _ _ k0, cell_of_row w' _ 4 _ _ _ k0⟩
  obtain ⟨x0, x1, x2, x3, x4⟩ := HCELL.out W1 (Below.refl _ _)
  have HW1 := Lib.hid hW1
  have HB1 := Lib.hid hb1
  have HCC := Lib.hid hcc
  have HNC := Lib.hid hnc
  have HWE := Lib.hid hwe
  clear hW1 hm1 hb1 hcc hnc h1 h2 h3 hv hwe hpl
  by_cases hz : we = 0
  · subst hz
    have hg := wgood_of HWE.out.symm
    have HG := Lib.hid hg
    have HPW : Hid (pl = planW d) := by show _ = _; rw [HPL.out, if_pos rfl]
    have hp1 := hg.ok.p1
    have hp8 := hg.ok.p8
    have hn8 : nc ≤ 8 := by have := hg.ok.n8; have := HNC.out; omega
    have HNL : Hid (d.need.length = nc) := by have := hg.ok.n1; have := HNC.out; show _ = _; omega
    clear hg
    go_enter Try.func8, Try.ntmps8
    go_wp2_with fail
    rw [← HW1.out]
    refine (HCH.out W1 HB1.out).mono ?_
    rintro e w2 ⟨rfl, hb2⟩
    have HB2 := Lib.hid (HB1.out.trans (hb2.mono HB1.out.size))
    have HB2' : Hid (Below W1.heap.size W1 w2) := hb2
    have T2 : Hid (TwoO W1.heap.size 3 37 1 3 (.slice none 0 0) 0 [] (.slice none 0 0) 0 [] (fun _ _ => False) W1 w2) := (TwoO.bare _ _ _ _ _ _ (Nat.le_refl _)).grow hb2
    obtain ⟨j0, hj0, hy0, hy1, hy2⟩ := info_parts info3
    have HN3 : Hid (Rd (Value.int .i64) w2 (fun b => b < w.heap.size) vn d.need) := (HN2.out.mono (fun _ h => h.2)).below HB2.out
    have HN4 : Hid (Rd (Value.int .i64) (w2.alloc (.cells #[] 3)) (fun b => b < w.heap.size) vn d.need) := HN3.out.keep ((Keep.refl _ w2).alloc (fun k hk => by have := HB2.out.size; omega) _)
    obtain ⟨An, cn, hvn, hcn, hmn, -⟩ := id HN3.out
    rw [HNL.out] at hvn hcn
    clear hb2 x0 x1 x2 x3 x4
    obtain ⟨x0, x1, x2, x3, x4⟩ := HCELL.out w2 HB2'.out
    have HLN : Hid ((d.need.map (Value.int .i64)).length = nc * 1) := by rw [List.length_map, HNL.out]; show _ = _; omega
    have x3' : (w2.alloc (.cells #[] 3)).cell? ⟨w.heap.size, 3, none⟩ = some vn := (World.cell?_alloc_some w2 _ _ (by rw [x3]; rfl)).trans x3
    have HOM : Hid ((w2.alloc (.cells #[] 3)).ownsRow W1.heap.size 3 1 (.slice (some ⟨w2.heap.size, 0, none⟩) 0 0) 0 []) := World.ownsRow_made w2 #[] 0 HB2'.out.size (by decide) rfl
    have TM : Hid (TwoO W1.heap.size 3 37 1 3 (.slice (some ⟨w2.heap.size, 0, none⟩) 0 0) 0 [] (.slice none 0 0) 0 [] (fun _ _ => False) W1 (w2.alloc (.cells #[] 3))) := T2.out.born (World.ownsRow_made w2 #[] 0 (Nat.le_refl _) (by decide) rfl) ((Below.refl _ w2).alloc (Nat.le_refl _) _)
    cases An with
    | none =>
      subst hvn
      have hX := HN3.out.nil_of
      have hnc0 : nc = 0 := by rw [← HNL.out, hX]; rfl
      have HP0 : Hid (pl = []) := by show _ = _; rw [HPW.out]; unfold planW; rw [hX]; rfl
      subst hnc0
      clear hX
      go_wp2_with (at_builtin; refine wpList_append_none0 rfl _ _ 22 rfl W1.heap.size 3 j0 1 Try.underlying22 hj0 _ 0 [] rfl HOM.out cn rfl ?_)
      clear x0 x1 x2 x3 x4 x3'
      go_loopw [6] (fun ov wr => ov = .slice none 0 0 ∧ Below W1.heap.size W1 wr) (fun _ _ => 0)
      case atStart => exact ⟨rfl, TM.bel⟩
      case round =>
        obtain ⟨rfl, hbq⟩ := hrel
        have HBQ := Lib.hid hbq
        clear hbq
        go_wp2_with fail
        go_loopw [7, 8] (fun kv iv wr' => kv = .int .i64 (-1) ∧ iv = .int .i64 0 ∧ Below W1.heap.size W1 wr') (fun _ iv _ => 0)
        case atStart => exact ⟨rfl, rfl, HBQ.out⟩
        case round =>
          obtain ⟨rfl, rfl, hbq⟩ := hrel
          have HBQ2 := Lib.hid hbq
          clear hbq
          go_wp2_with fail
          go_ret2
          exact ⟨⟨_, rfl, by rw [HP0.out]; exact World.ownsRow_nil _ _ _ _⟩, HB1.out.trans (HBQ2.out.mono HB1.out.size)⟩
    | some ad =>
      subst hvn
      have HC4 := Lib.hid HN4.out.cells
      go_wp2_with (at_builtin; refine wpList_append_own_at _ rfl _ _ 22 rfl W1.heap.size 3 j0 (.int .i64 0) 1 8 Try.underlying22 hj0 hy0 hy1 hy2 rfl (by decide) _ 0 [] rfl HOM.out ad nc cn (d.need.map (Value.int .i64)) rfl HLN.out HC4.out (fun u hu => by obtain ⟨x, _, rfl⟩ := List.mem_map.1 hu; rfl) (by unfold maxLen; omega) (by omega) (by have := HB2'.out.size; simp; omega) ?_; intro mv w3 hown3 hg3 _ hf3; rw [Nat.zero_add] at hown3; rw [List.nil_append] at hown3; have T3 := Lib.hid (TM.out.app hown3 hg3 (fun b hb => by rcases hf3 with h | h; exact .inl (h ▸ hb); rw [h] at hb; exact .inr (by simp at hb ⊢; omega))); obtain ⟨Am, cm, rfl⟩ := ownsRow_slice hown3)
      clear hown3 hg3 hf3 x0 x1 x2 x3 x4 x3'
      go_loopw [6] (fun ov wr => ∃ (k : Nat) (m : List Int) (l : List JobD), PlanInv d k m l ∧ Ord d l ∧ TwoO W1.heap.size 3 37 1 3 (.slice Am nc cm) nc (m.map (Value.int .i64)) ov k (l.flatMap jobC) (fun _ _ => False) W1 wr) (fun ov wr => 64 - (lenOf ov))
      case atStart => exact ⟨0, d.need, [], planInv0 HG.out, List.Pairwise.nil, T3.out⟩
      case round =>
        obtain ⟨k, m, l, hinv, hord, hT⟩ := hrel
        have HORD := Lib.hid hord
        obtain ⟨Ao, co, rfl⟩ := ownsRow_slice hT.b
        have HINV := Lib.hid hinv
        have HT := Lib.hid hT
        have HML : Hid (m.length = nc) := by have := hinv.ml; have := HNC.out; show _ = _; omega
        have HJ := Lib.hid (hinv.jobs HG.out)
        have hk64 := hinv.len HG.out
        have HLL : Hid (l.length = k) := hinv.ll
        have HWV : Hid (∀ w', TwoO W1.heap.size 3 37 1 3 (.slice Am nc cm) nc (m.map (Value.int .i64)) (.slice Ao k co) k (l.flatMap jobC) (fun _ _ => False) W1 w' → WkV w' S (.agg #[.int .i64 d.presses, .int .i64 d.change, .slice Ac nc cc, .slice (some ad) nc cn, vm]) d ∧ RdK 3 jobC w' (W1.heap.size ≤ ·) (.slice Ao k co) l) := fun w' hT' =>
          ⟨HV.out.below (HB1.out.trans (hT'.bel.mono HB1.out.size)), RdK.of_own (fun _ => rfl) hT'.b HLL.out⟩
        have HMR : Hid (∀ i : Nat, i < nc → m[i]? = some (at0 m i) ∧ 0 ≤ at0 m i ∧ at0 m i ≤ 64) := fun i hi => ⟨at0_get (by have := HML.out; omega), HINV.out.mr _ (at0_mem (by have := HML.out; omega))⟩
        clear hinv hT hord
        obtain ⟨wo, rfl⟩ : ∃ wo, wo = wr := ⟨_, rfl⟩
        go_wp2_with fail
        go_loopw [7, 8] (fun kv iv wr' => ∃ (i : Nat) (kd : Int), i ≤ nc ∧ iv = .int .i64 (i : Int) ∧ kv = .int .i64 kd ∧ kd = pickN d m i ∧ Below wo.heap.size wo wr') (fun _ iv _ => nc - (intOf iv).toNat)
        case atStart => exact ⟨0, -1, Nat.zero_le _, rfl, rfl, rfl, Below.refl _ _⟩
        case round =>
          obtain ⟨i, kd, hi', rfl, rfl, hkd, hbq⟩ := hrel
          have HTQ := Lib.hid (HT.out.grow hbq)
          have HBQ := Lib.hid hbq
          have hpb := pickN_bd d m i
          rw [← hkd] at hpb
          obtain ⟨hpb0, hpb1⟩ := hpb
          have HKD := Lib.hid hkd
          clear hbq hkd
          by_cases hlt : i < nc
          · obtain ⟨g, u, hA, hg1, hg2, hu, hcu, -⟩ := ownsRow_at HTQ.out.a i hlt
            subst hA
            obtain ⟨hmi, hmi0, hmi1⟩ := HMR.out i hlt
            rw [List.getElem?_map, hmi] at hu
            simp only [Option.map_some, Option.some.injEq] at hu
            subst hu
            obtain ⟨b1, f1, c, hA1, ⟨_, hl1⟩, hc, hcl1⟩ := HCC.out i hlt
            cases hA1
            have hcv : cureOf d i = c := by unfold cureOf; rw [Int.toNat_natCast, at_of hc]
            have hcb := cure_calm HG.out (k := (i : Int)) (by omega) (by have := HNC.out; omega)
            rw [hcv] at hcb
            obtain ⟨hcb0, hcb1⟩ := hcb
            obtain ⟨q, hq⟩ : ∃ q, q = at0 m i := ⟨_, rfl⟩
            rw [← hq] at hmi0 hmi1 hcu
            have hps : pickN d m (i + 1) = if 0 < q ∧ (kd < 0 ∨ at0 m kd * cureOf d kd < q * c) then (i : Int) else kd := by rw [hq, ← hcv, HKD.out]; rfl
            have HPS := Lib.hid hps
            have hbw : Below w.heap.size w wr := HB1.out.trans (HTQ.out.bel.mono HB1.out.size)
            have z1 := (hbw.cell (p := ⟨b1, _, none⟩) hl1).trans hcl1
            obtain ⟨x0, x1, x2, x3, x4⟩ := HCELL.out _ HTQ.out.bel
            have hlti : (i : Int) < (nc : Int) := by omega
            have hi0 : (0 : Int) ≤ (i : Int) := by omega
            have HBQD : Hid (Below wo.heap.size wo wr.drew) := HBQ.out.drew
            clear hmi hc hcl1 hcv hq hps
            by_cases a1 : 0 < q
            · by_cases a2 : kd < 0
              · have HP : Hid (pickN d m (i + 1) = (i : Int)) := by show _ = _; rw [HPS.out, if_pos ⟨a1, .inl a2⟩]
                clear hbw
                go_wp2_with fail
                refine seq_start (S := fun w' => w'.cell? ⟨w.heap.size, 2, none⟩ = some (.slice (some ⟨b1, f1, none⟩) nc cc) ∧ w'.cell? ⟨g, i, none⟩ = some (.int .i64 q)) (by kernel_rfl) (by kernel_rfl) (by exact ⟨x2, hcu⟩) ?_
                repeat (first
                  | (refine seq_take0 (v := ?_) ?_ (fun _ _ _ h => h) (by kernel_rfl) ?_ ?_; rotate_left; (focus rfl); (focus (intro w' hSw; (try dsimp only at hSw); go_simp; (try with_reducible rfl); done)); (try simp only [Act.put, List.setIfInBounds_toArray, List.set_cons_zero, List.set_cons_succ]))
                  | (refine seq_takeG (v := ?_) (g := ?_) (d := ?_) (b := ?_) (u := ?_) ?_ ?_ ?_ ?_ (fun _ _ _ h => h) (by kernel_rfl) ?_ ?_; rotate_left 5; (focus rfl); (focus rfl); (focus rfl); (focus (first | rfl | (go_simp; done))); (focus (intro w' hSw; (try dsimp only at hSw); go_simp; (try with_reducible rfl); done)); (try simp only [Act.put, List.setIfInBounds_toArray, List.set_cons_zero, List.set_cons_succ]))
                  | (refine seq_skipG (g := ?_) (d := ?_) (b := ?_) (u := ?_) ?_ ?_ ?_ ?_ (fun _ _ _ h => h) (by kernel_rfl) ?_; rotate_left 4; (focus rfl); (focus rfl); (focus rfl); (focus (first | rfl | (go_simp; done))); (try simp only [Act.put, List.setIfInBounds_toArray, List.set_cons_zero, List.set_cons_succ])))
                refine seq_done (by kernel_rfl) ?_
                go_wp2_with fail
                go_roundw
                case rel => exact ⟨i + 1, (i : Int), by omega, by go_num, rfl, HP.out.symm, HBQD.out⟩
                case measure => simp [intOf]; omega
              · obtain ⟨kn, hkn⟩ : ∃ kn : Nat, kd = (kn : Int) := ⟨kd.toNat, by omega⟩
                subst hkn
                have hknc : kn < nc := by omega
                obtain ⟨g2, u2, hA2, _, _, hu2, hcu2, _⟩ := ownsRow_at HTQ.out.a kn hknc
                cases hA2
                obtain ⟨hm2, hm20, hm21⟩ := HMR.out kn hknc
                rw [List.getElem?_map, hm2] at hu2
                simp only [Option.map_some, Option.some.injEq] at hu2
                subst hu2
                obtain ⟨b2, f2, c2, hA3, ⟨_, hl2⟩, hc2, hcl2⟩ := HCC.out kn hknc
                cases hA3
                have hcv2 : cureOf d kn = c2 := by unfold cureOf; rw [Int.toNat_natCast, at_of hc2]
                have hcb2 := cure_calm HG.out (k := (kn : Int)) (by omega) (by have := HNC.out; omega)
                rw [hcv2] at hcb2
                obtain ⟨hcb20, hcb21⟩ := hcb2
                obtain ⟨q2, hq2⟩ : ∃ q2, q2 = at0 m kn := ⟨_, rfl⟩
                rw [← hq2, hcv2] at HPS
                rw [← hq2] at hm20 hm21 hcu2
                have z2 := (hbw.cell (p := ⟨b1, _, none⟩) hl2).trans hcl2
                have hw1 : IntKind.i64.wrap (q * c) = q * c := IntWalk.i64_in _ (by have := mul_bd hmi0 hmi1 (show 0 ≤ c by omega) hcb1; omega)
                have hw2 : IntKind.i64.wrap (q2 * c2) = q2 * c2 := IntWalk.i64_in _ (by have := mul_bd hm20 hm21 (show 0 ≤ c2 by omega) hcb21; omega)
                have hknci : (kn : Int) < (nc : Int) := by omega
                have hkn0 : (0 : Int) ≤ (kn : Int) := by omega
                have hkd0 : decide ((kn : Int) < 0) = false := decide_eq_false (by omega)
                clear hbw hm2 hc2 hcl2 hcv2 hq2
                by_cases a3 : q2 * c2 < q * c
                · have HP : Hid (pickN d m (i + 1) = (i : Int)) := by show _ = _; rw [HPS.out, if_pos ⟨a1, .inr a3⟩]
                  go_wp2_with fail
                  refine seq_start (S := fun w' => w'.cell? ⟨w.heap.size, 2, none⟩ = some (.slice (some ⟨b1, f1, none⟩) nc cc) ∧ w'.cell? ⟨g, i, none⟩ = some (.int .i64 q) ∧ w'.cell? ⟨g, kn, none⟩ = some (.int .i64 q2) ∧ w'.cell? ⟨b1, f1 + i, none⟩ = some (.int .i64 c) ∧ w'.cell? ⟨b1, f1 + kn, none⟩ = some (.int .i64 c2)) (by kernel_rfl) (by kernel_rfl) (by exact ⟨x2, hcu, hcu2, z1, z2⟩) ?_
                  repeat (first
                    | (refine seq_take0 (v := ?_) ?_ (fun _ _ _ h => h) (by kernel_rfl) ?_ ?_; rotate_left; (focus rfl); (focus (intro w' hSw; (try dsimp only at hSw); go_simp; (try with_reducible rfl); done)); (try simp only [Act.put, List.setIfInBounds_toArray, List.set_cons_zero, List.set_cons_succ]))
                    | (refine seq_takeG (v := ?_) (g := ?_) (d := ?_) (b := ?_) (u := ?_) ?_ ?_ ?_ ?_ (fun _ _ _ h => h) (by kernel_rfl) ?_ ?_; rotate_left 5; (focus rfl); (focus rfl); (focus rfl); (focus (first | rfl | (go_simp; done))); (focus (intro w' hSw; (try dsimp only at hSw); go_simp; (try with_reducible rfl); done)); (try simp only [Act.put, List.setIfInBounds_toArray, List.set_cons_zero, List.set_cons_succ]))
                    | (refine seq_skipG (g := ?_) (d := ?_) (b := ?_) (u := ?_) ?_ ?_ ?_ ?_ (fun _ _ _ h => h) (by kernel_rfl) ?_; rotate_left 4; (focus rfl); (focus rfl); (focus rfl); (focus (first | rfl | (go_simp; done))); (try simp only [Act.put, List.setIfInBounds_toArray, List.set_cons_zero, List.set_cons_succ])))
                  refine seq_done (by kernel_rfl) ?_
                  go_wp2_with fail
                  go_roundw
                  case rel => exact ⟨i + 1, (i : Int), by omega, by go_num, rfl, HP.out.symm, HBQD.out⟩
                  case measure => simp [intOf]; omega
                · have HP : Hid (pickN d m (i + 1) = (kn : Int)) := by show _ = _; rw [HPS.out, if_neg (by omega)]
                  go_wp2_with fail
                  refine seq_start (S := fun w' => w'.cell? ⟨w.heap.size, 2, none⟩ = some (.slice (some ⟨b1, f1, none⟩) nc cc) ∧ w'.cell? ⟨g, i, none⟩ = some (.int .i64 q) ∧ w'.cell? ⟨g, kn, none⟩ = some (.int .i64 q2) ∧ w'.cell? ⟨b1, f1 + i, none⟩ = some (.int .i64 c) ∧ w'.cell? ⟨b1, f1 + kn, none⟩ = some (.int .i64 c2)) (by kernel_rfl) (by kernel_rfl) (by exact ⟨x2, hcu, hcu2, z1, z2⟩) ?_
                  repeat (first
                    | (refine seq_take0 (v := ?_) ?_ (fun _ _ _ h => h) (by kernel_rfl) ?_ ?_; rotate_left; (focus rfl); (focus (intro w' hSw; (try dsimp only at hSw); go_simp; (try with_reducible rfl); done)); (try simp only [Act.put, List.setIfInBounds_toArray, List.set_cons_zero, List.set_cons_succ]))
                    | (refine seq_takeG (v := ?_) (g := ?_) (d := ?_) (b := ?_) (u := ?_) ?_ ?_ ?_ ?_ (fun _ _ _ h => h) (by kernel_rfl) ?_ ?_; rotate_left 5; (focus rfl); (focus rfl); (focus rfl); (focus (first | rfl | (go_simp; done))); (focus (intro w' hSw; (try dsimp only at hSw); go_simp; (try with_reducible rfl); done)); (try simp only [Act.put, List.setIfInBounds_toArray, List.set_cons_zero, List.set_cons_succ]))
                    | (refine seq_skipG (g := ?_) (d := ?_) (b := ?_) (u := ?_) ?_ ?_ ?_ ?_ (fun _ _ _ h => h) (by kernel_rfl) ?_; rotate_left 4; (focus rfl); (focus rfl); (focus rfl); (focus (first | rfl | (go_simp; done))); (try simp only [Act.put, List.setIfInBounds_toArray, List.set_cons_zero, List.set_cons_succ])))
                  refine seq_done (by kernel_rfl) ?_
                  go_wp2_with fail
                  go_roundw
                  case rel => exact ⟨i + 1, (kn : Int), by omega, by go_num, rfl, HP.out.symm, HBQD.out⟩
                  case measure => simp [intOf]; omega
            · have HP : Hid (pickN d m (i + 1) = kd) := by show _ = _; rw [HPS.out, if_neg (fun h => a1 h.1)]
              have a1b : decide (0 < q) = false := decide_eq_false a1
              clear hbw
              go_wp2_with fail
              refine seq_start (S := fun w' => w'.cell? ⟨w.heap.size, 2, none⟩ = some (.slice (some ⟨b1, f1, none⟩) nc cc) ∧ w'.cell? ⟨g, i, none⟩ = some (.int .i64 q)) (by kernel_rfl) (by kernel_rfl) (by exact ⟨x2, hcu⟩) ?_
              repeat (first
                | (refine seq_take0 (v := ?_) ?_ (fun _ _ _ h => h) (by kernel_rfl) ?_ ?_; rotate_left; (focus rfl); (focus (intro w' hSw; (try dsimp only at hSw); go_simp; (try with_reducible rfl); done)); (try simp only [Act.put, List.setIfInBounds_toArray, List.set_cons_zero, List.set_cons_succ]))
                | (refine seq_takeG (v := ?_) (g := ?_) (d := ?_) (b := ?_) (u := ?_) ?_ ?_ ?_ ?_ (fun _ _ _ h => h) (by kernel_rfl) ?_ ?_; rotate_left 5; (focus rfl); (focus rfl); (focus rfl); (focus (first | rfl | (go_simp; done))); (focus (intro w' hSw; (try dsimp only at hSw); go_simp; (try with_reducible rfl); done)); (try simp only [Act.put, List.setIfInBounds_toArray, List.set_cons_zero, List.set_cons_succ]))
                | (refine seq_skipG (g := ?_) (d := ?_) (b := ?_) (u := ?_) ?_ ?_ ?_ ?_ (fun _ _ _ h => h) (by kernel_rfl) ?_; rotate_left 4; (focus rfl); (focus rfl); (focus rfl); (focus (first | rfl | (go_simp; done))); (try simp only [Act.put, List.setIfInBounds_toArray, List.set_cons_zero, List.set_cons_succ])))
              refine seq_done (by kernel_rfl) ?_
              go_wp2_with fail
              go_roundw
              case rel => exact ⟨i + 1, kd, by omega, by go_num, rfl, HP.out.symm, HBQD.out⟩
              case measure => simp [intOf]; omega
          · have hin : i = nc := by omega
            have hpk : kd = pickN d m m.length := by rw [HKD.out, hin, HML.out]
            have hlti : ¬ ((i : Int) < (nc : Int)) := by omega
            have HPK := Lib.hid hpk
            have hkd1 : kd < nc := by omega
            clear hin hpk hpb1 HKD HBQ
            by_cases hneg : kd < 0
            · have HDONE : Hid (l = planW d) := HINV.out.done HG.out (by rw [← HPK.out]; exact hneg)
              go_wp2_with fail
              go_ret2
              exact ⟨⟨_, rfl, by rw [HPW.out, ← HDONE.out, HLL.out]; exact ownsRow_mono (HTQ.out.b) (by have := HSZ.out; omega)⟩, HB1.out.trans (HTQ.out.bel.mono HB1.out.size)⟩
            · have hkd0 : 0 ≤ kd := by omega
              obtain ⟨g, u, hA, hg1, hg2, -⟩ := ownsRow_at HTQ.out.a kd.toNat (by omega)
              subst hA
              clear u
              go_wp2_with fail
              obtain ⟨gb, hgb⟩ : ∃ gb, gb = wr.heap.size := ⟨_, rfl⟩
              obtain ⟨w6, hw6⟩ : ∃ w6, w6 = wr.alloc (.cells #[.int .i64 (-1), .int .i64 0, .int .i64 0] 37) := ⟨_, rfl⟩
              have hmb := heap_alloc_new wr (.cells #[.int .i64 (-1), .int .i64 0, .int .i64 0] 37)
              have T6 : Hid (TwoO W1.heap.size 3 37 1 3 (.slice (some ⟨g, 0, none⟩) nc cm) nc (m.map (Value.int .i64)) (.slice Ao k co) k (l.flatMap jobC) (fun _ _ => False) W1 w6) := by rw [hw6]; exact (HTQ.out.lay _).weak
              have hn1 : (Value.slice (some ⟨g, 0, none⟩) nc cm).ownBlock ≠ some gb := fun e => by have := (HTQ.out.a.lt _ e).2; omega
              have hn2 : (Value.slice Ao k co).ownBlock ≠ some gb := fun e => by have := (HTQ.out.b.lt _ e).2; omega
              have hgbB : W1.heap.size ≤ gb := by rw [hgb]; exact HTQ.out.hB
              rw [← hw6, ← hgb] at hmb
              have HMB := Lib.hid hmb
              have HN1 := Lib.hid hn1
              have HN2' := Lib.hid hn2
              have HGB := Lib.hid hgbB
              clear hn1 hn2 hgbB hmb
              rw [← hw6, ← hgb]
              clear hw6 hgb
              obtain ⟨P, hP⟩ : ∃ P : Nat, d.presses = (P : Int) := ⟨d.presses.toNat, by omega⟩
              have HP := Lib.hid hP
              have hP1 : 1 ≤ P := by omega
              have hP8 : P ≤ 8 := by omega
              have HXC : Hid (∀ w', Below W1.heap.size W1 w' → w'.cell? ⟨w.heap.size, 0, none⟩ = some (.int .i64 (P : Int)) ∧ w'.cell? ⟨w.heap.size, 1, none⟩ = some (.int .i64 d.change) ∧ w'.cell? ⟨w.heap.size, 2, none⟩ = some (.slice Ac nc cc) ∧ w'.cell? ⟨w.heap.size, 3, none⟩ = some (.slice (some ad) nc cn) ∧ w'.cell? ⟨w.heap.size, 4, none⟩ = some vm) := by rw [← hP]; exact HCELL.out
              rw [hP] at HWV
              clear hP hp1 hp8
              go_loopw [10] (fun pv wr' => ∃ p : Nat, p ≤ P ∧ pv = .int .i64 (p : Int) ∧ TwoO W1.heap.size 3 37 1 3 (.slice (some ⟨g, 0, none⟩) nc cm) nc (m.map (Value.int .i64)) (.slice Ao k co) k (l.flatMap jobC) (fun _ _ => False) W1 wr' ∧
                wr'.heap[gb]? = some (.cells #[.int .i64 (rbestN d l kd p).press, .int .i64 (rbestN d l kd p).kind, .int .i64 (rbestN d l kd p).start] 37)) (fun pv _ => P - (intOf pv).toNat)
              case atStart => exact ⟨0, by omega, rfl, T6.out, HMB.out⟩
              case round =>
                obtain ⟨p, hp, rfl, hTp, hmb⟩ := hrel
                have HTP := Lib.hid hTp
                have HMBP := Lib.hid hmb
                clear hTp hmb
                obtain ⟨x0, x1, x2, x3, x4⟩ := HXC.out _ HTP.out.bel
                by_cases hpl : p < P
                · have hpli : (p : Int) < (P : Int) := by omega
                  have HWP := Lib.hid (HWV.out _ HTP.out)
                  obtain ⟨wo, rfl⟩ : ∃ wo, wo = wr := ⟨_, rfl⟩
                  clear HMR HT HTQ
                  go_wp2_with fail
                  go_loopw [12, 13] (fun lv iv wr' => ∃ i : Nat, i ≤ k ∧ iv = .int .i64 (i : Int) ∧ lv = .int .i64 (lastN d l p i) ∧ Below wo.heap.size wo wr') (fun _ iv _ => k - (intOf iv).toNat)
                  case atStart => exact ⟨0, Nat.zero_le _, rfl, rfl, Below.refl _ _⟩
                  case round =>
                    obtain ⟨i, hi', rfl, rfl, hbq⟩ := hrel
                    have HTW := Lib.hid (HTP.out.grow hbq)
                    have HMBW := Lib.hid ((hbq.block _ (Array.getElem?_eq_some_iff.1 HMBP.out).1).trans HMBP.out)
                    have HBQ := Lib.hid hbq
                    clear x0 x1 x2 x3 x4
                    have hlb := lastN_bd d l p i
                    have HLS : Hid (lastN d l p (i + 1) = lastS d l p (lastN d l p i) i) := rfl
                    obtain ⟨la, hla⟩ : ∃ la, la = lastN d l p i := ⟨_, rfl⟩
                    rw [← hla] at hlb HLS ⊢
                    obtain ⟨hlb0, hlb1⟩ := hlb
                    have HLA := Lib.hid hla
                    have HRD := Lib.hid (HWV.out _ HTW.out)
                    have HEN : Hid (∀ y ∈ l, ∀ w', Below wo.heap.size wo w' → Calls Try.prog 21 #[.agg #[.int .i64 (P : Int), .int .i64 d.change, .slice Ac nc cc, .slice (some ad) nc cn, vm], JobV y] w' fun e w'' => e = .returned (.int .i64 (endJ d y)) ∧ Below w'.heap.size w' w'') := fun y hy w' hb' =>
                      rend_any _ d y S w' (HWV.out _ (HTP.out.grow hb')).1 (HJ.out.kind y hy).1 (HJ.out.kind y hy).2 (by have := HJ.out.start y hy; omega) (by have := cure_calm HG.out (HJ.out.kind y hy).1 (HJ.out.kind y hy).2; omega)
                    have HXW : Hid (∀ w', Below wo.heap.size wo w' → w'.cell? ⟨w.heap.size, 0, none⟩ = some (.int .i64 (P : Int)) ∧ w'.cell? ⟨w.heap.size, 1, none⟩ = some (.int .i64 d.change) ∧ w'.cell? ⟨w.heap.size, 2, none⟩ = some (.slice Ac nc cc) ∧ w'.cell? ⟨w.heap.size, 3, none⟩ = some (.slice (some ad) nc cn) ∧ w'.cell? ⟨w.heap.size, 4, none⟩ = some vm) := fun w' hb' => HXC.out _ (HTP.out.grow hb').bel
                    clear hbq hla
                    by_cases hlt : i < k
                    · obtain ⟨A', cap', he, _, _, h3⟩ := id HRD.out.2
                      obtain ⟨bo, fo, hA', hbo, -⟩ := h3 (by intro e; have := HLL.out; rw [e] at this; simp at this; omega)
                      simp only [Value.slice.injEq] at he
                      obtain ⟨he1, he2, he3⟩ := he
                      clear he2 he3
                      rw [hA'] at he1
                      subst he1
                      have HJC : Hid (∀ (j : Nat) (y : JobD), l[j]? = some y → ∀ w', Below wo.heap.size wo w' → w'.cell? ⟨bo, fo + j * 3, none⟩ = some (.int .i64 y.press) ∧ w'.cell? ⟨bo, fo + j * 3 + 1, none⟩ = some (.int .i64 y.kind) ∧ w'.cell? ⟨bo, fo + j * 3 + 2, none⟩ = some (.int .i64 y.start)) := fun j y hy w' hb' =>
                        have hr := (HWV.out _ (HTP.out.grow hb')).2
                        ⟨hr.cell_at hy (j := 0) rfl, hr.cell_at hy (j := 1) rfl, hr.cell_at hy (j := 2) rfl⟩
                      have hx : l[i]? = some (l[i]'(by have := HLL.out; omega)) := List.getElem?_eq_getElem _
                      obtain ⟨x, hxe⟩ : ∃ x, x = l[i]'(by have := HLL.out; omega) := ⟨_, rfl⟩
                      rw [← hxe] at hx
                      have hja := jobAt_of hx
                      have HEX := Lib.hid (HEN.out x (mem_of_get? hx))
                      have HDX := Lib.hid (HJC.out i x hx)
                      unfold lastS at HLS
                      rw [hja] at HLS
                      obtain ⟨ex, hex⟩ : ∃ e, e = endJ d x := ⟨_, rfl⟩
                      rw [← hex] at HLS HEX
                      clear hx hxe hja hex h3 hbo hA'
                      obtain ⟨xp, xk, xs⟩ := x
                      simp only [JobV] at HLS HEX HDX
                      have hli : (i : Int) < (k : Int) := by omega
                      have hi0 : (0 : Int) ≤ (i : Int) := by omega
                      have HBQD : Hid (Below wo.heap.size wo wr.drew) := HBQ.out.drew
                      by_cases k1 : xp = (p : Int)
                      · have k1b : (xp == (p : Int)) = true := by simp [k1]
                        have K1 := Lib.hid k1
                        clear k1
                        by_cases k2 : la < 0
                        · have HR : Hid (lastN d l p (i + 1) = (i : Int)) := by show _ = _; rw [HLS.out, if_pos ⟨K1.out, .inl k2⟩]
                          have k2b : decide (la < 0) = true := decide_eq_true k2
                          obtain ⟨d0, d1, d2⟩ := HDX.out _ HBQ.out
                          go_wp2_with fail
                          refine seq_start (S := fun w' => w'.cell? ⟨bo, fo + i * 3, none⟩ = some (.int .i64 xp)) (by kernel_rfl) (by kernel_rfl) (by exact d0) ?_
                          repeat (first
                            | (refine seq_take0 (v := ?_) ?_ (fun _ _ _ h => h) (by kernel_rfl) ?_ ?_; rotate_left; (focus rfl); (focus (intro w' hSw; (try dsimp only at hSw); go_simp; (try with_reducible rfl); done)); (try simp only [Act.put, List.setIfInBounds_toArray, List.set_cons_zero, List.set_cons_succ]))
                            | (refine seq_takeG (v := ?_) (g := ?_) (d := ?_) (b := ?_) (u := ?_) ?_ ?_ ?_ ?_ (fun _ _ _ h => h) (by kernel_rfl) ?_ ?_; rotate_left 5; (focus rfl); (focus rfl); (focus rfl); (focus (first | rfl | (go_simp; done))); (focus (intro w' hSw; (try dsimp only at hSw); go_simp; (try with_reducible rfl); done)); (try simp only [Act.put, List.setIfInBounds_toArray, List.set_cons_zero, List.set_cons_succ]))
                            | (refine seq_skipG (g := ?_) (d := ?_) (b := ?_) (u := ?_) ?_ ?_ ?_ ?_ (fun _ _ _ h => h) (by kernel_rfl) ?_; rotate_left 4; (focus rfl); (focus rfl); (focus rfl); (focus (first | rfl | (go_simp; done))); (try simp only [Act.put, List.setIfInBounds_toArray, List.set_cons_zero, List.set_cons_succ])))
                          refine seq_done (by kernel_rfl) ?_
                          go_wp2_with fail
                          go_roundw
                          case rel => exact ⟨i + 1, by omega, by go_num, by rw [HR.out], HBQD.out⟩
                          case measure => simp [intOf]; omega
                        · obtain ⟨ln, hln⟩ : ∃ ln : Nat, la = (ln : Int) := ⟨la.toNat, by omega⟩
                          subst hln
                          have hlnk : ln < k := by omega
                          have hy : l[ln]? = some (l[ln]'(by have := HLL.out; omega)) := List.getElem?_eq_getElem _
                          obtain ⟨y, hye⟩ : ∃ y, y = l[ln]'(by have := HLL.out; omega) := ⟨_, rfl⟩
                          rw [← hye] at hy
                          have hjy := jobAt_of hy
                          have HEY := Lib.hid (HEN.out y (mem_of_get? hy))
                          have HDY := Lib.hid (HJC.out ln y hy)
                          rw [hjy] at HLS
                          obtain ⟨ey, hey⟩ : ∃ e, e = endJ d y := ⟨_, rfl⟩
                          rw [← hey] at HLS HEY
                          clear hy hye hjy hey
                          obtain ⟨yp, yk, ys⟩ := y
                          simp only [JobV] at HEY HDY
                          have k2b : decide ((ln : Int) < 0) = false := decide_eq_false (by omega)
                          have hlnki : (ln : Int) < (k : Int) := by omega
                          have hln0 : (0 : Int) ≤ (ln : Int) := by omega
                          have HS0 : Hid (∀ w', Below wo.heap.size wo w' → (w'.cell? ⟨bo, fo + i * 3, none⟩ = some (.int .i64 xp) ∧ w'.cell? ⟨bo, fo + i * 3 + 1, none⟩ = some (.int .i64 xk) ∧ w'.cell? ⟨bo, fo + i * 3 + 2, none⟩ = some (.int .i64 xs)) ∧ (w'.cell? ⟨bo, fo + ln * 3, none⟩ = some (.int .i64 yp) ∧ w'.cell? ⟨bo, fo + ln * 3 + 1, none⟩ = some (.int .i64 yk) ∧ w'.cell? ⟨bo, fo + ln * 3 + 2, none⟩ = some (.int .i64 ys)) ∧ w'.cell? ⟨w.heap.size, 0, none⟩ = some (.int .i64 (P : Int)) ∧ w'.cell? ⟨w.heap.size, 1, none⟩ = some (.int .i64 d.change) ∧ w'.cell? ⟨w.heap.size, 2, none⟩ = some (.slice Ac nc cc) ∧ w'.cell? ⟨w.heap.size, 3, none⟩ = some (.slice (some ad) nc cn) ∧ w'.cell? ⟨w.heap.size, 4, none⟩ = some vm) := fun w' hb' => ⟨HDX.out w' hb', HDY.out w' hb', HXW.out w' hb'⟩
                          have HEX2 := Lib.hid (HEX.out _ HBQD.out)
                          have HLN := Lib.hid hlnk
                          by_cases k3 : ey < ex
                          · have HR : Hid (lastN d l p (i + 1) = (i : Int)) := by show _ = _; rw [HLS.out, if_pos ⟨K1.out, .inr k3⟩]
                            have k3b : decide (ey < ex) = true := decide_eq_true k3
                            go_wp2_with fail
                            refine seq_start (S := fun w' => (w'.cell? ⟨bo, fo + i * 3, none⟩ = some (.int .i64 xp) ∧ w'.cell? ⟨bo, fo + i * 3 + 1, none⟩ = some (.int .i64 xk) ∧ w'.cell? ⟨bo, fo + i * 3 + 2, none⟩ = some (.int .i64 xs)) ∧ (w'.cell? ⟨bo, fo + ln * 3, none⟩ = some (.int .i64 yp) ∧ w'.cell? ⟨bo, fo + ln * 3 + 1, none⟩ = some (.int .i64 yk) ∧ w'.cell? ⟨bo, fo + ln * 3 + 2, none⟩ = some (.int .i64 ys)) ∧ w'.cell? ⟨w.heap.size, 0, none⟩ = some (.int .i64 (P : Int)) ∧ w'.cell? ⟨w.heap.size, 1, none⟩ = some (.int .i64 d.change) ∧ w'.cell? ⟨w.heap.size, 2, none⟩ = some (.slice Ac nc cc) ∧ w'.cell? ⟨w.heap.size, 3, none⟩ = some (.slice (some ad) nc cn) ∧ w'.cell? ⟨w.heap.size, 4, none⟩ = some vm) (by kernel_rfl) (by kernel_rfl) (by exact HS0.out _ HBQD.out) ?_
                            repeat (first
                              | (refine seq_take0 (v := ?_) ?_ (fun _ _ _ h => h) (by kernel_rfl) ?_ ?_; rotate_left; (focus rfl); (focus (intro w' hSw; (try dsimp only at hSw); go_simp; (try with_reducible rfl); done)); (try simp only [Act.put, List.setIfInBounds_toArray, List.set_cons_zero, List.set_cons_succ]))
                              | (refine seq_takeG (v := ?_) (g := ?_) (d := ?_) (b := ?_) (u := ?_) ?_ ?_ ?_ ?_ (fun _ _ _ h => h) (by kernel_rfl) ?_ ?_; rotate_left 5; (focus rfl); (focus rfl); (focus rfl); (focus (first | rfl | (go_simp; done))); (focus (intro w' hSw; (try dsimp only at hSw); go_simp; (try with_reducible rfl); done)); (try simp only [Act.put, List.setIfInBounds_toArray, List.set_cons_zero, List.set_cons_succ]))
                              | (refine seq_skipG (g := ?_) (d := ?_) (b := ?_) (u := ?_) ?_ ?_ ?_ ?_ (fun _ _ _ h => h) (by kernel_rfl) ?_; rotate_left 4; (focus rfl); (focus rfl); (focus rfl); (focus (first | rfl | (go_simp; done))); (try simp only [Act.put, List.setIfInBounds_toArray, List.set_cons_zero, List.set_cons_succ])))
                            repeat (refine seq_swap ?_; first
                              | (refine seq_take0 (v := ?_) ?_ (fun _ _ _ h => h) (by kernel_rfl) ?_ ?_; rotate_left; (focus rfl); (focus (intro w' hSw; (try dsimp only at hSw); go_simp; (try with_reducible rfl); done)); (try simp only [Act.put, List.setIfInBounds_toArray, List.set_cons_zero, List.set_cons_succ]))
                              | (refine seq_takeG (v := ?_) (g := ?_) (d := ?_) (b := ?_) (u := ?_) ?_ ?_ ?_ ?_ (fun _ _ _ h => h) (by kernel_rfl) ?_ ?_; rotate_left 5; (focus rfl); (focus rfl); (focus rfl); (focus (first | rfl | (go_simp; done))); (focus (intro w' hSw; (try dsimp only at hSw); go_simp; (try with_reducible rfl); done)); (try simp only [Act.put, List.setIfInBounds_toArray, List.set_cons_zero, List.set_cons_succ]))
                              | (refine seq_skipG (g := ?_) (d := ?_) (b := ?_) (u := ?_) ?_ ?_ ?_ ?_ (fun _ _ _ h => h) (by kernel_rfl) ?_; rotate_left 4; (focus rfl); (focus rfl); (focus rfl); (focus (first | rfl | (go_simp; done))); (try simp only [Act.put, List.setIfInBounds_toArray, List.set_cons_zero, List.set_cons_succ])))
                            refine seq_op (by kernel_rfl) (by rfl) (fun K hK => ?_)
                            go_simp
                            refine HEX2.out.mono ?_
                            rintro e' w5 ⟨rfl, hb5⟩
                            have HB5 := Lib.hid (HBQD.out.trans (hb5.mono HBQD.out.size))
                            clear hb5
                            refine hK.out _ _ (HS0.out _ HB5.out) ?_
                            clear hK K
                            repeat (first
                              | (refine seq_take0 (v := ?_) ?_ (fun _ _ _ h => h) (by kernel_rfl) ?_ ?_; rotate_left; (focus rfl); (focus (intro w' hSw; (try dsimp only at hSw); go_simp; (try with_reducible rfl); done)); (try simp only [Act.put, List.setIfInBounds_toArray, List.set_cons_zero, List.set_cons_succ]))
                              | (refine seq_takeG (v := ?_) (g := ?_) (d := ?_) (b := ?_) (u := ?_) ?_ ?_ ?_ ?_ (fun _ _ _ h => h) (by kernel_rfl) ?_ ?_; rotate_left 5; (focus rfl); (focus rfl); (focus rfl); (focus (first | rfl | (go_simp; done))); (focus (intro w' hSw; (try dsimp only at hSw); go_simp; (try with_reducible rfl); done)); (try simp only [Act.put, List.setIfInBounds_toArray, List.set_cons_zero, List.set_cons_succ]))
                              | (refine seq_skipG (g := ?_) (d := ?_) (b := ?_) (u := ?_) ?_ ?_ ?_ ?_ (fun _ _ _ h => h) (by kernel_rfl) ?_; rotate_left 4; (focus rfl); (focus rfl); (focus rfl); (focus (first | rfl | (go_simp; done))); (try simp only [Act.put, List.setIfInBounds_toArray, List.set_cons_zero, List.set_cons_succ])))
                            repeat (refine seq_swap ?_; first
                              | (refine seq_take0 (v := ?_) ?_ (fun _ _ _ h => h) (by kernel_rfl) ?_ ?_; rotate_left; (focus rfl); (focus (intro w' hSw; (try dsimp only at hSw); go_simp; (try with_reducible rfl); done)); (try simp only [Act.put, List.setIfInBounds_toArray, List.set_cons_zero, List.set_cons_succ]))
                              | (refine seq_takeG (v := ?_) (g := ?_) (d := ?_) (b := ?_) (u := ?_) ?_ ?_ ?_ ?_ (fun _ _ _ h => h) (by kernel_rfl) ?_ ?_; rotate_left 5; (focus rfl); (focus rfl); (focus rfl); (focus (first | rfl | (go_simp; done))); (focus (intro w' hSw; (try dsimp only at hSw); go_simp; (try with_reducible rfl); done)); (try simp only [Act.put, List.setIfInBounds_toArray, List.set_cons_zero, List.set_cons_succ]))
                              | (refine seq_skipG (g := ?_) (d := ?_) (b := ?_) (u := ?_) ?_ ?_ ?_ ?_ (fun _ _ _ h => h) (by kernel_rfl) ?_; rotate_left 4; (focus rfl); (focus rfl); (focus rfl); (focus (first | rfl | (go_simp; done))); (try simp only [Act.put, List.setIfInBounds_toArray, List.set_cons_zero, List.set_cons_succ])))
                            refine seq_op (by kernel_rfl) (by rfl) (fun K hK => ?_)
                            go_simp
                            refine (HEY.out _ HB5.out).mono ?_
                            rintro e' w6 ⟨rfl, hb6⟩
                            have HB6 := Lib.hid (HB5.out.trans (hb6.mono HB5.out.size))
                            clear hb6
                            refine hK.out _ _ (HS0.out _ HB6.out) ?_
                            clear hK K
                            repeat (first
                              | (refine seq_take0 (v := ?_) ?_ (fun _ _ _ h => h) (by kernel_rfl) ?_ ?_; rotate_left; (focus rfl); (focus (intro w' hSw; (try dsimp only at hSw); go_simp; (try with_reducible rfl); done)); (try simp only [Act.put, List.setIfInBounds_toArray, List.set_cons_zero, List.set_cons_succ]))
                              | (refine seq_takeG (v := ?_) (g := ?_) (d := ?_) (b := ?_) (u := ?_) ?_ ?_ ?_ ?_ (fun _ _ _ h => h) (by kernel_rfl) ?_ ?_; rotate_left 5; (focus rfl); (focus rfl); (focus rfl); (focus (first | rfl | (go_simp; done))); (focus (intro w' hSw; (try dsimp only at hSw); go_simp; (try with_reducible rfl); done)); (try simp only [Act.put, List.setIfInBounds_toArray, List.set_cons_zero, List.set_cons_succ]))
                              | (refine seq_skipG (g := ?_) (d := ?_) (b := ?_) (u := ?_) ?_ ?_ ?_ ?_ (fun _ _ _ h => h) (by kernel_rfl) ?_; rotate_left 4; (focus rfl); (focus rfl); (focus rfl); (focus (first | rfl | (go_simp; done))); (try simp only [Act.put, List.setIfInBounds_toArray, List.set_cons_zero, List.set_cons_succ])))
                            refine seq_done (by kernel_rfl) ?_
                            go_wp2_with fail
                            go_roundw
                            case rel => exact ⟨i + 1, by omega, by go_num, by rw [HR.out], HB6.out⟩
                            case measure => simp [intOf]; omega
                          · have HR : Hid (lastN d l p (i + 1) = (ln : Int)) := by show _ = _; rw [HLS.out, if_neg (by omega)]
                            have k3b : decide (ey < ex) = false := decide_eq_false k3
                            go_wp2_with fail
                            refine seq_start (S := fun w' => (w'.cell? ⟨bo, fo + i * 3, none⟩ = some (.int .i64 xp) ∧ w'.cell? ⟨bo, fo + i * 3 + 1, none⟩ = some (.int .i64 xk) ∧ w'.cell? ⟨bo, fo + i * 3 + 2, none⟩ = some (.int .i64 xs)) ∧ (w'.cell? ⟨bo, fo + ln * 3, none⟩ = some (.int .i64 yp) ∧ w'.cell? ⟨bo, fo + ln * 3 + 1, none⟩ = some (.int .i64 yk) ∧ w'.cell? ⟨bo, fo + ln * 3 + 2, none⟩ = some (.int .i64 ys)) ∧ w'.cell? ⟨w.heap.size, 0, none⟩ = some (.int .i64 (P : Int)) ∧ w'.cell? ⟨w.heap.size, 1, none⟩ = some (.int .i64 d.change) ∧ w'.cell? ⟨w.heap.size, 2, none⟩ = some (.slice Ac nc cc) ∧ w'.cell? ⟨w.heap.size, 3, none⟩ = some (.slice (some ad) nc cn) ∧ w'.cell? ⟨w.heap.size, 4, none⟩ = some vm) (by kernel_rfl) (by kernel_rfl) (by exact HS0.out _ HBQD.out) ?_
                            repeat (first
                              | (refine seq_take0 (v := ?_) ?_ (fun _ _ _ h => h) (by kernel_rfl) ?_ ?_; rotate_left; (focus rfl); (focus (intro w' hSw; (try dsimp only at hSw); go_simp; (try with_reducible rfl); done)); (try simp only [Act.put, List.setIfInBounds_toArray, List.set_cons_zero, List.set_cons_succ]))
                              | (refine seq_takeG (v := ?_) (g := ?_) (d := ?_) (b := ?_) (u := ?_) ?_ ?_ ?_ ?_ (fun _ _ _ h => h) (by kernel_rfl) ?_ ?_; rotate_left 5; (focus rfl); (focus rfl); (focus rfl); (focus (first | rfl | (go_simp; done))); (focus (intro w' hSw; (try dsimp only at hSw); go_simp; (try with_reducible rfl); done)); (try simp only [Act.put, List.setIfInBounds_toArray, List.set_cons_zero, List.set_cons_succ]))
                              | (refine seq_skipG (g := ?_) (d := ?_) (b := ?_) (u := ?_) ?_ ?_ ?_ ?_ (fun _ _ _ h => h) (by kernel_rfl) ?_; rotate_left 4; (focus rfl); (focus rfl); (focus rfl); (focus (first | rfl | (go_simp; done))); (try simp only [Act.put, List.setIfInBounds_toArray, List.set_cons_zero, List.set_cons_succ])))
                            repeat (refine seq_swap ?_; first
                              | (refine seq_take0 (v := ?_) ?_ (fun _ _ _ h => h) (by kernel_rfl) ?_ ?_; rotate_left; (focus rfl); (focus (intro w' hSw; (try dsimp only at hSw); go_simp; (try with_reducible rfl); done)); (try simp only [Act.put, List.setIfInBounds_toArray, List.set_cons_zero, List.set_cons_succ]))
                              | (refine seq_takeG (v := ?_) (g := ?_) (d := ?_) (b := ?_) (u := ?_) ?_ ?_ ?_ ?_ (fun _ _ _ h => h) (by kernel_rfl) ?_ ?_; rotate_left 5; (focus rfl); (focus rfl); (focus rfl); (focus (first | rfl | (go_simp; done))); (focus (intro w' hSw; (try dsimp only at hSw); go_simp; (try with_reducible rfl); done)); (try simp only [Act.put, List.setIfInBounds_toArray, List.set_cons_zero, List.set_cons_succ]))
                              | (refine seq_skipG (g := ?_) (d := ?_) (b := ?_) (u := ?_) ?_ ?_ ?_ ?_ (fun _ _ _ h => h) (by kernel_rfl) ?_; rotate_left 4; (focus rfl); (focus rfl); (focus rfl); (focus (first | rfl | (go_simp; done))); (try simp only [Act.put, List.setIfInBounds_toArray, List.set_cons_zero, List.set_cons_succ])))
                            refine seq_op (by kernel_rfl) (by rfl) (fun K hK => ?_)
                            go_simp
                            refine HEX2.out.mono ?_
                            rintro e' w5 ⟨rfl, hb5⟩
                            have HB5 := Lib.hid (HBQD.out.trans (hb5.mono HBQD.out.size))
                            clear hb5
                            refine hK.out _ _ (HS0.out _ HB5.out) ?_
                            clear hK K
                            repeat (first
                              | (refine seq_take0 (v := ?_) ?_ (fun _ _ _ h => h) (by kernel_rfl) ?_ ?_; rotate_left; (focus rfl); (focus (intro w' hSw; (try dsimp only at hSw); go_simp; (try with_reducible rfl); done)); (try simp only [Act.put, List.setIfInBounds_toArray, List.set_cons_zero, List.set_cons_succ]))
                              | (refine seq_takeG (v := ?_) (g := ?_) (d := ?_) (b := ?_) (u := ?_) ?_ ?_ ?_ ?_ (fun _ _ _ h => h) (by kernel_rfl) ?_ ?_; rotate_left 5; (focus rfl); (focus rfl); (focus rfl); (focus (first | rfl | (go_simp; done))); (focus (intro w' hSw; (try dsimp only at hSw); go_simp; (try with_reducible rfl); done)); (try simp only [Act.put, List.setIfInBounds_toArray, List.set_cons_zero, List.set_cons_succ]))
                              | (refine seq_skipG (g := ?_) (d := ?_) (b := ?_) (u := ?_) ?_ ?_ ?_ ?_ (fun _ _ _ h => h) (by kernel_rfl) ?_; rotate_left 4; (focus rfl); (focus rfl); (focus rfl); (focus (first | rfl | (go_simp; done))); (try simp only [Act.put, List.setIfInBounds_toArray, List.set_cons_zero, List.set_cons_succ])))
                            repeat (refine seq_swap ?_; first
                              | (refine seq_take0 (v := ?_) ?_ (fun _ _ _ h => h) (by kernel_rfl) ?_ ?_; rotate_left; (focus rfl); (focus (intro w' hSw; (try dsimp only at hSw); go_simp; (try with_reducible rfl); done)); (try simp only [Act.put, List.setIfInBounds_toArray, List.set_cons_zero, List.set_cons_succ]))
                              | (refine seq_takeG (v := ?_) (g := ?_) (d := ?_) (b := ?_) (u := ?_) ?_ ?_ ?_ ?_ (fun _ _ _ h => h) (by kernel_rfl) ?_ ?_; rotate_left 5; (focus rfl); (focus rfl); (focus rfl); (focus (first | rfl | (go_simp; done))); (focus (intro w' hSw; (try dsimp only at hSw); go_simp; (try with_reducible rfl); done)); (try simp only [Act.put, List.setIfInBounds_toArray, List.set_cons_zero, List.set_cons_succ]))
                              | (refine seq_skipG (g := ?_) (d := ?_) (b := ?_) (u := ?_) ?_ ?_ ?_ ?_ (fun _ _ _ h => h) (by kernel_rfl) ?_; rotate_left 4; (focus rfl); (focus rfl); (focus rfl); (focus (first | rfl | (go_simp; done))); (try simp only [Act.put, List.setIfInBounds_toArray, List.set_cons_zero, List.set_cons_succ])))
                            refine seq_op (by kernel_rfl) (by rfl) (fun K hK => ?_)
                            go_simp
                            refine (HEY.out _ HB5.out).mono ?_
                            rintro e' w6 ⟨rfl, hb6⟩
                            have HB6 := Lib.hid (HB5.out.trans (hb6.mono HB5.out.size))
                            clear hb6
                            refine hK.out _ _ (HS0.out _ HB6.out) ?_
                            clear hK K
                            repeat (first
                              | (refine seq_take0 (v := ?_) ?_ (fun _ _ _ h => h) (by kernel_rfl) ?_ ?_; rotate_left; (focus rfl); (focus (intro w' hSw; (try dsimp only at hSw); go_simp; (try with_reducible rfl); done)); (try simp only [Act.put, List.setIfInBounds_toArray, List.set_cons_zero, List.set_cons_succ]))
                              | (refine seq_takeG (v := ?_) (g := ?_) (d := ?_) (b := ?_) (u := ?_) ?_ ?_ ?_ ?_ (fun _ _ _ h => h) (by kernel_rfl) ?_ ?_; rotate_left 5; (focus rfl); (focus rfl); (focus rfl); (focus (first | rfl | (go_simp; done))); (focus (intro w' hSw; (try dsimp only at hSw); go_simp; (try with_reducible rfl); done)); (try simp only [Act.put, List.setIfInBounds_toArray, List.set_cons_zero, List.set_cons_succ]))
                              | (refine seq_skipG (g := ?_) (d := ?_) (b := ?_) (u := ?_) ?_ ?_ ?_ ?_ (fun _ _ _ h => h) (by kernel_rfl) ?_; rotate_left 4; (focus rfl); (focus rfl); (focus rfl); (focus (first | rfl | (go_simp; done))); (try simp only [Act.put, List.setIfInBounds_toArray, List.set_cons_zero, List.set_cons_succ])))
                            refine seq_done (by kernel_rfl) ?_
                            go_wp2_with fail
                            go_roundw
                            case rel => exact ⟨i + 1, by omega, by go_num, by rw [HR.out], HB6.out⟩
                            case measure => simp [intOf]; omega
                      · have k1b : (xp == (p : Int)) = false := by simp [k1]
                        have HR : Hid (lastN d l p (i + 1) = la) := by show _ = _; rw [HLS.out, if_neg (fun h => k1 h.1)]
                        clear k1
                        obtain ⟨d0, d1, d2⟩ := HDX.out _ HBQ.out
                        go_wp2_with fail
                        refine seq_start (S := fun w' => w'.cell? ⟨bo, fo + i * 3, none⟩ = some (.int .i64 xp)) (by kernel_rfl) (by kernel_rfl) (by exact d0) ?_
                        repeat (first
                          | (refine seq_take0 (v := ?_) ?_ (fun _ _ _ h => h) (by kernel_rfl) ?_ ?_; rotate_left; (focus rfl); (focus (intro w' hSw; (try dsimp only at hSw); go_simp; (try with_reducible rfl); done)); (try simp only [Act.put, List.setIfInBounds_toArray, List.set_cons_zero, List.set_cons_succ]))
                          | (refine seq_takeG (v := ?_) (g := ?_) (d := ?_) (b := ?_) (u := ?_) ?_ ?_ ?_ ?_ (fun _ _ _ h => h) (by kernel_rfl) ?_ ?_; rotate_left 5; (focus rfl); (focus rfl); (focus rfl); (focus (first | rfl | (go_simp; done))); (focus (intro w' hSw; (try dsimp only at hSw); go_simp; (try with_reducible rfl); done)); (try simp only [Act.put, List.setIfInBounds_toArray, List.set_cons_zero, List.set_cons_succ]))
                          | (refine seq_skipG (g := ?_) (d := ?_) (b := ?_) (u := ?_) ?_ ?_ ?_ ?_ (fun _ _ _ h => h) (by kernel_rfl) ?_; rotate_left 4; (focus rfl); (focus rfl); (focus rfl); (focus (first | rfl | (go_simp; done))); (try simp only [Act.put, List.setIfInBounds_toArray, List.set_cons_zero, List.set_cons_succ])))
                        refine seq_done (by kernel_rfl) ?_
                        go_wp2_with fail
                        go_roundw
                        case rel => exact ⟨i + 1, by omega, by go_num, by rw [HR.out], HBQD.out⟩
                        case measure => simp [intOf]; omega
                    · have hik : i = k := by omega
                      have hlak : la = lastN d l p l.length := by rw [HLA.out, hik, HLL.out]
                      have HKL : Hid (kd < (d.cure.length : Int)) := by show _ < _; have := HNC.out; omega
                      have hrf := rfrm_eq HORD.out (p : Int) kd
                      unfold rfrm at hrf
                      rw [← hlak] at hrf
                      have hli : ¬ ((i : Int) < (k : Int)) := by omega
                      have hlk : la < k := by omega
                      clear hik hlak
                      by_cases k1 : la < 0
                      focus
                        have HF0 : Hid (frmP d l p kd = 0) := by show _ = _; rw [← hrf, if_pos k1]
                        clear hrf
                        have k1b : decide (0 ≤ la) = false := decide_eq_false (by omega)
                        go_wp2_with fail
                        obtain ⟨wz, rfl⟩ : ∃ wz, wz = wr := ⟨_, rfl⟩
                      rotate_left
                      focus
                        obtain ⟨ln, hln⟩ : ∃ ln : Nat, la = (ln : Int) := ⟨la.toNat, by omega⟩
                        subst hln
                        have hlnk : ln < k := by omega
                        obtain ⟨A', cap', he, _, _, h3⟩ := id HRD.out.2
                        obtain ⟨bo, fo, hA', hbo, -⟩ := h3 (by intro e; have := HLL.out; rw [e] at this; simp at this; omega)
                        simp only [Value.slice.injEq] at he
                        obtain ⟨he1, he2, he3⟩ := he
                        clear he2 he3
                        rw [hA'] at he1
                        subst he1
                        have hy : l[ln]? = some (l[ln]'(by have := HLL.out; omega)) := List.getElem?_eq_getElem _
                        obtain ⟨y, hye⟩ : ∃ y, y = l[ln]'(by have := HLL.out; omega) := ⟨_, rfl⟩
                        rw [← hye] at hy
                        have hjy := jobAt_of hy
                        have hyl := mem_of_get? hy
                        have HEY := Lib.hid (HEN.out y hyl)
                        have HDY : Hid (∀ w', Below wo.heap.size wo w' → w'.cell? ⟨bo, fo + ln * 3, none⟩ = some (.int .i64 y.press) ∧ w'.cell? ⟨bo, fo + ln * 3 + 1, none⟩ = some (.int .i64 y.kind) ∧ w'.cell? ⟨bo, fo + ln * 3 + 2, none⟩ = some (.int .i64 y.start)) := fun w' hb' =>
                          have hr := (HWV.out _ (HTP.out.grow hb')).2
                          ⟨hr.cell_at hy (j := 0) rfl, hr.cell_at hy (j := 1) rfl, hr.cell_at hy (j := 2) rfl⟩
                        rw [hjy] at hrf
                        have hec := cure_calm HG.out (HJ.out.kind y hyl).1 (HJ.out.kind y hyl).2
                        have hes := HJ.out.start y hyl
                        obtain ⟨ex, hex⟩ : ∃ e, e = endJ d y := ⟨_, rfl⟩
                        have hex0 : 0 ≤ ex ∧ ex ≤ 2000000 := by rw [hex]; unfold endJ; omega
                        obtain ⟨hex0, hex1⟩ := hex0
                        rw [← hex] at hrf HEY
                        have hcc0 := HG.out.ok.c0
                        have hcc1 := HG.out.ok.c1
                        clear hy hye hjy hex h3 hbo hA' hyl hec hes
                        obtain ⟨yp, yk, ys⟩ := y
                        simp only [JobV] at hrf HEY HDY
                        have hlnki : (ln : Int) < (k : Int) := by omega
                        have hln0 : (0 : Int) ≤ (ln : Int) := by omega
                        have HRF := Lib.hid hrf
                        clear hrf
                        have HS0 : Hid (∀ w', Below wo.heap.size wo w' → (w'.cell? ⟨bo, fo + ln * 3, none⟩ = some (.int .i64 yp) ∧ w'.cell? ⟨bo, fo + ln * 3 + 1, none⟩ = some (.int .i64 yk) ∧ w'.cell? ⟨bo, fo + ln * 3 + 2, none⟩ = some (.int .i64 ys)) ∧ w'.cell? ⟨w.heap.size, 0, none⟩ = some (.int .i64 (P : Int)) ∧ w'.cell? ⟨w.heap.size, 1, none⟩ = some (.int .i64 d.change) ∧ w'.cell? ⟨w.heap.size, 2, none⟩ = some (.slice Ac nc cc) ∧ w'.cell? ⟨w.heap.size, 3, none⟩ = some (.slice (some ad) nc cn) ∧ w'.cell? ⟨w.heap.size, 4, none⟩ = some vm) := fun w' hb' => ⟨HDY.out w' hb', HXW.out w' hb'⟩
                        have HBQD : Hid (Below wo.heap.size wo wr.drew) := HBQ.out.drew
                        by_cases k2 : yk = kd
                        focus
                          have HF0 : Hid (frmP d l p kd = ex) := by show _ = _; rw [← HRF.out, if_neg (by omega), if_pos k2]; omega
                          have k2b : (yk != kd) = false := by simp [k2]
                          clear k2
                          go_wp2_with fail
                          refine seq_start (S := fun w' => (w'.cell? ⟨bo, fo + ln * 3, none⟩ = some (.int .i64 yp) ∧ w'.cell? ⟨bo, fo + ln * 3 + 1, none⟩ = some (.int .i64 yk) ∧ w'.cell? ⟨bo, fo + ln * 3 + 2, none⟩ = some (.int .i64 ys)) ∧ w'.cell? ⟨w.heap.size, 0, none⟩ = some (.int .i64 (P : Int)) ∧ w'.cell? ⟨w.heap.size, 1, none⟩ = some (.int .i64 d.change) ∧ w'.cell? ⟨w.heap.size, 2, none⟩ = some (.slice Ac nc cc) ∧ w'.cell? ⟨w.heap.size, 3, none⟩ = some (.slice (some ad) nc cn) ∧ w'.cell? ⟨w.heap.size, 4, none⟩ = some vm) (by kernel_rfl) (by kernel_rfl) (by exact HS0.out _ HBQD.out) ?_
                          repeat (first
                            | (refine seq_take0 (v := ?_) ?_ (fun _ _ _ h => h) (by kernel_rfl) ?_ ?_; rotate_left; (focus rfl); (focus (intro w' hSw; (try dsimp only at hSw); go_simp; (try with_reducible rfl); done)); (try simp only [Act.put, List.setIfInBounds_toArray, List.set_cons_zero, List.set_cons_succ]))
                            | (refine seq_takeG (v := ?_) (g := ?_) (d := ?_) (b := ?_) (u := ?_) ?_ ?_ ?_ ?_ (fun _ _ _ h => h) (by kernel_rfl) ?_ ?_; rotate_left 5; (focus rfl); (focus rfl); (focus rfl); (focus (first | rfl | (go_simp; done))); (focus (intro w' hSw; (try dsimp only at hSw); go_simp; (try with_reducible rfl); done)); (try simp only [Act.put, List.setIfInBounds_toArray, List.set_cons_zero, List.set_cons_succ]))
                            | (refine seq_skipG (g := ?_) (d := ?_) (b := ?_) (u := ?_) ?_ ?_ ?_ ?_ (fun _ _ _ h => h) (by kernel_rfl) ?_; rotate_left 4; (focus rfl); (focus rfl); (focus rfl); (focus (first | rfl | (go_simp; done))); (try simp only [Act.put, List.setIfInBounds_toArray, List.set_cons_zero, List.set_cons_succ])))
                          refine seq_op (by kernel_rfl) (by rfl) (fun K hK => ?_)
                          go_simp
                          refine (HEY.out _ HBQD.out).mono ?_
                          rintro e' wz ⟨rfl, hb5⟩
                          have HBQ := Lib.hid (HBQD.out.trans (hb5.mono HBQD.out.size))
                          clear hb5
                          refine hK.out _ _ (HS0.out _ HBQ.out) ?_
                          clear hK K
                          repeat (first
                            | (refine seq_take0 (v := ?_) ?_ (fun _ _ _ h => h) (by kernel_rfl) ?_ ?_; rotate_left; (focus rfl); (focus (intro w' hSw; (try dsimp only at hSw); go_simp; (try with_reducible rfl); done)); (try simp only [Act.put, List.setIfInBounds_toArray, List.set_cons_zero, List.set_cons_succ]))
                            | (refine seq_takeG (v := ?_) (g := ?_) (d := ?_) (b := ?_) (u := ?_) ?_ ?_ ?_ ?_ (fun _ _ _ h => h) (by kernel_rfl) ?_ ?_; rotate_left 5; (focus rfl); (focus rfl); (focus rfl); (focus (first | rfl | (go_simp; done))); (focus (intro w' hSw; (try dsimp only at hSw); go_simp; (try with_reducible rfl); done)); (try simp only [Act.put, List.setIfInBounds_toArray, List.set_cons_zero, List.set_cons_succ]))
                            | (refine seq_skipG (g := ?_) (d := ?_) (b := ?_) (u := ?_) ?_ ?_ ?_ ?_ (fun _ _ _ h => h) (by kernel_rfl) ?_; rotate_left 4; (focus rfl); (focus rfl); (focus rfl); (focus (first | rfl | (go_simp; done))); (try simp only [Act.put, List.setIfInBounds_toArray, List.set_cons_zero, List.set_cons_succ])))
                          refine seq_done (by kernel_rfl) ?_
                          obtain ⟨⟨d0, d1, d2⟩, x0, x1, x2, x3, x4⟩ := HS0.out _ HBQ.out
                          go_wp2_with fail
                        rotate_left
                        focus
                          have HF0 : Hid (frmP d l p kd = ex + d.change) := by show _ = _; rw [← HRF.out, if_neg (by omega), if_neg k2]
                          have k2b : (yk != kd) = true := by rw [bne_iff_ne]; exact k2
                          clear k2
                          go_wp2_with fail
                          refine seq_start (S := fun w' => (w'.cell? ⟨bo, fo + ln * 3, none⟩ = some (.int .i64 yp) ∧ w'.cell? ⟨bo, fo + ln * 3 + 1, none⟩ = some (.int .i64 yk) ∧ w'.cell? ⟨bo, fo + ln * 3 + 2, none⟩ = some (.int .i64 ys)) ∧ w'.cell? ⟨w.heap.size, 0, none⟩ = some (.int .i64 (P : Int)) ∧ w'.cell? ⟨w.heap.size, 1, none⟩ = some (.int .i64 d.change) ∧ w'.cell? ⟨w.heap.size, 2, none⟩ = some (.slice Ac nc cc) ∧ w'.cell? ⟨w.heap.size, 3, none⟩ = some (.slice (some ad) nc cn) ∧ w'.cell? ⟨w.heap.size, 4, none⟩ = some vm) (by kernel_rfl) (by kernel_rfl) (by exact HS0.out _ HBQD.out) ?_
                          repeat (first
                            | (refine seq_take0 (v := ?_) ?_ (fun _ _ _ h => h) (by kernel_rfl) ?_ ?_; rotate_left; (focus rfl); (focus (intro w' hSw; (try dsimp only at hSw); go_simp; (try with_reducible rfl); done)); (try simp only [Act.put, List.setIfInBounds_toArray, List.set_cons_zero, List.set_cons_succ]))
                            | (refine seq_takeG (v := ?_) (g := ?_) (d := ?_) (b := ?_) (u := ?_) ?_ ?_ ?_ ?_ (fun _ _ _ h => h) (by kernel_rfl) ?_ ?_; rotate_left 5; (focus rfl); (focus rfl); (focus rfl); (focus (first | rfl | (go_simp; done))); (focus (intro w' hSw; (try dsimp only at hSw); go_simp; (try with_reducible rfl); done)); (try simp only [Act.put, List.setIfInBounds_toArray, List.set_cons_zero, List.set_cons_succ]))
                            | (refine seq_skipG (g := ?_) (d := ?_) (b := ?_) (u := ?_) ?_ ?_ ?_ ?_ (fun _ _ _ h => h) (by kernel_rfl) ?_; rotate_left 4; (focus rfl); (focus rfl); (focus rfl); (focus (first | rfl | (go_simp; done))); (try simp only [Act.put, List.setIfInBounds_toArray, List.set_cons_zero, List.set_cons_succ])))
                          refine seq_op (by kernel_rfl) (by rfl) (fun K hK => ?_)
                          go_simp
                          refine (HEY.out _ HBQD.out).mono ?_
                          rintro e' wz ⟨rfl, hb5⟩
                          have HBQ := Lib.hid (HBQD.out.trans (hb5.mono HBQD.out.size))
                          clear hb5
                          refine hK.out _ _ (HS0.out _ HBQ.out) ?_
                          clear hK K
                          repeat (first
                            | (refine seq_take0 (v := ?_) ?_ (fun _ _ _ h => h) (by kernel_rfl) ?_ ?_; rotate_left; (focus rfl); (focus (intro w' hSw; (try dsimp only at hSw); go_simp; (try with_reducible rfl); done)); (try simp only [Act.put, List.setIfInBounds_toArray, List.set_cons_zero, List.set_cons_succ]))
                            | (refine seq_takeG (v := ?_) (g := ?_) (d := ?_) (b := ?_) (u := ?_) ?_ ?_ ?_ ?_ (fun _ _ _ h => h) (by kernel_rfl) ?_ ?_; rotate_left 5; (focus rfl); (focus rfl); (focus rfl); (focus (first | rfl | (go_simp; done))); (focus (intro w' hSw; (try dsimp only at hSw); go_simp; (try with_reducible rfl); done)); (try simp only [Act.put, List.setIfInBounds_toArray, List.set_cons_zero, List.set_cons_succ]))
                            | (refine seq_skipG (g := ?_) (d := ?_) (b := ?_) (u := ?_) ?_ ?_ ?_ ?_ (fun _ _ _ h => h) (by kernel_rfl) ?_; rotate_left 4; (focus rfl); (focus rfl); (focus rfl); (focus (first | rfl | (go_simp; done))); (try simp only [Act.put, List.setIfInBounds_toArray, List.set_cons_zero, List.set_cons_succ])))
                          refine seq_done (by kernel_rfl) ?_
                          obtain ⟨⟨d0, d1, d2⟩, x0, x1, x2, x3, x4⟩ := HS0.out _ HBQ.out
                          go_wp2_with fail
                      all_goals
                        obtain ⟨tE, htE⟩ : ∃ t, t = earlP d l p kd := ⟨_, rfl⟩
                        have HEar : Hid (Earliest d l kd (frmP d l p kd) tE) := by show Earliest _ _ _ _ _; rw [htE]; exact earlP_earliest (cure_calm HG.out hkd0 HKL.out).1 (by have := HG.out.ok.mould kd.toNat (by have := HKL.out; omega); rwa [show ((kd.toNat : Nat) : Int) = kd by omega] at this)
                        have htb : 0 ≤ tE ∧ tE ≤ 200000 := by rw [htE]; have := earl_bd HG.out HINV.out (p := p) hkd0 HKL.out; have := HG.out.ok.c1; omega
                        obtain ⟨htb0, htb1⟩ := htb
                        have HFR : Hid (0 ≤ frmP d l p kd) := (frm_bd HG.out HJ.out).1
                        have HTE := Lib.hid htE
                        clear htE
                        go_loopw [11] (fun fv wr' => ∃ f : Int, fv = .int .i64 f ∧ frmP d l p kd ≤ f ∧ f ≤ tE ∧ Below wz.heap.size wz wr') (fun fv _ => (200001 - intOf fv).toNat)
                        case atStart => exact ⟨_, rfl, by rw [HF0.out]; exact Int.le_refl _, by rw [← HF0.out]; exact HEar.out.le, Below.refl _ _⟩
                        case round =>
                          obtain ⟨f, rfl, hf0, hf1, hbz⟩ := hrel
                          have hf00 : 0 ≤ f := by have := HFR.out; omega
                          have HBZ := Lib.hid (HBQ.out.trans (hbz.mono HBQ.out.size))
                          have HBZ0 := Lib.hid hbz
                          have HF1 := Lib.hid hf0
                          clear hf0 hbz
                          have HFC := Lib.hid (fun w' (hb' : Below wo.heap.size wo w') => rfits_any _ _ d l kd f S _ w' (HWV.out _ (HTP.out.grow hb')).1 (HWV.out _ (HTP.out.grow hb')).2 HG.out HJ.out hkd0 HKL.out (by have := HLL.out; omega) hf00 (by omega))
                          by_cases k5 : f = tE
                          · have hrb : rfits d l kd f = true := rfits_iff.2 (by rw [k5]; exact HEar.out.fits)
                            rw [hrb] at HFC
                            clear hrb
                            subst k5
                            obtain ⟨bj, hbj⟩ : ∃ bj, bj = rbestN d l kd p := ⟨_, rfl⟩
                            have HNX : Hid (rbestN d l kd (p + 1) = if bj.press < 0 ∨ f < bj.start then ⟨(p : Int), kd, f⟩ else bj) := by
                              show _ = _; rw [hbj, HTE.out]; rfl
                            rw [← hbj] at HMBP
                            clear hbj
                            obtain ⟨bp, bk, bs⟩ := bj
                            simp only [] at HNX HMBP
                            by_cases b1 : bp < 0
                            · have HNY : Hid (rbestN d l kd (p + 1) = ⟨(p : Int), kd, f⟩) := by show _ = _; rw [HNX.out, if_pos (.inl b1)]
                              have b1b : decide (bp < 0) = true := decide_eq_true b1
                              obtain ⟨x0, x1, x2, x3, x4⟩ := HXW.out _ HBZ.out
                              go_wp2_with fail
                              refine (HFC.out _ HBZ.out).mono ?_
                              rintro e' w7 ⟨rfl, hb7⟩
                              have HB7 := Lib.hid (HBZ.out.trans (hb7.mono HBZ.out.size))
                              have HB8 := Lib.hid (HBZ0.out.trans (hb7.mono HBZ0.out.size))
                              clear hb7 x0 x1 x2 x3 x4
                              have T7 := Lib.hid (HTP.out.grow HB7.out)
                              have hm7 := (HB7.out.block _ (Array.getElem?_eq_some_iff.1 HMBP.out).1).trans HMBP.out
                              have HM7 := Lib.hid hm7
                              have y0 := cell_of_row w7 gb 0 _ _ _ hm7
                              have y1 := cell_of_row w7 gb 1 _ _ _ hm7
                              have y2 := cell_of_row w7 gb 2 _ _ _ hm7
                              have fr := fun j => frozen_of_row w7 gb j _ _ hm7
                              clear hm7
                              simp at y0 y1 y2
                              go_wp2_with fail
                              have T8 := ((T7.out.poke HGB.out HN1.out HN2'.out 0 (.int .i64 (p : Int))).poke HGB.out HN1.out HN2'.out 1 (.int .i64 kd)).poke HGB.out HN1.out HN2'.out 2 (.int .i64 f)
                              have hm8 : (((w7.setCell ⟨gb, 0, none⟩ (.int .i64 (p : Int))).setCell ⟨gb, 1, none⟩ (.int .i64 kd)).setCell ⟨gb, 2, none⟩ (.int .i64 f)).heap[gb]? = some (.cells #[.int .i64 (p : Int), .int .i64 kd, .int .i64 f] 37) :=
                                heap_setCell_same _ _ 2 _ 37 _ (heap_setCell_same _ _ 1 _ 37 _ (heap_setCell_same w7 _ 0 _ 37 _ HM7.out))
                              have HT8 := Lib.hid T8
                              have HM8 := Lib.hid hm8
                              clear T8 hm8 y0 y1 y2 fr
                              go_roundw
                              case rel => exact ⟨p + 1, hpl, by go_num, HT8.out, by rw [HNY.out]; exact HM8.out⟩
                              case measure => simp [intOf]; omega
                            · have b1b : decide (bp < 0) = false := decide_eq_false b1
                              by_cases b2 : f < bs
                              · have HNY : Hid (rbestN d l kd (p + 1) = ⟨(p : Int), kd, f⟩) := by show _ = _; rw [HNX.out, if_pos (.inr b2)]
                                have b2b : decide (f < bs) = true := decide_eq_true b2
                                obtain ⟨x0, x1, x2, x3, x4⟩ := HXW.out _ HBZ.out
                                go_wp2_with fail
                                refine (HFC.out _ HBZ.out).mono ?_
                                rintro e' w7 ⟨rfl, hb7⟩
                                have HB7 := Lib.hid (HBZ.out.trans (hb7.mono HBZ.out.size))
                                have HB8 := Lib.hid (HBZ0.out.trans (hb7.mono HBZ0.out.size))
                                clear hb7 x0 x1 x2 x3 x4
                                have T7 := Lib.hid (HTP.out.grow HB7.out)
                                have hm7 := (HB7.out.block _ (Array.getElem?_eq_some_iff.1 HMBP.out).1).trans HMBP.out
                                have HM7 := Lib.hid hm7
                                have y0 := cell_of_row w7 gb 0 _ _ _ hm7
                                have y1 := cell_of_row w7 gb 1 _ _ _ hm7
                                have y2 := cell_of_row w7 gb 2 _ _ _ hm7
                                have fr := fun j => frozen_of_row w7 gb j _ _ hm7
                                clear hm7
                                simp at y0 y1 y2
                                go_wp2_with fail
                                have T8 := ((T7.out.poke HGB.out HN1.out HN2'.out 0 (.int .i64 (p : Int))).poke HGB.out HN1.out HN2'.out 1 (.int .i64 kd)).poke HGB.out HN1.out HN2'.out 2 (.int .i64 f)
                                have hm8 : (((w7.setCell ⟨gb, 0, none⟩ (.int .i64 (p : Int))).setCell ⟨gb, 1, none⟩ (.int .i64 kd)).setCell ⟨gb, 2, none⟩ (.int .i64 f)).heap[gb]? = some (.cells #[.int .i64 (p : Int), .int .i64 kd, .int .i64 f] 37) :=
                                  heap_setCell_same _ _ 2 _ 37 _ (heap_setCell_same _ _ 1 _ 37 _ (heap_setCell_same w7 _ 0 _ 37 _ HM7.out))
                                have HT8 := Lib.hid T8
                                have HM8 := Lib.hid hm8
                                clear T8 hm8 y0 y1 y2 fr
                                go_roundw
                                case rel => exact ⟨p + 1, hpl, by go_num, HT8.out, by rw [HNY.out]; exact HM8.out⟩
                                case measure => simp [intOf]; omega
                              · have HNY : Hid (rbestN d l kd (p + 1) = ⟨bp, bk, bs⟩) := by show _ = _; rw [HNX.out, if_neg (by omega)]
                                have b2b : decide (f < bs) = false := decide_eq_false b2
                                obtain ⟨x0, x1, x2, x3, x4⟩ := HXW.out _ HBZ.out
                                go_wp2_with fail
                                refine (HFC.out _ HBZ.out).mono ?_
                                rintro e' w7 ⟨rfl, hb7⟩
                                have HB7 := Lib.hid (HBZ.out.trans (hb7.mono HBZ.out.size))
                                have HB8 := Lib.hid (HBZ0.out.trans (hb7.mono HBZ0.out.size))
                                clear hb7 x0 x1 x2 x3 x4
                                have T7 := Lib.hid (HTP.out.grow HB7.out)
                                have hm7 := (HB7.out.block _ (Array.getElem?_eq_some_iff.1 HMBP.out).1).trans HMBP.out
                                have HM7 := Lib.hid hm7
                                have y0 := cell_of_row w7 gb 0 _ _ _ hm7
                                have y1 := cell_of_row w7 gb 1 _ _ _ hm7
                                have y2 := cell_of_row w7 gb 2 _ _ _ hm7
                                have fr := fun j => frozen_of_row w7 gb j _ _ hm7
                                clear hm7
                                simp at y0 y1 y2
                                go_wp2_with fail
                                clear y0 y1 y2
                                go_roundw
                                case rel => exact ⟨p + 1, hpl, by go_num, T7.out, by rw [HNY.out]; exact HM7.out⟩
                                case measure => simp [intOf]; omega
                          · have hrb : rfits d l kd f = false := by
                              cases hq : rfits d l kd f with
                              | false => rfl
                              | true => exact absurd (rfits_iff.1 hq) (HEar.out.least f HF1.out (by omega))
                            rw [hrb] at HFC
                            clear hrb
                            have hflt : f < tE := by omega
                            clear k5
                            obtain ⟨x0, x1, x2, x3, x4⟩ := HXW.out _ HBZ.out
                            go_wp2_with fail
                            refine (HFC.out _ HBZ.out).mono ?_
                            rintro e' w7 ⟨rfl, hb7⟩
                            have HB7 := Lib.hid (HBZ.out.trans (hb7.mono HBZ.out.size))
                            have HB8 := Lib.hid (HBZ0.out.trans (hb7.mono HBZ0.out.size))
                            clear hb7 x0 x1 x2 x3 x4
                            go_wp2_with fail
                            go_roundw
                            case rel => exact ⟨f + 1, rfl, by have := HF1.out; omega, by omega, HB8.out⟩
                            case measure => simp [intOf]; omega
                · have hpe : p = (d.presses - 1).toNat + 1 := by have := HP.out; omega
                  have hpli : ¬ ((p : Int) < (P : Int)) := by omega
                  obtain ⟨bj, hbj⟩ : ∃ bj, bj = rbestN d l kd p := ⟨_, rfl⟩
                  rw [← hbj] at HMBP
                  have HBJ : Hid (bj = bestN d l (pickN d m m.length) (d.presses - 1).toNat) := by show _ = _; rw [hbj, hpe, rbestN_eq, HPK.out]
                  have HJC : Hid (l.flatMap jobC ++ [.int .i64 bj.press, .int .i64 bj.kind, .int .i64 bj.start] = (l ++ [bj]).flatMap jobC) := by show _ = _; simp [jobC]
                  clear hbj hpe
                  have hmb := HMBP.out
                  have y0 := cell_of_row wr gb 0 _ _ _ hmb
                  have y1 := cell_of_row wr gb 1 _ _ _ hmb
                  have y2 := cell_of_row wr gb 2 _ _ _ hmb
                  simp at y0 y1 y2
                  obtain ⟨kn, hkn⟩ : ∃ kn : Nat, kd = (kn : Int) := ⟨kd.toNat, by omega⟩
                  subst hkn
                  have hknc : kn < nc := by omega
                  have hknci : (kn : Int) < (nc : Int) := by omega
                  obtain ⟨hmk, hmk0, hmk1⟩ := HMR.out kn hknc
                  have hpos := pickN_pos d m m.length (by rw [← HPK.out]; omega)
                  rw [← HPK.out] at hpos
                  obtain ⟨q, hq⟩ : ∃ q, q = at0 m kn := ⟨_, rfl⟩
                  rw [← hq] at hmk hmk0 hmk1 hpos
                  have HQ := Lib.hid hq
                  have HMK := Lib.hid hmk
                  clear hmb hq hmk
                  obtain ⟨jp, jk, js⟩ := bj
                  simp only [] at y0 y1 y2 HJC
                  go_wp2_with (first
                    | (at_builtin; refine wpList_append_own_at _ rfl _ _ 32 rfl W1.heap.size 37 i0 (.agg #[.int .i64 0, .int .i64 0, .int .i64 0]) 3 24 Try.underlying32 hi hz0 hz1 hz2 rfl (by decide) _ _ _ rfl ((HTP.out.lay (.cells #[.int .i64 jp, .int .i64 jk, .int .i64 js] 37)).b) ⟨wr.heap.size, 0, none⟩ 1 1 [.int .i64 jp, .int .i64 jk, .int .i64 js] rfl rfl (cells_new wr #[.int .i64 jp, .int .i64 jk, .int .i64 js] 37 (0, 0)) (by intro u hu; simp at hu; rcases hu with rfl | rfl | rfl <;> rfl) (by unfold maxLen; omega) (by omega) (by have := HTP.out.hB; simp; omega) ?_; intro v9 w9 hown9 hg9 _ hf9; obtain ⟨A9, c9, rfl⟩ := ownsRow_slice hown9; have T9 := Lib.hid (((HTP.out.lay (.cells #[.int .i64 jp, .int .i64 jk, .int .i64 js] 37)).weak.swap.app hown9 hg9 (fun b hb => by rcases hf9 with h | h; exact .inl (h ▸ hb); rw [h] at hb; exact .inr (by simp at hb ⊢; omega))).swap); have cm9 := (T9.out.a.cellAt kn (by omega)).trans (by rw [List.getElem?_map, HMK.out]; rfl : _ = some (.int .i64 q)); have fm9 := T9.out.a.frozenAt (g := g) kn; clear hown9 hg9 hf9 y0 y1 y2 x0 x1 x2 x3 x4))
                  have hord2 := planI_ord HG.out HINV.out HORD.out (by rw [← HPK.out]; omega)
                  rw [← HBJ.out] at hord2
                  have HORD2 := Lib.hid hord2
                  have hstep := HINV.out.step HG.out (by rw [← HPK.out]; omega)
                  rw [← HBJ.out, ← HPK.out, Int.toNat_natCast, ← HQ.out] at hstep
                  have HSTEP := Lib.hid hstep
                  have T10 : Hid (TwoO W1.heap.size 3 37 1 3 (.slice (some ⟨g, 0, none⟩) nc cm) nc ((m.set kn (q - 1)).map (Value.int .i64)) (.slice A9 (k + 1) c9) (k + 1) ((l ++ [(⟨jp, jk, js⟩ : JobD)]).flatMap jobC) (fun _ _ => False) W1 (w9.setCell ⟨g, kn, none⟩ (.int .i64 (q - 1)))) := by
                    show TwoO _ _ _ _ _ _ _ _ _ _ _ _ _ _
                    rw [List.map_set, ← HJC.out]; exact T9.out.set1 kn _
                  clear hstep hord2 cm9 fm9
                  go_roundw
                  case rel => exact ⟨k + 1, _, _, HSTEP.out, HORD2.out, T10.out⟩
                  case measure => have := HSTEP.out.len HG.out; simp only [lenOf]; omega
  · have hz' : (we != 0) = true := by rw [bne_iff_ne]; exact hz
    have HZ : Hid (pl = []) := by show pl = []; rw [HPL.out, if_neg hz]
    clear hz
    go_enter Try.func8, Try.ntmps8
    go_wp2_with fail
    rw [← HW1.out]
    refine (HCH.out W1 HB1.out).mono ?_
    rintro e w2 ⟨rfl, hb2⟩
    have HB2 := Lib.hid (HB1.out.trans (hb2.mono HB1.out.size))
    clear hb2 x0 x1 x2 x3 x4
    go_wp2_with fail
    go_ret2
    exact ⟨⟨_, rfl, by rw [HZ.out]; exact World.ownsRow_nil _ _ _ _⟩, HB2.out⟩
end Go.Proofs.Ytogccnngdfancaa



