/- The walk of Plan. -/
import Derived.Test.YtogccnngdfancaaEarl
import Derived.Test.YtogccnngdfancaaPlanQ
import Derived.Test.YtogccnngdfancaaTwo2
namespace Go.Proofs.Ytogccnngdfancaa
open Go.RowKit
set_option linter.unusedVariables false
set_option linter.unusedSimpArgs false
def planL (d : WorksD) : List JobD := if wErr d = 0 then planW d else []
def lenOf : Value → Nat
  | .slice _ n _ => n
  | _ => 0
theorem at0_get {m : List Int} {k : Nat} (h : k < m.length) : m[k]? = some (at0 m k) := by
  unfold at0
  rw [Int.toNat_natCast, List.getD_eq_getElem?_getD, List.getElem?_eq_getElem h]; rfl
set_option maxRecDepth 100000 in
set_option maxHeartbeats 4000000 in
theorem Plan_any (v : Value) (d : WorksD) (S : Nat → Prop) (w : World) (hv : WkV w S v d) :
    Calls Try.prog 7 #[v] w fun e w' => (∃ v', e = .returned (.tuple #[v', .int .i64 (wErr d)]) ∧ w'.ownsRow w.heap.size 38 3 v' (planL d).length ((planL d).flatMap jobC)) ∧ Below w.heap.size w w' := by
  obtain ⟨i0, hi, hz0, hz1, hz2⟩ := info_parts info38
  have HCH := Lib.hid (fun w' (h : Below w.heap.size w w') => wcheck_any v d S w' (hv.below h))
  have HV := Lib.hid hv
  obtain ⟨vc, vn, vm, rfl, h1, h2, h3⟩ := hv.lt
  obtain ⟨Ac, nc, cc, rfl, hnc, -, hmc, hcc⟩ := h1.open_
  have HN2 := Lib.hid h2
  obtain ⟨we, hwe⟩ : ∃ we, we = wErr d := ⟨_, rfl⟩
  rw [← hwe] at HCH ⊢
  obtain ⟨pl, hpl⟩ : ∃ pl, pl = planL d := ⟨_, rfl⟩
  rw [← hpl]
  have HPL : Hid (pl = if we = 0 then planW d else []) := by show _ = _; rw [hpl, hwe]; rfl
  obtain ⟨W1, hW1⟩ : ∃ W1, W1 = w.alloc (.cells #[.int .i64 d.presses, .int .i64 d.change, .slice Ac nc cc, vn, vm] 31) := ⟨_, rfl⟩
  have hm1 := heap_alloc_new w (.cells #[.int .i64 d.presses, .int .i64 d.change, .slice Ac nc cc, vn, vm] 31)
  have hb1 : Below w.heap.size w W1 := by rw [hW1]; exact (Below.refl _ w).alloc (Nat.le_refl _) _
  rw [← hW1] at hm1
  have HSZ : Hid (W1.heap.size = w.heap.size + 1) := by show _ = _; rw [hW1]; simp
  have HCELL : Hid (∀ w', Below W1.heap.size W1 w' → w'.cell? ⟨w.heap.size, 0, none⟩ = some (.int .i64 d.presses) ∧ w'.cell? ⟨w.heap.size, 1, none⟩ = some (.int .i64 d.change) ∧ w'.cell? ⟨w.heap.size, 2, none⟩ = some (.slice Ac nc cc) ∧ w'.cell? ⟨w.heap.size, 3, none⟩ = some vn ∧ w'.cell? ⟨w.heap.size, 4, none⟩ = some vm) := fun w' hb => by
    have k0 := (hb.block _ (by have := HSZ.out; omega)).trans hm1
    exact ⟨cell_of_row w' _ 0 _ _ _ k0, cell_of_row w' _ 1 _ _ _ k0, cell_of_row w' _ 2 _ _ _ k0, cell_of_row w' _ 3 _ _ _ k0, cell_of_row w' _ 4 _ _ _ k0⟩
  obtain ⟨x0, x1, x2, x3, x4⟩ := HCELL.out W1 (Below.refl _ _)
  have HW1 := Lib.hid hW1
  have HB1 := Lib.hid hb1
  have HCC := Lib.hid hcc
  have HNC := Lib.hid hnc
  have HWE := Lib.hid hwe
  clear hW1 hm1 hb1 hcc hnc h1 h2 h3 hv hwe hpl
  by_cases hz : we = 0
  · subst hz
    have hg := wgood_of HWE.out.symm
    have HG := Lib.hid hg
    have HPW : Hid (pl = planW d) := by show _ = _; rw [HPL.out, if_pos rfl]
    have hp1 := hg.ok.p1
    have hp8 := hg.ok.p8
    have hn8 : nc ≤ 8 := by have := hg.ok.n8; have := HNC.out; omega
    have HNL : Hid (d.need.length = nc) := by have := hg.ok.n1; have := HNC.out; show _ = _; omega
    clear hg
    go_enter Try.func7, Try.ntmps7
    go_wp2_with fail
    rw [← HW1.out]
    refine (HCH.out W1 HB1.out).mono ?_
    rintro e w2 ⟨rfl, hb2⟩
    have HB2 := Lib.hid (HB1.out.trans (hb2.mono HB1.out.size))
    have HB2' : Hid (Below W1.heap.size W1 w2) := hb2
    have T2 : Hid (TwoO W1.heap.size 3 38 1 3 (.slice none 0 0) 0 [] (.slice none 0 0) 0 [] (fun _ _ => False) W1 w2) := (TwoO.bare _ _ _ _ _ _ (Nat.le_refl _)).grow hb2
    have HCL := Lib.hid (cloneI_own vn d.need _ w2 (HN2.out.below HB2.out) (by have := HNL.out; omega))
    clear hb2 x0 x1 x2 x3 x4
    obtain ⟨x0, x1, x2, x3, x4⟩ := HCELL.out w2 HB2'.out
    go_wp2_with fail
    refine HCL.out.mono ?_
    rintro e w3 ⟨⟨mv, rfl, ho3⟩, hb3⟩
    rw [HNL.out] at ho3
    have T3 := Lib.hid (T2.out.born ho3 hb3)
    obtain ⟨Am, cm, rfl⟩ := ownsRow_slice ho3
    clear ho3 hb3 x0 x1 x2 x3 x4
    go_wp2_with fail
    go_loopw [6] (fun ov wr => ∃ (k : Nat) (m : List Int) (l : List JobD), PlanInv d k m l ∧ TwoO W1.heap.size 3 38 1 3 (.slice Am nc cm) nc (m.map (Value.int .i64)) ov k (l.flatMap jobC) (fun _ _ => False) W1 wr) (fun ov wr => 64 - (lenOf ov))
    case atStart => exact ⟨0, d.need, [], planInv0 HG.out, T3.out⟩
    case round =>
      obtain ⟨k, m, l, hinv, hT⟩ := hrel
      obtain ⟨Ao, co, rfl⟩ := ownsRow_slice hT.b
      have HINV := Lib.hid hinv
      have HT := Lib.hid hT
      have HML : Hid (m.length = nc) := by have := hinv.ml; have := HNC.out; show _ = _; omega
      have HJ := Lib.hid (hinv.jobs HG.out)
      have hk64 := hinv.len HG.out
      have HLL : Hid (l.length = k) := hinv.ll
      have HEA : Hid (∀ (p kd : Int) (w' : World), 0 ≤ kd → kd < nc → TwoO W1.heap.size 3 38 1 3 (.slice Am nc cm) nc (m.map (Value.int .i64)) (.slice Ao k co) k (l.flatMap jobC) (fun _ _ => False) W1 w' →
          Calls Try.prog 19 #[.agg #[.int .i64 d.presses, .int .i64 d.change, .slice Ac nc cc, vn, vm], .slice Ao k co, .int .i64 p, .int .i64 kd] w' fun e w'' => e = .returned (.int .i64 (earlP d l p kd)) ∧ Below w'.heap.size w' w'') := fun p kd w' q0 q1 hT' =>
        earliest_any _ _ d l p kd S _ w' (HV.out.below (HB1.out.trans (hT'.bel.mono HB1.out.size))) (RdK.of_own (fun _ => rfl) hT'.b HLL.out) HG.out HJ.out q0 (by have := HNC.out; omega) (by have := HLL.out; omega)
      have HMR : Hid (∀ i : Nat, i < nc → m[i]? = some (at0 m i) ∧ 0 ≤ at0 m i ∧ at0 m i ≤ 64) := fun i hi => ⟨at0_get (by have := HML.out; omega), HINV.out.mr _ (at0_mem (by have := HML.out; omega))⟩
      clear hinv hT
      obtain ⟨wo, rfl⟩ : ∃ wo, wo = wr := ⟨_, rfl⟩
      go_wp2_with fail
      go_loopw [7, 23] (fun kv iv wr' => ∃ (i : Nat) (kd : Int), i ≤ nc ∧ iv = .int .i64 (i : Int) ∧ kv = .int .i64 kd ∧ kd = pickN d m i ∧ Below wo.heap.size wo wr') (fun _ iv _ => nc - (intOf iv).toNat)
      case atStart => exact ⟨0, -1, Nat.zero_le _, rfl, rfl, rfl, Below.refl _ _⟩
      case round =>
        obtain ⟨i, kd, hi', rfl, rfl, hkd, hbq⟩ := hrel
        have HTQ := Lib.hid (HT.out.grow hbq)
        have HBQ := Lib.hid hbq
        have hpb := pickN_bd d m i
        rw [← hkd] at hpb
        obtain ⟨hpb0, hpb1⟩ := hpb
        have HKD := Lib.hid hkd
        clear hbq hkd
        by_cases hlt : i < nc
        · obtain ⟨g, u, hA, hg1, hg2, hu, hcu, -⟩ := ownsRow_at HTQ.out.a i hlt
          subst hA
          obtain ⟨hmi, hmi0, hmi1⟩ := HMR.out i hlt
          rw [List.getElem?_map, hmi] at hu
          simp only [Option.map_some, Option.some.injEq] at hu
          subst hu
          obtain ⟨b1, f1, c, hA1, ⟨_, hl1⟩, hc, hcl1⟩ := HCC.out i hlt
          cases hA1
          have hcv : cureOf d i = c := by unfold cureOf; rw [Int.toNat_natCast, at_of hc]
          have hcb := cure_calm HG.out (k := (i : Int)) (by omega) (by have := HNC.out; omega)
          rw [hcv] at hcb
          obtain ⟨hcb0, hcb1⟩ := hcb
          obtain ⟨q, hq⟩ : ∃ q, q = at0 m i := ⟨_, rfl⟩
          rw [← hq] at hmi0 hmi1 hcu
          have hps : pickN d m (i + 1) = if 0 < q ∧ (kd < 0 ∨ at0 m kd * cureOf d kd < q * c) then (i : Int) else kd := by rw [hq, ← hcv, HKD.out]; rfl
          have HPS := Lib.hid hps
          have hbw : Below w.heap.size w wr := HB1.out.trans (HTQ.out.bel.mono HB1.out.size)
          have z1 := (hbw.cell (p := ⟨b1, _, none⟩) hl1).trans hcl1
          obtain ⟨x0, x1, x2, x3, x4⟩ := HCELL.out _ HTQ.out.bel
          have hlti : (i : Int) < (nc : Int) := by omega
          have hi0 : (0 : Int) ≤ (i : Int) := by omega
          have HBQD : Hid (Below wo.heap.size wo wr.drew) := HBQ.out.drew
          clear hmi hc hcl1 hcv hq hps
          by_cases a1 : 0 < q
          · by_cases a2 : kd < 0
            · have HP : Hid (pickN d m (i + 1) = (i : Int)) := by show _ = _; rw [HPS.out, if_pos ⟨a1, .inl a2⟩]
              clear hbw
              go_wp2_with fail
              refine seq_start (S := fun w' => w'.cell? ⟨w.heap.size, 2, none⟩ = some (.slice (some ⟨b1, f1, none⟩) nc cc)) (by kernel_rfl) (by kernel_rfl) (by exact x2) ?_
              repeat (first
                | (refine seq_take0 (v := ?_) ?_ (fun _ _ _ h => h) (by kernel_rfl) ?_ ?_; rotate_left; (focus rfl); (focus (intro w' hSw; (try dsimp only at hSw); go_simp; (try with_reducible rfl); done)); (try simp only [Act.put, List.setIfInBounds_toArray, List.set_cons_zero, List.set_cons_succ]))
                | (refine seq_takeG (v := ?_) (g := ?_) (d := ?_) (b := ?_) (u := ?_) ?_ ?_ ?_ ?_ (fun _ _ _ h => h) (by kernel_rfl) ?_ ?_; rotate_left 5; (focus rfl); (focus rfl); (focus rfl); (focus (first | rfl | (go_simp; done))); (focus (intro w' hSw; (try dsimp only at hSw); go_simp; (try with_reducible rfl); done)); (try simp only [Act.put, List.setIfInBounds_toArray, List.set_cons_zero, List.set_cons_succ]))
                | (refine seq_skipG (g := ?_) (d := ?_) (b := ?_) (u := ?_) ?_ ?_ ?_ ?_ (fun _ _ _ h => h) (by kernel_rfl) ?_; rotate_left 4; (focus rfl); (focus rfl); (focus rfl); (focus (first | rfl | (go_simp; done))); (try simp only [Act.put, List.setIfInBounds_toArray, List.set_cons_zero, List.set_cons_succ])))
              refine seq_done (by kernel_rfl) ?_
              go_wp2_with fail
              go_roundw
              case rel => exact ⟨i + 1, (i : Int), by omega, by go_num, rfl, HP.out.symm, HBQD.out⟩
              case measure => simp [intOf]; omega
            · obtain ⟨kn, hkn⟩ : ∃ kn : Nat, kd = (kn : Int) := ⟨kd.toNat, by omega⟩
              subst hkn
              have hknc : kn < nc := by omega
              obtain ⟨g2, u2, hA2, _, _, hu2, hcu2, _⟩ := ownsRow_at HTQ.out.a kn hknc
              cases hA2
              obtain ⟨hm2, hm20, hm21⟩ := HMR.out kn hknc
              rw [List.getElem?_map, hm2] at hu2
              simp only [Option.map_some, Option.some.injEq] at hu2
              subst hu2
              obtain ⟨b2, f2, c2, hA3, ⟨_, hl2⟩, hc2, hcl2⟩ := HCC.out kn hknc
              cases hA3
              have hcv2 : cureOf d kn = c2 := by unfold cureOf; rw [Int.toNat_natCast, at_of hc2]
              have hcb2 := cure_calm HG.out (k := (kn : Int)) (by omega) (by have := HNC.out; omega)
              rw [hcv2] at hcb2
              obtain ⟨hcb20, hcb21⟩ := hcb2
              obtain ⟨q2, hq2⟩ : ∃ q2, q2 = at0 m kn := ⟨_, rfl⟩
              rw [← hq2, hcv2] at HPS
              rw [← hq2] at hm20 hm21 hcu2
              have z2 := (hbw.cell (p := ⟨b1, _, none⟩) hl2).trans hcl2
              have hw1 : IntKind.i64.wrap (q * c) = q * c := IntWalk.i64_in _ (by have := mul_bd hmi0 hmi1 (show 0 ≤ c by omega) hcb1; omega)
              have hw2 : IntKind.i64.wrap (q2 * c2) = q2 * c2 := IntWalk.i64_in _ (by have := mul_bd hm20 hm21 (show 0 ≤ c2 by omega) hcb21; omega)
              have hknci : (kn : Int) < (nc : Int) := by omega
              have hkn0 : (0 : Int) ≤ (kn : Int) := by omega
              have hkd0 : decide ((kn : Int) < 0) = false := decide_eq_false (by omega)
              clear hbw hm2 hc2 hcl2 hcv2 hq2
              by_cases a3 : q2 * c2 < q * c
              · have HP : Hid (pickN d m (i + 1) = (i : Int)) := by show _ = _; rw [HPS.out, if_pos ⟨a1, .inr a3⟩]
                go_wp2_with fail
                refine seq_start (S := fun w' => w'.cell? ⟨w.heap.size, 2, none⟩ = some (.slice (some ⟨b1, f1, none⟩) nc cc) ∧ w'.cell? ⟨g, kn, none⟩ = some (.int .i64 q2) ∧ w'.cell? ⟨b1, f1 + i, none⟩ = some (.int .i64 c) ∧ w'.cell? ⟨b1, f1 + kn, none⟩ = some (.int .i64 c2)) (by kernel_rfl) (by kernel_rfl) (by exact ⟨x2, hcu2, z1, z2⟩) ?_
                repeat (first
                  | (refine seq_take0 (v := ?_) ?_ (fun _ _ _ h => h) (by kernel_rfl) ?_ ?_; rotate_left; (focus rfl); (focus (intro w' hSw; (try dsimp only at hSw); go_simp; (try with_reducible rfl); done)); (try simp only [Act.put, List.setIfInBounds_toArray, List.set_cons_zero, List.set_cons_succ]))
                  | (refine seq_takeG (v := ?_) (g := ?_) (d := ?_) (b := ?_) (u := ?_) ?_ ?_ ?_ ?_ (fun _ _ _ h => h) (by kernel_rfl) ?_ ?_; rotate_left 5; (focus rfl); (focus rfl); (focus rfl); (focus (first | rfl | (go_simp; done))); (focus (intro w' hSw; (try dsimp only at hSw); go_simp; (try with_reducible rfl); done)); (try simp only [Act.put, List.setIfInBounds_toArray, List.set_cons_zero, List.set_cons_succ]))
                  | (refine seq_skipG (g := ?_) (d := ?_) (b := ?_) (u := ?_) ?_ ?_ ?_ ?_ (fun _ _ _ h => h) (by kernel_rfl) ?_; rotate_left 4; (focus rfl); (focus rfl); (focus rfl); (focus (first | rfl | (go_simp; done))); (try simp only [Act.put, List.setIfInBounds_toArray, List.set_cons_zero, List.set_cons_succ])))
                refine seq_done (by kernel_rfl) ?_
                go_wp2_with fail
                go_roundw
                case rel => exact ⟨i + 1, (i : Int), by omega, by go_num, rfl, HP.out.symm, HBQD.out⟩
                case measure => simp [intOf]; omega
              · have HP : Hid (pickN d m (i + 1) = (kn : Int)) := by show _ = _; rw [HPS.out, if_neg (by omega)]
                go_wp2_with fail
                refine seq_start (S := fun w' => w'.cell? ⟨w.heap.size, 2, none⟩ = some (.slice (some ⟨b1, f1, none⟩) nc cc) ∧ w'.cell? ⟨g, kn, none⟩ = some (.int .i64 q2) ∧ w'.cell? ⟨b1, f1 + i, none⟩ = some (.int .i64 c) ∧ w'.cell? ⟨b1, f1 + kn, none⟩ = some (.int .i64 c2)) (by kernel_rfl) (by kernel_rfl) (by exact ⟨x2, hcu2, z1, z2⟩) ?_
                repeat (first
                  | (refine seq_take0 (v := ?_) ?_ (fun _ _ _ h => h) (by kernel_rfl) ?_ ?_; rotate_left; (focus rfl); (focus (intro w' hSw; (try dsimp only at hSw); go_simp; (try with_reducible rfl); done)); (try simp only [Act.put, List.setIfInBounds_toArray, List.set_cons_zero, List.set_cons_succ]))
                  | (refine seq_takeG (v := ?_) (g := ?_) (d := ?_) (b := ?_) (u := ?_) ?_ ?_ ?_ ?_ (fun _ _ _ h => h) (by kernel_rfl) ?_ ?_; rotate_left 5; (focus rfl); (focus rfl); (focus rfl); (focus (first | rfl | (go_simp; done))); (focus (intro w' hSw; (try dsimp only at hSw); go_simp; (try with_reducible rfl); done)); (try simp only [Act.put, List.setIfInBounds_toArray, List.set_cons_zero, List.set_cons_succ]))
                  | (refine seq_skipG (g := ?_) (d := ?_) (b := ?_) (u := ?_) ?_ ?_ ?_ ?_ (fun _ _ _ h => h) (by kernel_rfl) ?_; rotate_left 4; (focus rfl); (focus rfl); (focus rfl); (focus (first | rfl | (go_simp; done))); (try simp only [Act.put, List.setIfInBounds_toArray, List.set_cons_zero, List.set_cons_succ])))
                refine seq_done (by kernel_rfl) ?_
                go_wp2_with fail
                go_roundw
                case rel => exact ⟨i + 1, (kn : Int), by omega, by go_num, rfl, HP.out.symm, HBQD.out⟩
                case measure => simp [intOf]; omega
          · have HP : Hid (pickN d m (i + 1) = kd) := by show _ = _; rw [HPS.out, if_neg (fun h => a1 h.1)]
            have a1b : decide (0 < q) = false := decide_eq_false a1
            clear hbw
            go_wp2_with fail
            refine seq_start (S := fun w' => w'.cell? ⟨w.heap.size, 2, none⟩ = some (.slice (some ⟨b1, f1, none⟩) nc cc)) (by kernel_rfl) (by kernel_rfl) (by exact x2) ?_
            repeat (first
              | (refine seq_take0 (v := ?_) ?_ (fun _ _ _ h => h) (by kernel_rfl) ?_ ?_; rotate_left; (focus rfl); (focus (intro w' hSw; (try dsimp only at hSw); go_simp; (try with_reducible rfl); done)); (try simp only [Act.put, List.setIfInBounds_toArray, List.set_cons_zero, List.set_cons_succ]))
              | (refine seq_takeG (v := ?_) (g := ?_) (d := ?_) (b := ?_) (u := ?_) ?_ ?_ ?_ ?_ (fun _ _ _ h => h) (by kernel_rfl) ?_ ?_; rotate_left 5; (focus rfl); (focus rfl); (focus rfl); (focus (first | rfl | (go_simp; done))); (focus (intro w' hSw; (try dsimp only at hSw); go_simp; (try with_reducible rfl); done)); (try simp only [Act.put, List.setIfInBounds_toArray, List.set_cons_zero, List.set_cons_succ]))
              | (refine seq_skipG (g := ?_) (d := ?_) (b := ?_) (u := ?_) ?_ ?_ ?_ ?_ (fun _ _ _ h => h) (by kernel_rfl) ?_; rotate_left 4; (focus rfl); (focus rfl); (focus rfl); (focus (first | rfl | (go_simp; done))); (try simp only [Act.put, List.setIfInBounds_toArray, List.set_cons_zero, List.set_cons_succ])))
            refine seq_done (by kernel_rfl) ?_
            go_wp2_with fail
            go_roundw
            case rel => exact ⟨i + 1, kd, by omega, by go_num, rfl, HP.out.symm, HBQD.out⟩
            case measure => simp [intOf]; omega
        · have hin : i = nc := by omega
          have hpk : kd = pickN d m m.length := by rw [HKD.out, hin, HML.out]
          have hlti : ¬ ((i : Int) < (nc : Int)) := by omega
          have HPK := Lib.hid hpk
          have hkd1 : kd < nc := by omega
          clear hin hpk hpb1 HKD HBQ
          by_cases hneg : kd < 0
          · have HDONE : Hid (l = planW d) := HINV.out.done HG.out (by rw [← HPK.out]; exact hneg)
            go_wp2_with fail
            go_ret2
            exact ⟨⟨_, rfl, by rw [HPW.out, ← HDONE.out, HLL.out]; exact ownsRow_mono (HTQ.out.b) (by have := HSZ.out; omega)⟩, HB1.out.trans (HTQ.out.bel.mono HB1.out.size)⟩
          · have hkd0 : 0 ≤ kd := by omega
            obtain ⟨x0, x1, x2, x3, x4⟩ := HCELL.out _ HTQ.out.bel
            obtain ⟨g, u, hA, hg1, hg2, -⟩ := ownsRow_at HTQ.out.a kd.toNat (by omega)
            subst hA
            clear u
            go_wp2_with (go_at_call 19; refine (HEA.out 0 kd _ hkd0 hkd1 HTQ.out).mono ?_; rintro e w5 ⟨rfl, hb5⟩; have T5 := Lib.hid (HTQ.out.grow hb5); clear hb5 x0 x1 x2 x3 x4)
            obtain ⟨gb, hgb⟩ : ∃ gb, gb = w5.heap.size := ⟨_, rfl⟩
            obtain ⟨w6, hw6⟩ : ∃ w6, w6 = w5.alloc (.cells #[.int .i64 0, .int .i64 kd, .int .i64 (earlP d l 0 kd)] 38) := ⟨_, rfl⟩
            have hmb := heap_alloc_new w5 (.cells #[.int .i64 0, .int .i64 kd, .int .i64 (earlP d l 0 kd)] 38)
            have T6 : Hid (TwoO W1.heap.size 3 38 1 3 (.slice (some ⟨g, 0, none⟩) nc cm) nc (m.map (Value.int .i64)) (.slice Ao k co) k (l.flatMap jobC) (fun _ _ => False) W1 w6) := by rw [hw6]; exact (T5.out.lay _).weak
            have hn1 : (Value.slice (some ⟨g, 0, none⟩) nc cm).ownBlock ≠ some gb := fun e => by have := (T5.out.a.lt _ e).2; omega
            have hn2 : (Value.slice Ao k co).ownBlock ≠ some gb := fun e => by have := (T5.out.b.lt _ e).2; omega
            have hgbB : W1.heap.size ≤ gb := by rw [hgb]; exact T5.out.hB
            rw [← hw6, ← hgb] at hmb
            have HMB := Lib.hid hmb
            have HN1 := Lib.hid hn1
            have HN2' := Lib.hid hn2
            have HGB := Lib.hid hgbB
            clear hn1 hn2 hgbB hmb
            rw [← hw6, ← hgb]
            clear hw6 hgb
            obtain ⟨P, hP⟩ : ∃ P : Nat, d.presses = (P : Int) := ⟨d.presses.toNat, by omega⟩
            have HP := Lib.hid hP
            have hP1 : 1 ≤ P := by omega
            have hP8 : P ≤ 8 := by omega
            have HXC : Hid (∀ w', Below W1.heap.size W1 w' → w'.cell? ⟨w.heap.size, 0, none⟩ = some (.int .i64 (P : Int)) ∧ w'.cell? ⟨w.heap.size, 1, none⟩ = some (.int .i64 d.change) ∧ w'.cell? ⟨w.heap.size, 2, none⟩ = some (.slice Ac nc cc) ∧ w'.cell? ⟨w.heap.size, 3, none⟩ = some vn ∧ w'.cell? ⟨w.heap.size, 4, none⟩ = some vm) := by rw [← hP]; exact HCELL.out
            rw [hP] at HEA
            clear hP hp1 hp8
            go_loopw [11] (fun pv wr' => ∃ p : Nat, p < P ∧ pv = .int .i64 ((p : Int) + 1) ∧ TwoO W1.heap.size 3 38 1 3 (.slice (some ⟨g, 0, none⟩) nc cm) nc (m.map (Value.int .i64)) (.slice Ao k co) k (l.flatMap jobC) (fun _ _ => False) W1 wr' ∧
              wr'.heap[gb]? = some (.cells #[.int .i64 (bestN d l kd p).press, .int .i64 (bestN d l kd p).kind, .int .i64 (bestN d l kd p).start] 38)) (fun pv _ => P - (intOf pv).toNat)
            case atStart => exact ⟨0, by omega, rfl, T6.out, HMB.out⟩
            case round =>
              obtain ⟨p, hp, rfl, hTp, hmb⟩ := hrel
              have HTP := Lib.hid hTp
              have HMBP := Lib.hid hmb
              clear hTp hmb
              obtain ⟨x0, x1, x2, x3, x4⟩ := HXC.out _ HTP.out.bel
              by_cases hpl : p + 1 < P
              · have hpli : (p : Int) + 1 < (P : Int) := by omega
                have HNX : Hid (bestN d l kd (p + 1) = if earlP d l ((p : Int) + 1) kd < (bestN d l kd p).start then ⟨(p : Int) + 1, kd, earlP d l ((p : Int) + 1) kd⟩ else bestN d l kd p) := rfl
                obtain ⟨t, ht⟩ : ∃ t, t = earlP d l ((p : Int) + 1) kd := ⟨_, rfl⟩
                have HCA := Lib.hid (HEA.out ((p : Int) + 1) kd _ hkd0 hkd1 HTP.out)
                rw [← ht] at HCA HNX
                clear ht
                obtain ⟨bj, hbj⟩ : ∃ bj, bj = bestN d l kd p := ⟨_, rfl⟩
                rw [← hbj] at HNX HMBP
                clear hbj
                obtain ⟨bp, bk, bs⟩ := bj
                simp only [] at HNX HMBP
                by_cases k3 : t < bs
                · have HNY : Hid (bestN d l kd (p + 1) = ⟨(p : Int) + 1, kd, t⟩) := by show _ = _; rw [HNX.out, if_pos k3]
                  go_wp2_with (go_at_call 19; refine HCA.out.mono ?_; rintro e w7 ⟨rfl, hb7⟩; have T7 := Lib.hid (HTP.out.grow hb7); have hm7 := (hb7.block _ (Array.getElem?_eq_some_iff.1 HMBP.out).1).trans HMBP.out; have HM7 := Lib.hid hm7; have y0 := cell_of_row w7 gb 0 _ _ _ hm7; have y1 := cell_of_row w7 gb 1 _ _ _ hm7; have y2 := cell_of_row w7 gb 2 _ _ _ hm7; have fr := fun j => frozen_of_row w7 gb j _ _ hm7; clear hb7 x0 x1 x2 x3 x4 hm7; simp at y0 y1 y2)
                  have T8 := ((T7.out.poke HGB.out HN1.out HN2'.out 0 (.int .i64 ((p : Int) + 1))).poke HGB.out HN1.out HN2'.out 1 (.int .i64 kd)).poke HGB.out HN1.out HN2'.out 2 (.int .i64 t)
                  have hm8 : (((w7.setCell ⟨gb, 0, none⟩ (.int .i64 ((p : Int) + 1))).setCell ⟨gb, 1, none⟩ (.int .i64 kd)).setCell ⟨gb, 2, none⟩ (.int .i64 t)).heap[gb]? = some (.cells #[.int .i64 ((p : Int) + 1), .int .i64 kd, .int .i64 t] 38) :=
                    heap_setCell_same _ _ 2 _ 38 _ (heap_setCell_same _ _ 1 _ 38 _ (heap_setCell_same w7 _ 0 _ 38 _ HM7.out))
                  have HT8 := Lib.hid T8
                  have HM8 := Lib.hid hm8
                  clear T8 hm8 y0 y1 y2 fr
                  go_roundw
                  case rel => exact ⟨p + 1, hpl, by go_num, HT8.out, by rw [HNY.out]; exact HM8.out⟩
                  case measure => simp [intOf]; omega
                · have HNY : Hid (bestN d l kd (p + 1) = ⟨bp, bk, bs⟩) := by show _ = _; rw [HNX.out, if_neg k3]
                  go_wp2_with (go_at_call 19; refine HCA.out.mono ?_; rintro e w7 ⟨rfl, hb7⟩; have T7 := Lib.hid (HTP.out.grow hb7); have hm7 := (hb7.block _ (Array.getElem?_eq_some_iff.1 HMBP.out).1).trans HMBP.out; have HM7 := Lib.hid hm7; have y2 := cell_of_row w7 gb 2 _ _ _ hm7; clear hb7 x0 x1 x2 x3 x4 hm7; simp at y2)
                  go_roundw
                  case rel => exact ⟨p + 1, hpl, by go_num, T7.out, by rw [HNY.out]; exact HM7.out⟩
                  case measure => simp [intOf]; omega
              · have hpe : p = (d.presses - 1).toNat := by have := HP.out; omega
                have hpli : ¬ ((p : Int) + 1 < (P : Int)) := by omega
                obtain ⟨bj, hbj⟩ : ∃ bj, bj = bestN d l kd p := ⟨_, rfl⟩
                rw [← hbj] at HMBP
                have HBJ : Hid (bj = bestN d l (pickN d m m.length) (d.presses - 1).toNat) := by show _ = _; rw [hbj, hpe, HPK.out]
                have HJC : Hid (l.flatMap jobC ++ [.int .i64 bj.press, .int .i64 bj.kind, .int .i64 bj.start] = (l ++ [bj]).flatMap jobC) := by show _ = _; simp [jobC]
                clear hbj hpe
                have hmb := HMBP.out
                have y0 := cell_of_row wr gb 0 _ _ _ hmb
                have y1 := cell_of_row wr gb 1 _ _ _ hmb
                have y2 := cell_of_row wr gb 2 _ _ _ hmb
                simp at y0 y1 y2
                obtain ⟨kn, hkn⟩ : ∃ kn : Nat, kd = (kn : Int) := ⟨kd.toNat, by omega⟩
                subst hkn
                have hknc : kn < nc := by omega
                have hknci : (kn : Int) < (nc : Int) := by omega
                obtain ⟨hmk, hmk0, hmk1⟩ := HMR.out kn hknc
                have hpos := pickN_pos d m m.length (by rw [← HPK.out]; omega)
                rw [← HPK.out] at hpos
                obtain ⟨q, hq⟩ : ∃ q, q = at0 m kn := ⟨_, rfl⟩
                rw [← hq] at hmk hmk0 hmk1 hpos
                have HQ := Lib.hid hq
                have HMK := Lib.hid hmk
                clear hmb hq hmk
                obtain ⟨jp, jk, js⟩ := bj
                simp only [] at y0 y1 y2 HJC
                go_wp2_with (first
                  | (at_builtin; refine wpList_append_own_at _ rfl _ _ 27 rfl W1.heap.size 38 i0 (.agg #[.int .i64 0, .int .i64 0, .int .i64 0]) 3 24 Try.underlying27 hi hz0 hz1 hz2 rfl (by decide) _ _ _ rfl ((HTP.out.lay (.cells #[.int .i64 jp, .int .i64 jk, .int .i64 js] 38)).b) ⟨wr.heap.size, 0, none⟩ 1 1 [.int .i64 jp, .int .i64 jk, .int .i64 js] rfl rfl (cells_new wr #[.int .i64 jp, .int .i64 jk, .int .i64 js] 38 (0, 0)) (by intro u hu; simp at hu; rcases hu with rfl | rfl | rfl <;> rfl) (by unfold maxLen; omega) (by omega) (by have := HTP.out.hB; simp; omega) ?_; intro v9 w9 hown9 hg9 _ hf9; obtain ⟨A9, c9, rfl⟩ := ownsRow_slice hown9; have T9 := Lib.hid (((HTP.out.lay (.cells #[.int .i64 jp, .int .i64 jk, .int .i64 js] 38)).weak.swap.app hown9 hg9 (fun b hb => by rcases hf9 with h | h; exact .inl (h ▸ hb); rw [h] at hb; exact .inr (by simp at hb ⊢; omega))).swap); have cm9 := (T9.out.a.cellAt kn (by omega)).trans (by rw [List.getElem?_map, HMK.out]; rfl : _ = some (.int .i64 q)); have fm9 := T9.out.a.frozenAt (g := g) kn; clear hown9 hg9 hf9 y0 y1 y2 x0 x1 x2 x3 x4))
                have hstep := HINV.out.step HG.out (by rw [← HPK.out]; omega)
                rw [← HBJ.out, ← HPK.out, Int.toNat_natCast, ← HQ.out] at hstep
                have HSTEP := Lib.hid hstep
                have T10 : Hid (TwoO W1.heap.size 3 38 1 3 (.slice (some ⟨g, 0, none⟩) nc cm) nc ((m.set kn (q - 1)).map (Value.int .i64)) (.slice A9 (k + 1) c9) (k + 1) ((l ++ [(⟨jp, jk, js⟩ : JobD)]).flatMap jobC) (fun _ _ => False) W1 (w9.setCell ⟨g, kn, none⟩ (.int .i64 (q - 1)))) := by
                  show TwoO _ _ _ _ _ _ _ _ _ _ _ _ _ _
                  rw [List.map_set, ← HJC.out]; exact T9.out.set1 kn _
                clear hstep cm9 fm9
                go_roundw
                case rel => exact ⟨k + 1, _, _, HSTEP.out, T10.out⟩
                case measure => have := HSTEP.out.len HG.out; simp only [lenOf]; omega
  · have hz' : (we != 0) = true := by rw [bne_iff_ne]; exact hz
    have HZ : Hid (pl = []) := by show pl = []; rw [HPL.out, if_neg hz]
    clear hz
    go_enter Try.func7, Try.ntmps7
    go_wp2_with fail
    rw [← HW1.out]
    refine (HCH.out W1 HB1.out).mono ?_
    rintro e w2 ⟨rfl, hb2⟩
    have HB2 := Lib.hid (HB1.out.trans (hb2.mono HB1.out.size))
    clear hb2 x0 x1 x2 x3 x4
    go_wp2_with fail
    go_ret2
    exact ⟨⟨_, rfl, by rw [HZ.out]; exact World.ownsRow_nil _ _ _ _⟩, HB2.out⟩
end Go.Proofs.Ytogccnngdfancaa
