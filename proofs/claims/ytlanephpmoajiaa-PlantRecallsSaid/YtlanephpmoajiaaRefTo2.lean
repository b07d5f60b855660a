/- The walks of the reference's Touched and Recall; its marks are the program's. -/
import Derived.Test.YtlanephpmoajiaaRefTou
import Derived.Test.YtlanephpmoajiaaRecall
namespace Go.Proofs.Ytlanephpmoajiaa
open Go.RowKit
set_option linter.unusedVariables false
set_option linter.unusedSimpArgs false
theorem atOnce_touched {xs : List ItemD} (h : BookUq xs) {f : FaultD} (he : faultErr xs f = 0) : fromGo xs (atOnce xs f) xs.length = touchedMs xs f := by
  obtain ⟨i, hi, -⟩ := fault_some he
  unfold touchedMs
  simp only [hi]
  refine from_spread h (atOnce_len xs f) fun k x hx => ?_
  have : (atOnce xs f).getD k false = (during f x.at_ && chosenB x f.item) := by unfold atOnce; rw [List.getD_eq_getElem?_getD, List.getElem?_map, hx]; rfl
  rw [this, Bool.and_eq_true, edge_chosen h hx hi]
theorem onlyM_all (ms : List Bool) : onlyM ms (-1) = ms := by
  refine List.ext_getElem? fun t => ?_
  unfold onlyM
  rw [List.getElem?_mapIdx]
  cases ms[t]? with
  | none => rfl
  | some b =>
    simp only [Option.map_some]
    rw [show decide ((t : Int) ≠ -1) = true from decide_eq_true (by omega), Bool.and_true]
set_option maxRecDepth 100000 in
set_option maxHeartbeats 1000000 in
theorem refTouched_any (v : Value) (xs : List ItemD) (f : FaultD) (S : Nat → Prop) (w : World) (hv : RdI w S v xs) (hu : BookUq xs) (hxl : xs.length ≤ 1024) :
    Calls Try.prog 48 #[v, .agg #[.string f.item, .int .i64 f.since, .int .i64 f.until_]] w (TouchedNames w xs f) := by
  have HW := Lib.hid (fun w' (h : Below w.heap.size w w') => wrong_any v xs f S w' (hv.below h))
  have HT := Lib.hid (fun w' (h : Below w.heap.size w w') => refTouchedMs_any v xs f S w' (hv.below h) hxl)
  have HO := Lib.hid (fun w' u ms T (h : Below w.heap.size w w') (hr : Rd .bool w' T u ms) (hl : ms.length = xs.length) => only_any v u xs ms (-1) S T w' (hv.below h) hr hl hxl)
  have HE := Lib.hid (fun he => atOnce_touched hu (f := f) he)
  obtain ⟨A, n, cap, rfl, -⟩ := hv.open_
  obtain ⟨fe, hfe⟩ : ∃ fe, fe = faultErr xs f := ⟨_, rfl⟩
  have HFE := Lib.hid hfe
  obtain ⟨it, si, un⟩ := f
  simp only at HW HT ⊢
  rw [← hfe] at HW
  have hm := heap_alloc_new w (.cells #[.string it, .int .i64 si, .int .i64 un] 106)
  have hb0 : Below w.heap.size w (w.alloc (.cells #[.string it, .int .i64 si, .int .i64 un] 106)) := (Below.refl _ w).alloc (Nat.le_refl _) _
  obtain ⟨W1, hW1⟩ : ∃ W1, W1 = w.alloc (.cells #[.string it, .int .i64 si, .int .i64 un] 106) := ⟨_, rfl⟩
  rw [← hW1] at hm hb0
  have HW1 := Lib.hid hW1
  have HB0 := Lib.hid hb0
  have x0 : W1.cell? ⟨w.heap.size, 0, none⟩ = some (.string it) := cell_of_row W1 _ 0 _ _ _ hm
  have x1 : W1.cell? ⟨w.heap.size, 1, none⟩ = some (.int .i64 si) := cell_of_row W1 _ 1 _ _ _ hm
  have x2 : W1.cell? ⟨w.heap.size, 2, none⟩ = some (.int .i64 un) := cell_of_row W1 _ 2 _ _ _ hm
  have HM := Lib.hid hm
  clear hv hu hxl hW1 hm hb0 hfe
  go_enter Try.func48, Try.ntmps48
  go_wp2_with fail
  rw [← HW1.out]
  refine (HW.out W1 HB0.out).mono ?_
  rintro e w2 ⟨rfl, hb2⟩
  have HB2 := Lib.hid (HB0.out.trans (hb2.mono HB0.out.size))
  have hm2 := (hb2.block _ (Array.getElem?_eq_some_iff.1 HM.out).1).trans HM.out
  have y0 : w2.cell? ⟨w.heap.size, 0, none⟩ = some (.string it) := cell_of_row w2 _ 0 _ _ _ hm2
  have y1 : w2.cell? ⟨w.heap.size, 1, none⟩ = some (.int .i64 si) := cell_of_row w2 _ 1 _ _ _ hm2
  have y2 : w2.cell? ⟨w.heap.size, 2, none⟩ = some (.int .i64 un) := cell_of_row w2 _ 2 _ _ _ hm2
  clear hb2 hm2 x0 x1 x2
  rcases int_cases fe with ⟨hz, h0⟩ | ⟨hz, h0⟩
  · go_wp2_with fail
    refine (HT.out w2 HB2.out).mono ?_
    rintro e w3 ⟨⟨v3, rfl, ho⟩, hb3⟩
    obtain ⟨A3, c3, rfl⟩ := ownsRow_slice ho
    rw [HE.out (by rw [← HFE.out]; exact h0)] at ho
    have HB3 := Lib.hid (HB2.out.trans (hb3.mono HB2.out.size))
    have HR := Lib.hid (Rd.of_own ho)
    have hml : (touchedMs xs ⟨it, si, un⟩).length = xs.length := by have := ho.1; simpa using this
    have HML := Lib.hid hml
    clear ho hb3 y0 y1 y2 hml
    go_wp2_with fail
    refine (HO.out w3 _ _ _ HB3.out HR.out HML.out).mono ?_
    rintro e w4 ⟨⟨v4, rfl, hr⟩, hb4⟩
    go_wp2_with fail
    go_ret2
    refine ⟨⟨_, by rw [← HFE.out, h0]; rfl, ?_⟩, HB3.out.trans (hb4.mono HB3.out.size)⟩
    rw [← HFE.out, if_pos h0]
    rw [onlyM_all] at hr
    exact hr.mono fun b hb => Nat.le_trans HB3.out.size hb
  · go_wp2_with fail
    go_ret2
    refine ⟨⟨_, by rw [← HFE.out]; rfl, ?_⟩, HB2.out⟩
    rw [← HFE.out, if_neg h0]
    exact Rd.none_ _ _ _
set_option maxRecDepth 100000 in
set_option maxHeartbeats 2000000 in
theorem refRecall_any (v : Value) (xs : List ItemD) (vl : Value) (l : List FaultD) (S S2 : Nat → Prop) (w : World) (hv : RdI w S v xs) (hu : BookUq xs) (hxl : xs.length ≤ 1024) (hl : RdK 3 ftC w S2 vl l) :
    Calls Try.prog 47 #[v, vl] w (RecallPost w xs l) := by
  obtain ⟨i0, hi0, hz0, hz1, hz2⟩ := info_parts info4
  obtain ⟨Al, nl, cl, rfl, hnl, hcl, hml, hcel⟩ := (hl.lt ftC_0).open_
  have HWR := Lib.hid (fun w' (h : Below w.heap.size w w') f => wrong_any v xs f S w' (hv.below h))
  have HT := Lib.hid (fun w' (h : Below w.heap.size w w') f => refTouchedMs_any v xs f S w' (hv.below h) hxl)
  have HO := Lib.hid (fun w' u ms T (h : Below w.heap.size w w') (hr : Rd .bool w' T u ms) (hl : ms.length = xs.length) => only_any v u xs ms (-1) S T w' (hv.below h) hr hl hxl)
  have HE := Lib.hid (fun (f : FaultD) he => atOnce_touched hu (f := f) he)
  obtain ⟨A, n, cap, rfl, hn, hcap, hmax, hc⟩ := hv.lt.open_
  have HI := Lib.hid hc
  have HC := Lib.hid hcel
  by_cases h8 : 8 < nl
  · have HER : Hid (recallErr xs l = 4) := by unfold recallErr; exact if_pos (by omega)
    clear hl hnl hcel hxl hc hn hu HC HI HWR HT HO HE
    go_enter Try.func47, Try.ntmps47
    go_wp2_with fail
    go_ret2
    refine ⟨_, by rw [HER.out]; rfl, ?_, Below.refl _ _⟩
    rw [HER.out, if_neg (by decide)]
    exact Rd.none_ _ _ _
  · have HER : Hid (recallErr xs l = recErr xs (l.drop 0)) := by unfold recallErr; exact if_neg (by omega)
    have HNL := Lib.hid hnl
    have hn1024 : n ≤ 1024 := by omega
    have HN : Hid (n = xs.length) := hn.symm
    clear hl hnl hcel hxl hc hn hu hv
    go_enter Try.func47, Try.ntmps47
    go_wp2_with (at_make; refine wpList_make_full _ rfl _ _ 122 rfl w.heap.size 4 i0 (.bool false) 1 Try.underlying122 hi0 hz0 hz1 .i64 .i64 (n : Int) (n : Int) n rfl rfl rfl rfl (by rw [hz2]; omega) (by unfold maxLen; omega) (by simp) ?_; intro w1 hown hgrow; have hb1 : Below w.heap.size w w1 := (Below.refl _ w).grown hgrow (Nat.le_refl _) (fun k hk => by simp at hk); have HM1 := Lib.hid (Marks.new hown hb1); clear hown hgrow hb1)
    have HM2 : Hid (Marks w w.heap.size n n (recMs xs (l.take 0)) w1) := by
      have := HM1.out
      rw [HN.out] at this ⊢
      exact this
    go_loopw [7] (fun iv wr => ∃ j : Nat, j ≤ nl ∧ iv = .int .i64 j ∧ Marks w w.heap.size n n (recMs xs (l.take j)) wr ∧ recallErr xs l = recErr xs (l.drop j)) (fun iv _ => nl - (intOf iv).toNat)
    case atStart => exact ⟨0, Nat.zero_le _, rfl, HM2.out, HER.out⟩
    case round =>
      clear HM2 HM1 HER
      obtain ⟨j, hj, rfl, hM, hE⟩ := hrel
      by_cases hlt : j < nl
      · obtain ⟨b, off, x, rfl, ⟨_, hbw⟩, hx, hcell⟩ := HC.out j hlt
        have d0 : wr.cell? ⟨b, off + j * 3, none⟩ = some (.string x.item) := (hM.bel.cell (p := ⟨b, _, none⟩) hbw).trans (hcell 0 _ rfl)
        have d1 : wr.cell? ⟨b, off + j * 3 + 1, none⟩ = some (.int .i64 x.since) := (hM.bel.cell (p := ⟨b, _, none⟩) hbw).trans (hcell 1 _ rfl)
        have d2 : wr.cell? ⟨b, off + j * 3 + 2, none⟩ = some (.int .i64 x.until_) := (hM.bel.cell (p := ⟨b, _, none⟩) hbw).trans (hcell 2 _ rfl)
        rw [recErr_drop hx] at hE
        have HSN := Lib.hid (recMs_snoc (xs := xs) hx)
        have hTl := recMs_len xs (l.take j)
        obtain ⟨T, hT⟩ : ∃ T, T = recMs xs (l.take j) := ⟨_, rfl⟩
        rw [← hT] at hM HSN hTl
        have HW1 := Lib.hid (HWR.out wr hM.bel x)
        have HEX := Lib.hid (fun he => HE.out x he)
        have HTX := Lib.hid (fun w' h => HT.out w' h x)
        obtain ⟨fe, hfe⟩ : ∃ fe, fe = faultErr xs x := ⟨_, rfl⟩
        rw [← hfe] at HW1 hE HEX
        obtain ⟨M, hMm⟩ : ∃ M, M = touchedMs xs x := ⟨_, rfl⟩
        rw [← hMm] at HSN HEX
        have HEE := Lib.hid hE
        have HTL := Lib.hid hTl
        obtain ⟨xi, xs', xu⟩ := x
        simp only at d0 d1 d2 HW1 HTX
        have HM := Lib.hid hM
        clear hx hcell hE hT hTl hM hfe hMm
        go_wp2_with fail
        refine HW1.out.mono ?_
        rintro e w2 ⟨rfl, hb2⟩
        have HM2 := Lib.hid (HM.out.later hb2)
        have hbl : b < wr.heap.size := by have := HM.out.bel.size; omega
        have e0 : w2.cell? ⟨b, off + j * 3, none⟩ = some (.string xi) := (hb2.cell (p := ⟨b, _, none⟩) hbl).trans d0
        have e1 : w2.cell? ⟨b, off + j * 3 + 1, none⟩ = some (.int .i64 xs') := (hb2.cell (p := ⟨b, _, none⟩) hbl).trans d1
        have e2 : w2.cell? ⟨b, off + j * 3 + 2, none⟩ = some (.int .i64 xu) := (hb2.cell (p := ⟨b, _, none⟩) hbl).trans d2
        clear d0 d1 d2 hb2
        rcases int_cases fe with ⟨hz, h0⟩ | ⟨hz, h0⟩
        · go_wp2_with fail
          refine (HTX.out w2 HM2.out.bel).mono ?_
          rintro e w5 ⟨⟨v5, rfl, ho5⟩, hb5⟩
          rw [HEX.out h0, ← HN.out] at ho5
          obtain ⟨A5, c5, rfl⟩ := ownsRow_slice ho5
          have hr5 : Rd .bool w5 (fun k => w2.heap.size ≤ k ∧ k < w5.heap.size) _ M := (Rd.of_own (f := Value.bool) ho5).lt
          obtain ⟨A6, n6, cap6, hA6, hn6, hcap6, hmax6, hc6⟩ := hr5.open_
          simp only [Value.slice.injEq] at hA6
          obtain ⟨rfl, rfl, rfl⟩ := hA6
          have HC6 := Lib.hid hc6
          have HM5 := Lib.hid (HM2.out.later hb5)
          have hwaS : w.heap.size < w2.heap.size := by have := (HM2.out.own.lt w.heap.size (by simp [Value.ownBlock])).2; exact this
          clear ho5 hr5 hn6 hc6 hb5 e0 e1 e2
          go_wp2_with fail
          go_loopw [10] (fun iv wq => ∃ k : Nat, k ≤ n ∧ iv = .int .i64 k ∧ Marks w w.heap.size n n (orUp xs T M k) wq ∧ Keep (fun b => b ≠ w.heap.size) w5 wq) (fun iv _ => n - (intOf iv).toNat)
          case atStart => exact ⟨0, Nat.zero_le _, rfl, by rw [orUp_zero]; exact HM5.out, Keep.refl _ _⟩
          case round =>
            obtain ⟨k, hk, rfl, hM, hK⟩ := hrel
            by_cases hlt2 : k < n
            · obtain ⟨c0, f0⟩ := hM.at_ hlt2
              rw [orUp_at] at c0
              obtain ⟨b7, off7, mk, hA7, ⟨hb7a, hb7b⟩, hmk, hcell7⟩ := HC6.out k hlt2
              subst hA7
              have d7 : wr.cell? ⟨b7, off7 + k, none⟩ = some (.bool mk) := (hK.cell (p := ⟨b7, _, none⟩) (by show b7 ≠ _; omega)).trans hcell7
              obtain ⟨bx, ox, x, fx, rfl, ⟨_, hbx⟩, hx, q0, q1, q2, q3, -⟩ := HI.out k hlt2
              have i1' : wr.cell? ⟨bx, ox + k * 4 + 1, none⟩ = some (.int .i64 x.kind) := (hM.bel.cell (p := ⟨bx, _, none⟩) hbx).trans q1
              have hhit : hitT xs M k = (mk && decide (x.kind = 3)) := by unfold hitT; rw [List.getD_eq_getElem?_getD, hmk, hx]; rfl
              have HNX := Lib.hid (fun v (hv : v = (T.getD k false || (mk && decide (x.kind = 3)))) => orUp_succ (xs := xs) (T := T) (M := M) (k := k) (v := v) (by rw [hhit]; exact hv))
              obtain ⟨tk, htk⟩ : ∃ tk, tk = T.getD k false := ⟨_, rfl⟩
              rw [← htk] at c0 HNX
              obtain ⟨xn, xk, xa, xf⟩ := x
              simp only at i1' HNX
              have HM := Lib.hid hM
              have HK := Lib.hid hK
              have hk1 : (0 : Int) ≤ (k : Int) := by omega
              have hk2 : (k : Int) < (n : Int) := by omega
              have hFIN : Hid (∀ v, v = (tk || (mk && decide (xk = 3))) → Marks w w.heap.size n n (orUp xs T M (k + 1)) (wr.setCell ⟨w.heap.size, k, none⟩ (.bool v)) ∧ Keep (fun b => b ≠ w.heap.size) w5 (wr.setCell ⟨w.heap.size, k, none⟩ (.bool v))) := fun v hv => by
                have := HM.out.put (Nat.le_refl _) k v
                rw [HNX.out v hv] at this
                exact ⟨this, HK.out.setCell (fun h => h rfl) _⟩
              have hxi3 : (((xk == 3) = true) ∧ decide (xk = 3) = true) ∨ (((xk == 3) = false) ∧ decide (xk = 3) = false) := by
                by_cases h : xk = 3
                · exact .inl ⟨by simp [h], by simp [h]⟩
                · exact .inr ⟨by simp [h], by simp [h]⟩
              clear hM hK hmk hcell7 hx hhit htk HNX q0 q1 q2 q3
              cases tk with
              | true =>
                go_wp2_with fail
                go_roundw
                case rel => exact ⟨k + 1, by omega, by go_num, hFIN.out _ rfl⟩
                case measure => simp [intOf]; omega
              | false =>
                cases mk with
                | false =>
                  go_wp2_with fail
                  go_roundw
                  case rel => exact ⟨k + 1, by omega, by go_num, hFIN.out _ rfl⟩
                  case measure => simp [intOf]; omega
                | true =>
                  rcases hxi3 with ⟨h1, h2⟩ | ⟨h1, h2⟩
                  all_goals
                    go_wp2_with fail
                    go_roundw
                    case rel => exact ⟨k + 1, by omega, by go_num, hFIN.out _ (by rw [h2]; rfl)⟩
                    case measure => simp [intOf]; omega
            · have hkn : k = n := by omega
              have hM6 : Hid (Marks w w.heap.size n n (recMs xs (l.take (j + 1))) wr) := by
                have := hM
                rw [show k = T.length by rw [HTL.out, ← HN.out, hkn], orUp_all] at this
                rw [HSN.out]
                exact this
              have HER := Lib.hid (HEE.out.trans (if_pos h0))
              clear hM hK hkn
              go_wp2_with fail
              go_roundw
              case rel => exact ⟨j + 1, by omega, by go_num, hM6.out, HER.out⟩
              case measure => simp [intOf]; omega
        · have HER := Lib.hid (HEE.out.trans (if_neg h0))
          go_wp2_with fail
          go_ret2
          refine ⟨_, by rw [HER.out]; rfl, ?_, HM2.out.bel⟩
          rw [HER.out, if_neg h0]
          exact Rd.none_ _ _ _
      · have hjn : l.drop j = [] := List.drop_of_length_le (by have := HNL.out; omega)
        have hjt : l.take j = l := List.take_of_length_le (by have := HNL.out; omega)
        rw [hjn] at hE
        rw [hjt] at hM
        have HEF := Lib.hid hE
        have HM := Lib.hid hM
        have hr : Rd .bool wr (w.heap.size ≤ ·) (.slice (some ⟨w.heap.size, 0, none⟩) n n) (recMs xs l) := Rd.of_own hM.own
        have HNM := Lib.hid (HO.out wr _ (recMs xs l) _ HM.out.bel hr (recMs_len xs l))
        clear hM hE hjn hjt hr
        go_wp2_with fail
        refine HNM.out.mono ?_
        rintro e w3 ⟨⟨v3, rfl, hr3⟩, hb3⟩
        rw [onlyM_all] at hr3
        go_wp2_with fail
        go_ret2
        have h0 : recallErr xs l = 0 := HEF.out
        refine ⟨_, by rw [h0]; rfl, ?_, HM.out.bel.trans (hb3.mono HM.out.bel.size)⟩
        rw [h0, if_pos rfl]
        exact hr3.mono fun b hb => Nat.le_trans HM.out.bel.size hb
end Go.Proofs.Ytlanephpmoajiaa
