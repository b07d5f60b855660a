/- The walk of Book.Recall. -/
import Derived.Test.YtlanephpmoajiaaCerts
import Derived.Test.YtlanephpmoajiaaFaults
namespace Go.Proofs.Ytlanephpmoajiaa
open Go.RowKit
set_option linter.unusedVariables false
set_option linter.unusedSimpArgs false
/-- Is item i a tyre that is marked? -/
def hitT (xs : List ItemD) (M : List Bool) (i : Nat) : Bool := M.getD i false && decide ((xs[i]?.map (·.kind)).getD 0 = 3)
/-- The marks while the first k have been looked at. -/
def orUp (xs : List ItemD) (T M : List Bool) (k : Nat) : List Bool := T.mapIdx (fun i b => if i < k then b || hitT xs M i else b)
def orT (xs : List ItemD) (T M : List Bool) : List Bool := T.mapIdx (fun i b => b || hitT xs M i)
theorem orUp_len (xs : List ItemD) (T M : List Bool) (k : Nat) : (orUp xs T M k).length = T.length := by simp [orUp]
theorem orT_len (xs : List ItemD) (T M : List Bool) : (orT xs T M).length = T.length := by simp [orT]
theorem orUp_get (xs : List ItemD) (T M : List Bool) (k t : Nat) : (orUp xs T M k)[t]? = T[t]?.map (fun b => if t < k then b || hitT xs M t else b) := by unfold orUp; rw [List.getElem?_mapIdx]
theorem orUp_zero (xs : List ItemD) (T M : List Bool) : orUp xs T M 0 = T := by
  refine List.ext_getElem? fun t => ?_
  rw [orUp_get]
  cases T[t]? <;> simp
theorem orUp_all (xs : List ItemD) (T M : List Bool) : orUp xs T M T.length = orT xs T M := by
  refine List.ext_getElem? fun t => ?_
  rw [orUp_get]
  unfold orT
  rw [List.getElem?_mapIdx]
  by_cases h : t < T.length
  · simp only [if_pos h]
  · rw [List.getElem?_eq_none (by omega)]; rfl
theorem orUp_at {xs : List ItemD} {T M : List Bool} {k : Nat} : (orUp xs T M k).getD k false = T.getD k false := by
  rw [List.getD_eq_getElem?_getD, orUp_get, List.getD_eq_getElem?_getD]
  cases T[k]? <;> simp
theorem orUp_succ {xs : List ItemD} {T M : List Bool} {k : Nat} {v : Bool} (hv : v = (T.getD k false || hitT xs M k)) : (orUp xs T M k).set k v = orUp xs T M (k + 1) := by
  refine List.ext_getElem? fun t => ?_
  rw [List.getElem?_set, orUp_get, orUp_get, orUp_len]
  by_cases h : k = t
  · subst h
    rw [if_pos rfl]
    by_cases hk : k < T.length
    · rw [if_pos hk, List.getElem?_eq_getElem hk]
      rw [hv, List.getD_eq_getElem?_getD, List.getElem?_eq_getElem hk]
      simp
    · rw [if_neg hk, List.getElem?_eq_none (by omega)]; rfl
  · rw [if_neg h]
    cases T[t]? with
    | none => rfl
    | some b =>
      simp only [Option.map_some]
      by_cases h2 : t < k
      · rw [if_pos h2, if_pos (by omega)]
      · rw [if_neg h2, if_neg (by omega)]
def recGo (xs : List ItemD) (T : List Bool) (l : List FaultD) : List Bool := l.foldl (fun T f => orT xs T (touchedMs xs f)) T
def recMs (xs : List ItemD) (l : List FaultD) : List Bool := recGo xs (List.replicate xs.length false) l
theorem recGo_len (xs : List ItemD) (l : List FaultD) (T : List Bool) : (recGo xs T l).length = T.length := by
  induction l generalizing T with
  | nil => rfl
  | cons f l ih => show (recGo xs (orT xs T (touchedMs xs f)) l).length = _; rw [ih, orT_len]
theorem recMs_len (xs : List ItemD) (l : List FaultD) : (recMs xs l).length = xs.length := by unfold recMs; rw [recGo_len]; simp
theorem recMs_snoc {xs : List ItemD} {l : List FaultD} {j : Nat} {f : FaultD} (h : l[j]? = some f) : recMs xs (l.take (j + 1)) = orT xs (recMs xs (l.take j)) (touchedMs xs f) := by
  unfold recMs recGo
  rw [take_snoc? h, List.foldl_append]
  rfl
def recErr (xs : List ItemD) : List FaultD → Int
  | [] => 0
  | f :: l => if faultErr xs f = 0 then recErr xs l else faultErr xs f
def recallErr (xs : List ItemD) (l : List FaultD) : Int := if 8 < l.length then 4 else recErr xs l
theorem recErr_drop {xs : List ItemD} {l : List FaultD} {j : Nat} {f : FaultD} (h : l[j]? = some f) : recErr xs (l.drop j) = if faultErr xs f = 0 then recErr xs (l.drop (j + 1)) else faultErr xs f := by
  obtain ⟨hj, rfl⟩ := List.getElem?_eq_some_iff.1 h
  rw [List.drop_eq_getElem_cons hj]
  rfl
/-- What Recall leaves. -/
def RecallPost (w : World) (xs : List ItemD) (l : List FaultD) (e : Ending) (w' : World) : Prop :=
  ∃ v, e = .returned (.tuple #[v, .int .i64 (recallErr xs l)]) ∧ Rd .string w' (w.heap.size ≤ ·) v (if recallErr xs l = 0 then namesOf xs (recMs xs l) else []) ∧ Below w.heap.size w w'
theorem int_cases (e : Int) : ((e != 0) = false ∧ e = 0) ∨ ((e != 0) = true ∧ e ≠ 0) := by
  by_cases h : e = 0
  · exact .inl ⟨by simp [h], h⟩
  · exact .inr ⟨by simp [h], h⟩
theorem Marks.kept {w0 wr w2 : World} {g n cap : Nat} {m : List Bool} (h : Marks w0 g n cap m wr) (hb : Below wr.heap.size wr w2) : Marks w0 g n cap m w2 := h.later hb
set_option maxRecDepth 100000 in
set_option maxHeartbeats 2000000 in
theorem Recall_any (p : Value) (B : Nat) (F : Nat → Prop) (xs : List ItemD) (vl : Value) (l : List FaultD) (S : Nat → Prop) (w : World) (hb : Bk w B p F xs) (hfd : Found xs) (hxl : xs.length ≤ 1024) (hl : RdK 3 ftC w S vl l) (hsz : ∀ f ∈ l, f.item.size ≤ maxLen) :
    Calls Try.prog 46 #[p, vl] w (RecallPost w xs l) := by
  obtain ⟨i0, hi0, hz0, hz1, hz2⟩ := info_parts info4
  obtain ⟨Al, nl, cl, rfl, hnl, hcl, hml, hcel⟩ := (hl.lt ftC_0).open_
  have HB := Lib.hid hb
  have HT := Lib.hid (fun w' (h : Below w.heap.size w w') f (hf : f ∈ l) => touched_any p B F xs f w' (HB.out.below h) hfd hxl (hsz f hf))
  have HNA := Lib.hid (fun w' v ms (h : Below w.heap.size w w') (hr : Rd .bool w' (w.heap.size ≤ ·) v ms) (hl : ms.length = xs.length) => names_any p B F xs v ms _ w' (HB.out.below h) hr hl hxl)
  obtain ⟨bb, vi, r, fs, rfl, hbk⟩ := hb
  have HBK := Lib.hid hbk
  have HC := Lib.hid hcel
  by_cases h8 : 8 < nl
  · have HE : Hid (recallErr xs l = 4) := by unfold recallErr; exact if_pos (by omega)
    clear hbk hl hnl hcel hfd hxl hsz HC HBK HT HNA HB
    go_enter Try.func46, Try.ntmps46
    go_wp2_with fail
    go_ret2
    refine ⟨_, by rw [HE.out]; rfl, ?_, Below.refl _ _⟩
    rw [HE.out, if_neg (by decide)]
    exact Rd.none_ _ _ _
  · have HE : Hid (recallErr xs l = recErr xs (l.drop 0)) := by unfold recallErr; exact if_neg (by omega)
    have HNL := Lib.hid hnl
    obtain ⟨A, cp, rfl⟩ := ownsRow_slice hbk.own
    have e0 := hbk.cell0
    obtain ⟨n, hn⟩ : ∃ n, n = xs.length := ⟨_, rfl⟩
    rw [← hn] at e0
    have hn1024 : n ≤ 1024 := by omega
    have HN := Lib.hid hn
    clear hbk hl hnl hcel hfd hxl hsz hn
    go_enter Try.func46, Try.ntmps46
    go_wp2_with (at_make; refine wpList_make_full _ rfl _ _ 122 rfl w.heap.size 4 i0 (.bool false) 1 Try.underlying122 hi0 hz0 hz1 .i64 .i64 (n : Int) (n : Int) n rfl rfl rfl rfl (by rw [hz2]; omega) (by unfold maxLen; omega) (by simp) ?_; intro w1 hown hgrow; have hb1 : Below w.heap.size w w1 := (Below.refl _ w).grown hgrow (Nat.le_refl _) (fun k hk => by simp at hk); have HM1 := Lib.hid (Marks.new hown hb1); clear hown hgrow hb1)
    have HM2 : Hid (Marks w w.heap.size n n (recMs xs (l.take 0)) w1) := by
      have := HM1.out
      rw [HN.out] at this ⊢
      exact this
    go_loopw [28] (fun iv wr => ∃ j : Nat, j ≤ nl ∧ iv = .int .i64 j ∧ Marks w w.heap.size n n (recMs xs (l.take j)) wr ∧ recallErr xs l = recErr xs (l.drop j)) (fun iv _ => nl - (intOf iv).toNat)
    case atStart => exact ⟨0, Nat.zero_le _, rfl, HM2.out, HE.out⟩
    case round =>
      clear HM2 HM1 HE e0
      obtain ⟨j, hj, rfl, hM, hE⟩ := hrel
      by_cases hlt : j < nl
      · obtain ⟨b, off, x, rfl, ⟨_, hbw⟩, hx, hcell⟩ := HC.out j hlt
        have d0 : wr.cell? ⟨b, off + j * 3, none⟩ = some (.string x.item) := (hM.bel.cell (p := ⟨b, _, none⟩) hbw).trans (hcell 0 _ rfl)
        have d1 : wr.cell? ⟨b, off + j * 3 + 1, none⟩ = some (.int .i64 x.since) := (hM.bel.cell (p := ⟨b, _, none⟩) hbw).trans (hcell 1 _ rfl)
        have d2 : wr.cell? ⟨b, off + j * 3 + 2, none⟩ = some (.int .i64 x.until_) := (hM.bel.cell (p := ⟨b, _, none⟩) hbw).trans (hcell 2 _ rfl)
        rw [recErr_drop hx] at hE
        have HSN := Lib.hid (recMs_snoc (xs := xs) hx)
        have hTl := recMs_len xs (l.take j)
        obtain ⟨T, hT⟩ : ∃ T, T = recMs xs (l.take j) := ⟨_, rfl⟩
        rw [← hT] at hM HSN hTl
        have hbel2 := hM.bel.alloc hM.bel.size (.cells #[.string x.item, .int .i64 x.since, .int .i64 x.until_] 55)
        have hM1 := hM.later (w2 := wr.alloc (.cells #[.string x.item, .int .i64 x.since, .int .i64 x.until_] 55)) ((Below.refl _ wr).alloc (Nat.le_refl _) _)
        have HTO := Lib.hid (HT.out _ hbel2 x (mem_of_get? hx))
        have HEE := Lib.hid hE
        have HTL := Lib.hid hTl
        obtain ⟨xi, xs', xu⟩ := x
        obtain ⟨fl, hfl⟩ : ∃ fl : FaultD, fl = ⟨xi, xs', xu⟩ := ⟨_, rfl⟩
        simp only at d0 d1 d2 HTO hM1 hbel2
        obtain ⟨wa, hwa⟩ : ∃ wa, wa = wr.alloc (.cells #[.string xi, .int .i64 xs', .int .i64 xu] 55) := ⟨_, rfl⟩
        rw [← hwa] at HTO hM1 hbel2
        have hmA := heap_alloc_new wr (.cells #[.string xi, .int .i64 xs', .int .i64 xu] 55)
        rw [← hwa] at hmA
        have a0 := cell_of_row wa _ 0 _ _ _ hmA
        have a1 := cell_of_row wa _ 1 _ _ _ hmA
        have a2 := cell_of_row wa _ 2 _ _ _ hmA
        have HWA := Lib.hid hwa
        rw [← hfl] at HTO HEE HSN
        have HM1' := Lib.hid hM1
        have HSZ : Hid (w.heap.size ≤ wr.heap.size) := hM.bel.size
        clear hx hcell hM hE hT hTl hbel2 hM1 hwa hmA hfl
        go_wp2_with fail
        rw [← HWA.out]
        refine HTO.out.mono ?_
        rintro e w5 ⟨⟨v5, rfl, hor⟩, hb5⟩
        obtain ⟨fe, hfe⟩ : ∃ fe, fe = faultErr xs fl := ⟨_, rfl⟩
        obtain ⟨M, hM⟩ : ∃ M, M = touchedMs xs fl := ⟨_, rfl⟩
        rw [← hfe] at HEE hor
        rw [← hM] at HSN hor
        rw [← hfe]
        have HM5 := Lib.hid (HM1'.out.later hb5)
        clear hfe hM HTO HM1' d0 d1 d2 a0 a1 a2
        rcases int_cases fe with ⟨hz, h0⟩ | ⟨hz, h0⟩
        · rcases hor with ⟨_, ho5⟩ | ⟨h1, _⟩
          · rw [← HN.out] at ho5
            obtain ⟨A5, c5, rfl⟩ := ownsRow_slice ho5
            have hr5 : Rd .bool w5 (fun k => wa.heap.size ≤ k ∧ k < w5.heap.size) _ M := (Rd.of_own (f := Value.bool) ho5).lt
            obtain ⟨A6, n6, cap6, hA6, hn6, hcap6, hmax6, hc6⟩ := hr5.open_
            simp only [Value.slice.injEq] at hA6
            obtain ⟨rfl, rfl, rfl⟩ := hA6
            have HC6 := Lib.hid hc6
            have HBL : Hid (∀ wq, Below w.heap.size w wq → wq.cell? ⟨bb, 0, none⟩ = some (.slice A n cp)) := fun wq h => by rw [HN.out]; exact (HBK.out.below h).cell0
            have hwaS : w.heap.size < wa.heap.size := by rw [HWA.out]; simp; have := HSZ.out; omega
            clear ho5 hr5 hn6 hc6 hb5
            go_wp2_with fail
            go_loopw [43] (fun iv wq => ∃ k : Nat, k ≤ n ∧ iv = .int .i64 k ∧ Marks w w.heap.size n n (orUp xs T M k) wq ∧ Keep (fun b => b ≠ w.heap.size) w5 wq) (fun iv _ => n - (intOf iv).toNat)
            case atStart => exact ⟨0, Nat.zero_le _, rfl, by rw [orUp_zero]; exact HM5.out, Keep.refl _ _⟩
            case round =>
              obtain ⟨k, hk, rfl, hM, hK⟩ := hrel
              by_cases hlt2 : k < n
              · obtain ⟨c0, f0⟩ := hM.at_ hlt2
                rw [orUp_at] at c0
                obtain ⟨b7, off7, mk, hA7, ⟨hb7a, hb7b⟩, hmk, hcell7⟩ := HC6.out k hlt2
                subst hA7
                have d7 : wr.cell? ⟨b7, off7 + k, none⟩ = some (.bool mk) := (hK.cell (p := ⟨b7, _, none⟩) (by show b7 ≠ _; omega)).trans hcell7
                have e0 := HBL.out wr hM.bel
                obtain ⟨x, hx⟩ : ∃ x, xs[k]? = some x := ⟨xs[k]'(by have := HN.out; omega), List.getElem?_eq_getElem _⟩
                obtain ⟨g', cap', f, he, hcap', hg1, hg2, i0', i1', i2', i3', -⟩ := (HBK.out.below hM.bel).item hx
                simp only [Value.slice.injEq] at he
                obtain ⟨rfl, -, rfl⟩ := he
                have hhit : hitT xs M k = (mk && decide (x.kind = 3)) := by unfold hitT; rw [List.getD_eq_getElem?_getD, hmk, hx]; rfl
                have HNX := Lib.hid (fun v (hv : v = (T.getD k false || (mk && decide (x.kind = 3)))) => orUp_succ (xs := xs) (T := T) (M := M) (k := k) (v := v) (by rw [hhit]; exact hv))
                obtain ⟨tk, htk⟩ : ∃ tk, tk = T.getD k false := ⟨_, rfl⟩
                rw [← htk] at c0 HNX
                obtain ⟨xn, xk, xa, xf⟩ := x
                simp only at i1' HNX
                have HM := Lib.hid hM
                have HK := Lib.hid hK
                have hk1 : (0 : Int) ≤ (k : Int) := by omega
                have hk2 : (k : Int) < (n : Int) := by omega
                have hFIN : Hid (∀ v, v = (tk || (mk && decide (xk = 3))) → Marks w w.heap.size n n (orUp xs T M (k + 1)) (wr.setCell ⟨w.heap.size, k, none⟩ (.bool v)) ∧ Keep (fun b => b ≠ w.heap.size) w5 (wr.setCell ⟨w.heap.size, k, none⟩ (.bool v))) := fun v hv => by
                  have := HM.out.put (Nat.le_refl _) k v
                  rw [HNX.out v hv] at this
                  exact ⟨this, HK.out.setCell (fun h => h rfl) _⟩
                have hxi3 : (((xk == 3) = true) ∧ decide (xk = 3) = true) ∨ (((xk == 3) = false) ∧ decide (xk = 3) = false) := by
                  by_cases h : xk = 3
                  · exact .inl ⟨by simp [h], by simp [h]⟩
                  · exact .inr ⟨by simp [h], by simp [h]⟩
                clear hM hK hmk hcell7 hx hhit htk HNX i0' i2' i3' hcap'
                cases tk with
                | true =>
                  go_wp2_with fail
                  go_roundw
                  case rel => exact ⟨k + 1, by omega, by go_num, hFIN.out _ rfl⟩
                  case measure => simp [intOf]; omega
                | false =>
                  cases mk with
                  | false =>
                    go_wp2_with fail
                    go_roundw
                    case rel => exact ⟨k + 1, by omega, by go_num, hFIN.out _ rfl⟩
                    case measure => simp [intOf]; omega
                  | true =>
                    rcases hxi3 with ⟨h1, h2⟩ | ⟨h1, h2⟩
                    all_goals
                      go_wp2_with fail
                      go_roundw
                      case rel => exact ⟨k + 1, by omega, by go_num, hFIN.out _ (by rw [h2]; rfl)⟩
                      case measure => simp [intOf]; omega
              · have hkn : k = n := by omega
                have hM6 : Hid (Marks w w.heap.size n n (recMs xs (l.take (j + 1))) wr) := by
                  have := hM
                  rw [show k = T.length by rw [HTL.out, ← HN.out, hkn], orUp_all] at this
                  rw [HSN.out]
                  exact this
                have HER := Lib.hid (HEE.out.trans (if_pos h0))
                clear hM hK hkn
                go_wp2_with fail
                go_roundw
                case rel => exact ⟨j + 1, by omega, by go_num, hM6.out, HER.out⟩
                case measure => simp [intOf]; omega
          · exact absurd h0 h1
        · rcases hor with ⟨h1, _⟩ | ⟨_, rfl⟩
          · exact absurd h1 h0
          · have HER := Lib.hid (HEE.out.trans (if_neg h0))
            go_wp2_with fail
            go_ret2
            refine ⟨_, by rw [HER.out]; rfl, ?_, HM5.out.bel⟩
            rw [HER.out, if_neg h0]
            exact Rd.none_ _ _ _
      · have hjn : l.drop j = [] := List.drop_of_length_le (by have := HNL.out; omega)
        have hjt : l.take j = l := List.take_of_length_le (by have := HNL.out; omega)
        rw [hjn] at hE
        rw [hjt] at hM
        have HE := Lib.hid hE
        have HM := Lib.hid hM
        have hr : Rd .bool wr (w.heap.size ≤ ·) (.slice (some ⟨w.heap.size, 0, none⟩) n n) (recMs xs l) := Rd.of_own hM.own
        have HNM := Lib.hid (HNA.out wr _ (recMs xs l) HM.out.bel hr (recMs_len xs l))
        clear hM hE hjn hjt hr
        go_wp2_with fail
        refine HNM.out.mono ?_
        rintro e w3 ⟨⟨v3, rfl, hr3⟩, hb3⟩
        go_wp2_with fail
        go_ret2
        have h0 : recallErr xs l = 0 := HE.out
        refine ⟨_, by rw [h0]; rfl, ?_, HM.out.bel.trans (hb3.mono HM.out.bel.size)⟩
        rw [h0, if_pos rfl]
        exact hr3.mono fun b hb => Nat.le_trans HM.out.bel.size hb
end Go.Proofs.Ytlanephpmoajiaa
