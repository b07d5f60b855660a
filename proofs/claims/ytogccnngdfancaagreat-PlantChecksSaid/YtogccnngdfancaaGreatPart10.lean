/- The library's merge of two sorted runs of jobs in place. -/
import Derived.Test.YtogccnngdfancaaGreatPart09
namespace Go.Proofs.YtogccnngdfancaaGreat
open Go.RowKit
set_option linter.unusedVariables false
set_option linter.unusedSimpArgs false
set_option maxRecDepth 100000 in
set_option maxHeartbeats 4000000 in
theorem sym_one (B g n cap : Nat) (A Y C : List JobD) (x : JobD) (a m b : Nat) (W0 w : World) (h : JRow B g n cap W0 w (A ++ [x] ++ Y ++ C)) (ha : a = A.length) (hm : m = a + 1) (hb : b = m + Y.length) (hy : SortedJ Y) (hn : n ≤ 64) :
    Calls Tryz.prog 110 #[.slice (some ⟨g, 0, none⟩) n cap, .int .i64 (a : Int), .int .i64 (m : Int), .int .i64 (b : Int), .func (.func 51) #[] #[]] w fun e w' => (∃ v, e = .returned v) ∧ ∃ Z, JRow B g n cap W0 w' (A ++ Z ++ C) ∧ Z.Perm ([x] ++ Y) ∧ SortedJ Z := by
  have hlen := h.len
  have hbn : b ≤ n := by simp at hlen; omega
  have han : a < n := by simp at hlen; omega
  have H0 : Hid (JRow B g n cap W0 w (A ++ [x] ++ Y ++ C)) := h
  have HX : Hid ((A ++ [x] ++ Y ++ C)[a]? = some x) := by show _ = _; rw [show A ++ [x] ++ Y ++ C = A ++ x :: (Y ++ C) by simp]; exact get_mid ha
  have HG : Hid (∀ t, t < Y.length → ∃ y, Y[t]? = some y ∧ (A ++ [x] ++ Y ++ C)[m + t]? = some y) := fun t ht => ⟨Y[t], List.getElem?_eq_getElem ht, by
    rw [List.append_assoc, List.getElem?_append_right (by simp; omega), List.getElem?_append_left (by simp; omega), show m + t - (A ++ [x]).length = t by simp; omega]; exact List.getElem?_eq_getElem ht⟩
  have HS := Lib.hid hy
  have HB0 := Lib.hid (Bin1.start x Y)
  have HYL : Hid (Y.length = b - m) := by show _ = _; omega
  have hmb : m ≤ b := by omega
  have HA := Lib.hid ha
  have HM := Lib.hid hm
  have hma : (m : Int) - (a : Int) = 1 := by omega
  have hna0 : (0 : Int) ≤ (a : Int) := by omega
  have hna1 : (a : Int) < (n : Int) := by omega
  have hCMP := fun y => sorted1_any y x
  have HCMP := Lib.hid hCMP
  have hkx := HX.out
  obtain ⟨xp, xk, xs⟩ := x
  clear h hlen ha hb hm hy hCMP hkx
  go_enter Tryz.func110, Tryz.ntmps110
  go_wp2_with fail
  go_loopw [10, 11, 12] (fun iv jv _ wr => ∃ (i j : Nat), iv = .int .i64 (i : Int) ∧ jv = .int .i64 (j : Int) ∧ m ≤ i ∧ i ≤ j ∧ j ≤ b ∧ Bin1 ⟨xp, xk, xs⟩ Y (i - m) (j - m) ∧ JRow B g n cap W0 wr (A ++ [⟨xp, xk, xs⟩] ++ Y ++ C)) (fun iv jv _ _ => (intOf jv).toNat - (intOf iv).toNat)
  case atStart => exact ⟨m, b, rfl, rfl, Nat.le_refl _, hmb, Nat.le_refl _, by have := HB0.out; rw [HYL.out] at this; rwa [Nat.sub_self], H0.out⟩
  case round =>
    clear H0 HB0
    obtain ⟨i, j, rfl, rfl, hi, hij, hj, hbin, hrow⟩ := hrel
    have HBIN := Lib.hid hbin
    have HROW := Lib.hid hrow
    clear hbin hrow
    by_cases hlt : i < j
    · have hlti : (i : Int) < (j : Int) := by omega
      obtain ⟨h, hh⟩ : ∃ h, h = (i + j) / 2 := ⟨_, rfl⟩
      have hh1 : i ≤ h := by omega
      have hh2 : h < j := by omega
      have hhi : ((i : Int) + (j : Int)) / 2 = (h : Int) := by omega
      obtain ⟨y, hy1, hy2⟩ := HG.out (h - m) (by have := HYL.out; omega)
      rw [show m + (h - m) = h by omega] at hy2
      have hhn : (h : Int) < (n : Int) := by omega
      have hh0 : (0 : Int) ≤ (h : Int) := by omega
      obtain ⟨l, hl⟩ : ∃ l, l = A ++ [⟨xp, xk, xs⟩] ++ Y ++ C := ⟨_, rfl⟩
      have HL := Lib.hid hl
      rw [← hl] at hy2
      have HX2 : Hid (l[a]? = some ⟨xp, xk, xs⟩) := by show _ = _; rw [hl]; exact HX.out
      have HRD : Hid (JRow B g n cap W0 wr.drew l) := by rw [hl]; exact HROW.out.drew
      rw [← hl]
      have HY2 := Lib.hid hy2
      have HUP : Hid (ltJ y ⟨xp, xk, xs⟩ = true → Bin1 ⟨xp, xk, xs⟩ Y (h + 1 - m) (j - m)) := fun hlt' => by
        have := HBIN.out.up HS.out (h := h - m) (by omega) (by omega) hy1 hlt'
        rwa [show h - m + 1 = h + 1 - m by omega] at this
      have HDN : Hid (ltJ y ⟨xp, xk, xs⟩ = false → Bin1 ⟨xp, xk, xs⟩ Y (i - m) (h - m)) := fun hlt' => HBIN.out.down HS.out (by omega) (by omega) hy1 hlt'
      have HCY := Lib.hid (HCMP.out y)
      have HCB := Lib.hid (fun b (h : ltJ y ⟨xp, xk, xs⟩ = b) => cmp_b y _ h)
      obtain ⟨c, hc⟩ : ∃ c, c = cmpJ y ⟨xp, xk, xs⟩ := ⟨_, rfl⟩
      rw [← hc] at HCY HCB
      obtain ⟨lt, hltq⟩ : ∃ q, q = ltJ y ⟨xp, xk, xs⟩ := ⟨_, rfl⟩
      rw [← hltq] at HUP HDN HCB
      obtain ⟨yp, yk, ys⟩ := y
      simp only [JobV] at HCY
      have HSC : Hid (∀ w', JRow B g n cap W0 w' l → (w'.cell? ⟨g, h * 3, none⟩ = some (.int .i64 yp) ∧ w'.cell? ⟨g, h * 3 + 1, none⟩ = some (.int .i64 yk) ∧ w'.cell? ⟨g, h * 3 + 2, none⟩ = some (.int .i64 ys)) ∧ (w'.cell? ⟨g, a * 3, none⟩ = some (.int .i64 xp) ∧ w'.cell? ⟨g, a * 3 + 1, none⟩ = some (.int .i64 xk) ∧ w'.cell? ⟨g, a * 3 + 2, none⟩ = some (.int .i64 xs))) := fun w' hj => ⟨hj.cell HY2.out, hj.cell HX2.out⟩
      clear hy1 hy2 hl hc hltq hh HROW
      cases lt with
      | true =>
        have hcb := HCB.out true rfl
        go_wp2_with fail
        refine seq_start (S := fun w' => (w'.cell? ⟨g, h * 3, none⟩ = some (.int .i64 yp) ∧ w'.cell? ⟨g, h * 3 + 1, none⟩ = some (.int .i64 yk) ∧ w'.cell? ⟨g, h * 3 + 2, none⟩ = some (.int .i64 ys)) ∧ (w'.cell? ⟨g, a * 3, none⟩ = some (.int .i64 xp) ∧ w'.cell? ⟨g, a * 3 + 1, none⟩ = some (.int .i64 xk) ∧ w'.cell? ⟨g, a * 3 + 2, none⟩ = some (.int .i64 xs))) (by kernel_rfl) (by kernel_rfl) (by exact HSC.out _ HRD.out) ?_
        repeat (first
          | (refine seq_take0 (v := ?_) ?_ (fun _ _ _ h => h) (by kernel_rfl) ?_ ?_; rotate_left; (focus rfl); (focus (intro w' hSw; (try dsimp only at hSw); go_simp; (try with_reducible rfl); done)); (try simp only [Act.put, List.setIfInBounds_toArray, List.set_cons_zero, List.set_cons_succ])))
        refine seq_op (by kernel_rfl) (by rfl) (fun K hK => ?_)
        go_simp
        refine (HCY.out _).mono ?_
        rintro e' w5 ⟨rfl, hb5⟩
        have HR5 := Lib.hid (HRD.out.below hb5)
        clear hb5
        refine hK.out _ _ (HSC.out _ HR5.out) ?_
        clear hK K
        repeat (first
          | (refine seq_take0 (v := ?_) ?_ (fun _ _ _ h => h) (by kernel_rfl) ?_ ?_; rotate_left; (focus rfl); (focus (intro w' hSw; (try dsimp only at hSw); go_simp; (try with_reducible rfl); done)); (try simp only [Act.put, List.setIfInBounds_toArray, List.set_cons_zero, List.set_cons_succ])))
        refine seq_done (by kernel_rfl) ?_
        go_wp2_with fail
        go_roundw
        case rel => exact ⟨h + 1, j, by go_num, rfl, by omega, hh2, hj, HUP.out trivial, by have := HR5.out; rwa [HL.out] at this⟩
        case measure => simp [intOf]; omega
      | false =>
        have hcb := HCB.out false rfl
        go_wp2_with fail
        refine seq_start (S := fun w' => (w'.cell? ⟨g, h * 3, none⟩ = some (.int .i64 yp) ∧ w'.cell? ⟨g, h * 3 + 1, none⟩ = some (.int .i64 yk) ∧ w'.cell? ⟨g, h * 3 + 2, none⟩ = some (.int .i64 ys)) ∧ (w'.cell? ⟨g, a * 3, none⟩ = some (.int .i64 xp) ∧ w'.cell? ⟨g, a * 3 + 1, none⟩ = some (.int .i64 xk) ∧ w'.cell? ⟨g, a * 3 + 2, none⟩ = some (.int .i64 xs))) (by kernel_rfl) (by kernel_rfl) (by exact HSC.out _ HRD.out) ?_
        repeat (first
          | (refine seq_take0 (v := ?_) ?_ (fun _ _ _ h => h) (by kernel_rfl) ?_ ?_; rotate_left; (focus rfl); (focus (intro w' hSw; (try dsimp only at hSw); go_simp; (try with_reducible rfl); done)); (try simp only [Act.put, List.setIfInBounds_toArray, List.set_cons_zero, List.set_cons_succ])))
        refine seq_op (by kernel_rfl) (by rfl) (fun K hK => ?_)
        go_simp
        refine (HCY.out _).mono ?_
        rintro e' w5 ⟨rfl, hb5⟩
        have HR5 := Lib.hid (HRD.out.below hb5)
        clear hb5
        refine hK.out _ _ (HSC.out _ HR5.out) ?_
        clear hK K
        repeat (first
          | (refine seq_take0 (v := ?_) ?_ (fun _ _ _ h => h) (by kernel_rfl) ?_ ?_; rotate_left; (focus rfl); (focus (intro w' hSw; (try dsimp only at hSw); go_simp; (try with_reducible rfl); done)); (try simp only [Act.put, List.setIfInBounds_toArray, List.set_cons_zero, List.set_cons_succ])))
        refine seq_done (by kernel_rfl) ?_
        go_wp2_with fail
        go_roundw
        case rel => exact ⟨i, h, rfl, rfl, by omega, hh1, by omega, HDN.out trivial, by have := HR5.out; rwa [HL.out] at this⟩
        case measure => simp [intOf]; omega
    · have hije : i = j := by omega
      have hlti : ¬ ((i : Int) < (j : Int)) := by omega
      have HDONE : Hid (SortedJ (Y.take (i - m) ++ ⟨xp, xk, xs⟩ :: Y.drop (i - m))) := by have := HBIN.out; rw [← hije] at this; exact this.done HS.out
      have HW0 : Hid (JRow B g n cap W0 wr (wandAt A Y C ⟨xp, xk, xs⟩ 0)) := by show JRow _ _ _ _ _ _ _; unfold wandAt; have := HROW.out; simpa using this
      have HGT : Hid (∀ k, k < Y.length → ∃ y, (wandAt A Y C ⟨xp, xk, xs⟩ k)[a + k]? = some ⟨xp, xk, xs⟩ ∧ (wandAt A Y C ⟨xp, xk, xs⟩ k)[a + k + 1]? = some y ∧ ((wandAt A Y C ⟨xp, xk, xs⟩ k).set (a + k) y).set (a + k + 1) ⟨xp, xk, xs⟩ = wandAt A Y C ⟨xp, xk, xs⟩ (k + 1)) := fun k hk => by rw [HA.out]; exact wandAt_up hk
      have hia : (i : Int) - 1 = ((i - 1 : Nat) : Int) := by have := HM.out; omega
      have HIA := Lib.hid hia
      clear HBIN HROW HCMP HX HG hije hia
      go_wp2_with fail
      go_loopw [13] (fun kv wr' => ∃ t : Nat, t ≤ i - m ∧ kv = .int .i64 ((a + t : Nat) : Int) ∧ JRow B g n cap W0 wr' (wandAt A Y C ⟨xp, xk, xs⟩ t)) (fun kv _ => i - (intOf kv).toNat)
      case atStart => exact ⟨0, Nat.zero_le _, by simp, HW0.out⟩
      case round =>
        clear HW0
        obtain ⟨t, ht, rfl, hrow⟩ := hrel
        have HROW := Lib.hid hrow
        clear hrow
        obtain ⟨k, hk⟩ : ∃ k, k = a + t := ⟨_, rfl⟩
        rw [← hk]
        by_cases hlt2 : t < i - m
        · have hkb : (k : Int) < (i : Int) - 1 := by have := HM.out; omega
          obtain ⟨y, hx1, hy1, hs1⟩ := HGT.out t (by have := HYL.out; omega)
          rw [← hk] at hx1 hy1 hs1
          have HX1 := Lib.hid hx1
          have HY1 := Lib.hid hy1
          have HS1 := Lib.hid hs1
          have HK := Lib.hid hk
          have hk0 : (0 : Int) ≤ (k : Int) := by omega
          have hkn : k < n := by have := HM.out; omega
          have hkn1 : k + 1 < n := by have := HM.out; omega
          obtain ⟨k1, hk1⟩ : ∃ k1, k1 = k + 1 := ⟨_, rfl⟩
          rw [← hk1] at HY1 HS1 hkn1
          have hwk : IntKind.i64.wrap ((k : Int) + 1) = (k1 : Int) := by rw [IntWalk.i64_in _ (by omega)]; omega
          have hkk : k ≠ k1 := by omega
          have hk10 : (0 : Int) ≤ (k1 : Int) := by omega
          have hkni : (k : Int) < (n : Int) := by omega
          have hk1ni : (k1 : Int) < (n : Int) := by omega
          have HK1 := Lib.hid hk1
          have hki64 : (k : Int) ≤ 64 := by omega
          obtain ⟨yp, yk, ys⟩ := y
          obtain ⟨c0, c1, c2⟩ := HROW.out.cell HX1.out
          obtain ⟨c3, c4, c5⟩ := HROW.out.cell HY1.out
          have hfr := HROW.out.frozen
          clear hx1 hy1 hs1 hk hk1 HGT
          simp only [] at c0 c1 c2 c3 c4 c5
          go_wp2_with fail
          go_region
          all_goals
            have hT := ((HROW.out.put hkn yp yk ys).put hkn1 xp xk xs).drew
            rw [HS1.out] at hT
            have HT := Lib.hid hT
            clear hT c0 c1 c2 c3 c4 c5 hfr
            go_wp2_with fail
            go_roundw
            case rel => exact ⟨t + 1, by omega, by have := HK.out; have := HK1.out; first | rfl | (congr 1; omega) | (simp; omega), HT.out⟩
            case measure => have := HK.out; have := HK1.out; simp [intOf]; omega
        · have hkb : ¬ ((k : Int) < (i : Int) - 1) := by have := HM.out; omega
          have hti : t = i - m := by omega
          have HTI := Lib.hid hti
          clear hti
          go_wp2_with fail
          refine bodyPost_ret (v := .tuple #[]) (by simp [results, Tryz.results110, go_sem]) rfl ?_
          exact ⟨⟨_, rfl⟩, Y.take (i - m) ++ ⟨xp, xk, xs⟩ :: Y.drop (i - m), by have := HROW.out; rw [HTI.out] at this; unfold wandAt at this; simpa using this, by simpa using wand_perm Y ⟨xp, xk, xs⟩ (i - m), HDONE.out⟩
set_option maxRecDepth 100000 in
set_option maxHeartbeats 4000000 in
theorem sym_two (B g n cap : Nat) (A X C : List JobD) (x : JobD) (a m b : Nat) (W0 w : World) (h : JRow B g n cap W0 w (A ++ X ++ [x] ++ C)) (ha : a = A.length) (hm : m = a + X.length) (hb : b = m + 1) (hx : SortedJ X) (hx1 : X.length ≠ 1) (hn : n ≤ 64) :
    Calls Tryz.prog 110 #[.slice (some ⟨g, 0, none⟩) n cap, .int .i64 (a : Int), .int .i64 (m : Int), .int .i64 (b : Int), .func (.func 51) #[] #[]] w fun e w' => (∃ v, e = .returned v) ∧ ∃ Z, JRow B g n cap W0 w' (A ++ Z ++ C) ∧ Z.Perm (X ++ [x]) ∧ SortedJ Z := by
  have hlen := h.len
  have hmn : m < n := by simp at hlen; omega
  have H0 : Hid (JRow B g n cap W0 w (A ++ X ++ [x] ++ C)) := h
  have HX : Hid ((A ++ X ++ [x] ++ C)[m]? = some x) := by show _ = _; rw [show A ++ X ++ [x] ++ C = (A ++ X) ++ x :: C by simp]; exact get_mid (by simp; omega)
  have HG : Hid (∀ t, t < X.length → ∃ y, X[t]? = some y ∧ (A ++ X ++ [x] ++ C)[a + t]? = some y) := fun t ht => ⟨X[t], List.getElem?_eq_getElem ht, by
    rw [List.append_assoc, List.append_assoc, List.getElem?_append_right (by omega), List.getElem?_append_left (by omega), show a + t - A.length = t by omega]; exact List.getElem?_eq_getElem ht⟩
  have HS := Lib.hid hx
  have HB0 := Lib.hid (Bin2.start x X)
  have HYL : Hid (X.length = m - a) := by show _ = _; omega
  have hmb : a ≤ m := by omega
  have HA := Lib.hid ha
  have hma : ¬ ((m : Int) - (a : Int) = 1) := by omega
  have hmab : (((m : Int) - (a : Int)) == 1) = false := by simp; omega
  have hbm : (b : Int) - (m : Int) = 1 := by omega
  have hna0 : (0 : Int) ≤ (m : Int) := by omega
  have hna1 : (m : Int) < (n : Int) := by omega
  have hCMP := fun y => sorted1_any x y
  have HCMP := Lib.hid hCMP
  obtain ⟨xp, xk, xs⟩ := x
  clear h hlen ha hb hm hx hCMP hma
  go_enter Tryz.func110, Tryz.ntmps110
  go_wp2_with fail
  go_loopw [14, 15, 16] (fun iv jv _ wr => ∃ (i j : Nat), iv = .int .i64 (i : Int) ∧ jv = .int .i64 (j : Int) ∧ a ≤ i ∧ i ≤ j ∧ j ≤ m ∧ Bin2 ⟨xp, xk, xs⟩ X (i - a) (j - a) ∧ JRow B g n cap W0 wr (A ++ X ++ [⟨xp, xk, xs⟩] ++ C)) (fun iv jv _ _ => (intOf jv).toNat - (intOf iv).toNat)
  case atStart => exact ⟨a, m, rfl, rfl, Nat.le_refl _, hmb, Nat.le_refl _, by have := HB0.out; rw [HYL.out] at this; rwa [Nat.sub_self], H0.out⟩
  case round =>
    clear H0 HB0
    obtain ⟨i, j, rfl, rfl, hi, hij, hj, hbin, hrow⟩ := hrel
    have HBIN := Lib.hid hbin
    have HROW := Lib.hid hrow
    clear hbin hrow
    by_cases hlt : i < j
    · have hlti : (i : Int) < (j : Int) := by omega
      obtain ⟨h, hh⟩ : ∃ h, h = (i + j) / 2 := ⟨_, rfl⟩
      have hh1 : i ≤ h := by omega
      have hh2 : h < j := by omega
      have hhi : ((i : Int) + (j : Int)) / 2 = (h : Int) := by omega
      obtain ⟨y, hy1, hy2⟩ := HG.out (h - a) (by have := HYL.out; omega)
      rw [show a + (h - a) = h by omega] at hy2
      have hhn : (h : Int) < (n : Int) := by omega
      have hh0 : (0 : Int) ≤ (h : Int) := by omega
      obtain ⟨l, hl⟩ : ∃ l, l = A ++ X ++ [⟨xp, xk, xs⟩] ++ C := ⟨_, rfl⟩
      have HL := Lib.hid hl
      rw [← hl] at hy2
      have HX2 : Hid (l[m]? = some ⟨xp, xk, xs⟩) := by show _ = _; rw [hl]; exact HX.out
      have HRD : Hid (JRow B g n cap W0 wr.drew l) := by rw [hl]; exact HROW.out.drew
      rw [← hl]
      have HY2 := Lib.hid hy2
      have HUP : Hid (ltJ ⟨xp, xk, xs⟩ y = false → Bin2 ⟨xp, xk, xs⟩ X (h + 1 - a) (j - a)) := fun hlt' => by
        have := HBIN.out.up HS.out (h := h - a) (by omega) (by omega) hy1 hlt'
        rwa [show h - a + 1 = h + 1 - a by omega] at this
      have HDN : Hid (ltJ ⟨xp, xk, xs⟩ y = true → Bin2 ⟨xp, xk, xs⟩ X (i - a) (h - a)) := fun hlt' => HBIN.out.down HS.out (by omega) (by omega) hy1 hlt'
      have HCY := Lib.hid (HCMP.out y)
      have HCB := Lib.hid (fun b (h : ltJ ⟨xp, xk, xs⟩ y = b) => cmp_b _ y h)
      obtain ⟨c, hc⟩ : ∃ c, c = cmpJ ⟨xp, xk, xs⟩ y := ⟨_, rfl⟩
      rw [← hc] at HCY HCB
      obtain ⟨lt, hltq⟩ : ∃ q, q = ltJ ⟨xp, xk, xs⟩ y := ⟨_, rfl⟩
      rw [← hltq] at HUP HDN HCB
      obtain ⟨yp, yk, ys⟩ := y
      simp only [JobV] at HCY
      have HSC : Hid (∀ w', JRow B g n cap W0 w' l → (w'.cell? ⟨g, m * 3, none⟩ = some (.int .i64 xp) ∧ w'.cell? ⟨g, m * 3 + 1, none⟩ = some (.int .i64 xk) ∧ w'.cell? ⟨g, m * 3 + 2, none⟩ = some (.int .i64 xs)) ∧ (w'.cell? ⟨g, h * 3, none⟩ = some (.int .i64 yp) ∧ w'.cell? ⟨g, h * 3 + 1, none⟩ = some (.int .i64 yk) ∧ w'.cell? ⟨g, h * 3 + 2, none⟩ = some (.int .i64 ys))) := fun w' hj => ⟨hj.cell HX2.out, hj.cell HY2.out⟩
      clear hy1 hy2 hl hc hltq hh HROW
      cases lt with
      | true =>
        have hcb := HCB.out true rfl
        go_wp2_with fail
        refine seq_start (S := fun w' => (w'.cell? ⟨g, m * 3, none⟩ = some (.int .i64 xp) ∧ w'.cell? ⟨g, m * 3 + 1, none⟩ = some (.int .i64 xk) ∧ w'.cell? ⟨g, m * 3 + 2, none⟩ = some (.int .i64 xs)) ∧ (w'.cell? ⟨g, h * 3, none⟩ = some (.int .i64 yp) ∧ w'.cell? ⟨g, h * 3 + 1, none⟩ = some (.int .i64 yk) ∧ w'.cell? ⟨g, h * 3 + 2, none⟩ = some (.int .i64 ys))) (by kernel_rfl) (by kernel_rfl) (by exact HSC.out _ HRD.out) ?_
        repeat (first
          | (refine seq_take0 (v := ?_) ?_ (fun _ _ _ h => h) (by kernel_rfl) ?_ ?_; rotate_left; (focus rfl); (focus (intro w' hSw; (try dsimp only at hSw); go_simp; (try with_reducible rfl); done)); (try simp only [Act.put, List.setIfInBounds_toArray, List.set_cons_zero, List.set_cons_succ])))
        refine seq_op (by kernel_rfl) (by rfl) (fun K hK => ?_)
        go_simp
        refine (HCY.out _).mono ?_
        rintro e' w5 ⟨rfl, hb5⟩
        have HR5 := Lib.hid (HRD.out.below hb5)
        clear hb5
        refine hK.out _ _ (HSC.out _ HR5.out) ?_
        clear hK K
        repeat (first
          | (refine seq_take0 (v := ?_) ?_ (fun _ _ _ h => h) (by kernel_rfl) ?_ ?_; rotate_left; (focus rfl); (focus (intro w' hSw; (try dsimp only at hSw); go_simp; (try with_reducible rfl); done)); (try simp only [Act.put, List.setIfInBounds_toArray, List.set_cons_zero, List.set_cons_succ])))
        refine seq_done (by kernel_rfl) ?_
        go_wp2_with fail
        go_roundw
        case rel => exact ⟨i, h, rfl, rfl, by omega, hh1, by omega, HDN.out trivial, by have := HR5.out; rwa [HL.out] at this⟩
        case measure => simp [intOf]; omega
      | false =>
        have hcb := HCB.out false rfl
        go_wp2_with fail
        refine seq_start (S := fun w' => (w'.cell? ⟨g, m * 3, none⟩ = some (.int .i64 xp) ∧ w'.cell? ⟨g, m * 3 + 1, none⟩ = some (.int .i64 xk) ∧ w'.cell? ⟨g, m * 3 + 2, none⟩ = some (.int .i64 xs)) ∧ (w'.cell? ⟨g, h * 3, none⟩ = some (.int .i64 yp) ∧ w'.cell? ⟨g, h * 3 + 1, none⟩ = some (.int .i64 yk) ∧ w'.cell? ⟨g, h * 3 + 2, none⟩ = some (.int .i64 ys))) (by kernel_rfl) (by kernel_rfl) (by exact HSC.out _ HRD.out) ?_
        repeat (first
          | (refine seq_take0 (v := ?_) ?_ (fun _ _ _ h => h) (by kernel_rfl) ?_ ?_; rotate_left; (focus rfl); (focus (intro w' hSw; (try dsimp only at hSw); go_simp; (try with_reducible rfl); done)); (try simp only [Act.put, List.setIfInBounds_toArray, List.set_cons_zero, List.set_cons_succ])))
        refine seq_op (by kernel_rfl) (by rfl) (fun K hK => ?_)
        go_simp
        refine (HCY.out _).mono ?_
        rintro e' w5 ⟨rfl, hb5⟩
        have HR5 := Lib.hid (HRD.out.below hb5)
        clear hb5
        refine hK.out _ _ (HSC.out _ HR5.out) ?_
        clear hK K
        repeat (first
          | (refine seq_take0 (v := ?_) ?_ (fun _ _ _ h => h) (by kernel_rfl) ?_ ?_; rotate_left; (focus rfl); (focus (intro w' hSw; (try dsimp only at hSw); go_simp; (try with_reducible rfl); done)); (try simp only [Act.put, List.setIfInBounds_toArray, List.set_cons_zero, List.set_cons_succ])))
        refine seq_done (by kernel_rfl) ?_
        go_wp2_with fail
        go_roundw
        case rel => exact ⟨h + 1, j, by go_num, rfl, by omega, hh2, hj, HUP.out trivial, by have := HR5.out; rwa [HL.out] at this⟩
        case measure => simp [intOf]; omega
    · have hije : i = j := by omega
      have hlti : ¬ ((i : Int) < (j : Int)) := by omega
      have HDONE : Hid (SortedJ (X.take (i - a) ++ ⟨xp, xk, xs⟩ :: X.drop (i - a))) := by have := HBIN.out; rw [← hije] at this; exact this.done HS.out
      have HW0 : Hid (JRow B g n cap W0 wr (wandAt A X C ⟨xp, xk, xs⟩ (m - a))) := by
        show JRow _ _ _ _ _ _ _
        unfold wandAt; have := HROW.out; rw [List.take_of_length_le (by have := HYL.out; omega), List.drop_of_length_le (by have := HYL.out; omega)]; simpa using this
      have HGT : Hid (∀ k, k < X.length → ∃ y, (wandAt A X C ⟨xp, xk, xs⟩ (k + 1))[a + k + 1]? = some ⟨xp, xk, xs⟩ ∧ (wandAt A X C ⟨xp, xk, xs⟩ (k + 1))[a + k]? = some y ∧ ((wandAt A X C ⟨xp, xk, xs⟩ (k + 1)).set (a + k + 1) y).set (a + k) ⟨xp, xk, xs⟩ = wandAt A X C ⟨xp, xk, xs⟩ k) := fun k hk => by rw [HA.out]; exact wandAt_down hk
      clear HBIN HROW HCMP HX HG hije
      go_wp2_with fail
      go_loopw [17] (fun kv wr' => ∃ t : Nat, i - a ≤ t ∧ t ≤ m - a ∧ kv = .int .i64 ((a + t : Nat) : Int) ∧ JRow B g n cap W0 wr' (wandAt A X C ⟨xp, xk, xs⟩ t)) (fun kv _ => (intOf kv).toNat)
      case atStart => exact ⟨m - a, by omega, Nat.le_refl _, by congr 1; omega, HW0.out⟩
      case round =>
        clear HW0
        obtain ⟨t, ht, ht2, rfl, hrow⟩ := hrel
        have HROW := Lib.hid hrow
        clear hrow
        obtain ⟨k, hk⟩ : ∃ k, k = a + t := ⟨_, rfl⟩
        rw [← hk]
        by_cases hlt2 : i - a < t
        · have hkb : (i : Int) < (k : Int) := by omega
          obtain ⟨y, hx1, hy1, hs1⟩ := HGT.out (t - 1) (by have := HYL.out; omega)
          rw [show t - 1 + 1 = t by omega, show a + (t - 1) + 1 = k by omega] at hx1 hs1
          rw [show t - 1 + 1 = t by omega] at hy1
          obtain ⟨k1, hk1⟩ : ∃ k1, k1 = a + (t - 1) := ⟨_, rfl⟩
          rw [← hk1] at hy1 hs1
          have HX1 := Lib.hid hx1
          have HY1 := Lib.hid hy1
          have HS1 := Lib.hid hs1
          have HK := Lib.hid hk
          have hk0 : (0 : Int) ≤ (k : Int) := by omega
          have hkn : k < n := by omega
          have hkn1 : k1 < n := by omega
          have hwk : IntKind.i64.wrap ((k : Int) - 1) = (k1 : Int) := by rw [IntWalk.i64_in _ (by omega)]; omega
          have hkk : k ≠ k1 := by omega
          have hk10 : (0 : Int) ≤ (k1 : Int) := by omega
          have hkni : (k : Int) < (n : Int) := by omega
          have hk1ni : (k1 : Int) < (n : Int) := by omega
          have HK1 := Lib.hid hk1
          have hki64 : (k : Int) ≤ 64 := by omega
          obtain ⟨yp, yk, ys⟩ := y
          obtain ⟨c0, c1, c2⟩ := HROW.out.cell HX1.out
          obtain ⟨c3, c4, c5⟩ := HROW.out.cell HY1.out
          have hfr := HROW.out.frozen
          clear hx1 hy1 hs1 hk hk1 HGT
          simp only [] at c0 c1 c2 c3 c4 c5
          go_wp2_with fail
          go_region
          all_goals
            have hT := ((HROW.out.put hkn yp yk ys).put hkn1 xp xk xs).drew
            rw [HS1.out] at hT
            have HT := Lib.hid hT
            clear hT c0 c1 c2 c3 c4 c5 hfr
            go_wp2_with fail
            go_roundw
            case rel => exact ⟨t - 1, by omega, by omega, by have := HK.out; have := HK1.out; first | rfl | (congr 1; omega) | (simp; omega), HT.out⟩
            case measure => have := HK.out; have := HK1.out; simp [intOf]; omega
        · have hkb : ¬ ((i : Int) < (k : Int)) := by omega
          have hti : t = i - a := by omega
          have HTI := Lib.hid hti
          clear hti
          go_wp2_with fail
          refine bodyPost_ret (v := .tuple #[]) (by simp [results, Tryz.results110, go_sem]) rfl ?_
          exact ⟨⟨_, rfl⟩, X.take (i - a) ++ ⟨xp, xk, xs⟩ :: X.drop (i - a), by have := HROW.out; rw [HTI.out] at this; unfold wandAt at this; simpa using this, (wand_perm X ⟨xp, xk, xs⟩ (i - a)).trans (List.perm_append_comm (l₁ := [_]) (l₂ := X)), HDONE.out⟩
theorem sorted_nil_r {X Y : List JobD} (hx : SortedJ X) (hy : SortedJ Y) (h : X = [] ∨ Y = []) : SortedJ (X ++ Y) := by
  rcases h with rfl | rfl
  · simpa using hy
  · simpa using hx
def SymC (B g n cap : Nat) (A X Y C : List JobD) (a m b : Nat) (W0 w : World) : Prop :=
  Calls Tryz.prog 110 #[.slice (some ⟨g, 0, none⟩) n cap, .int .i64 (a : Int), .int .i64 (m : Int), .int .i64 (b : Int), .func (.func 51) #[] #[]] w fun e w' => (∃ v, e = .returned v) ∧ ∃ Z, JRow B g n cap W0 w' (A ++ Z ++ C) ∧ Z.Perm (X ++ Y) ∧ SortedJ Z
set_option maxRecDepth 100000 in
set_option maxHeartbeats 8000000 in
theorem sym_gen (B g n cap : Nat) (A X Y C : List JobD) (a m b : Nat) (W0 w : World) (h : JRow B g n cap W0 w (A ++ X ++ Y ++ C)) (ha : a = A.length) (hm : m = a + X.length) (hb : b = m + Y.length) (hx : SortedJ X) (hy : SortedJ Y) (hx1 : 2 ≤ X.length) (hy1 : 2 ≤ Y.length) (hn : n ≤ 64)
    (ih : ∀ (A' X' Y' C' : List JobD) (a' m' b' : Nat) (w' : World), JRow B g n cap W0 w' (A' ++ X' ++ Y' ++ C') → a' = A'.length → m' = a' + X'.length → b' = m' + Y'.length → SortedJ X' → SortedJ Y' → 1 ≤ X'.length → 1 ≤ Y'.length → X'.length + Y'.length < X.length + Y.length → SymC B g n cap A' X' Y' C' a' m' b' W0 w') :
    SymC B g n cap A X Y C a m b W0 w := by
  unfold SymC
  have hlen := h.len
  have hbn : b ≤ n := by simp at hlen; omega
  obtain ⟨mid, hmid⟩ : ∃ mid, mid = (a + b) / 2 := ⟨_, rfl⟩
  have hmidi : ((a : Int) + (b : Int)) / 2 = (mid : Int) := by omega
  have hne1 : (((m : Int) - (a : Int)) == 1) = false := by simp; omega
  have hne2 : (((b : Int) - (m : Int)) == 1) = false := by simp; omega
  obtain ⟨p, hp⟩ : ∃ p, p = mid + m - 1 := ⟨_, rfl⟩
  have hpi : (mid : Int) + (m : Int) - 1 = (p : Int) := by omega
  obtain ⟨l, hl⟩ : ∃ l, l = A ++ X ++ Y ++ C := ⟨_, rfl⟩
  rw [← hl] at h hlen
  obtain ⟨lo, hlo⟩ : ∃ lo, lo = if mid < m then mid + m - b else a := ⟨_, rfl⟩
  obtain ⟨hi, hhi⟩ : ∃ hi, hi = if mid < m then mid else m := ⟨_, rfl⟩
  have hlo' : a ≤ lo ∧ lo ≤ hi ∧ hi ≤ m ∧ m + hi ≤ p + 1 ∧ p < b + lo := by rw [hlo, hhi]; split <;> omega
  obtain ⟨k1, k2, k3, k4, k5⟩ := hlo'
  have HCUT0 := Lib.hid (Cut.start l p lo hi k2)
  have HRUN : Hid (Runs l a m b) := by have := Runs.of (A := A) (C := C) hx hy; rw [← ha, ← hm, ← hb, ← hl] at this; exact this
  have HSPL : Hid (∀ s, Cut l p lo hi s s → a ≤ s ∧ s ≤ m ∧ s ≤ mid ∧ mid ≤ b ∧ m + mid ≤ b + s ∧ ∃ X1 X2 Y1 Y2, X = X1 ++ X2 ∧ Y = Y1 ++ Y2 ∧ X1.length = s - a ∧ Y1.length = mid - s ∧ X2.length = m - s ∧ Y2.length = b + s - mid - m ∧
      ∀ Z1 Z2 : List JobD, Z1.Perm (X1 ++ Y1) → Z2.Perm (X2 ++ Y2) → SortedJ Z1 → SortedJ Z2 → SortedJ (Z1 ++ Z2) ∧ (Z1 ++ Z2).Perm (X ++ Y)) := fun s hs =>
    Cut.split (C := C) hx hy ha hm hb (by intro e; subst e; simp at hx1) (by intro e; subst e; simp at hy1) hmid hlo hhi (by rw [← hl, ← hp]; exact hs)
  have H0 := Lib.hid h
  have HIH := Lib.hid ih
  have HL := Lib.hid hl
  have HA := Lib.hid ha
  have HM := Lib.hid hm
  have HBL := Lib.hid hb
  have HSX := Lib.hid hx
  have HSY := Lib.hid hy
  have HLEN : Hid (l.length = n) := hlen
  have HP := Lib.hid hp
  have hCMP := fun x y => sorted1_any x y
  have HCMP := Lib.hid hCMP
  have hlmb : m < b := by omega
  have hlam : a < m := by omega
  have HLO := Lib.hid hlo
  have HHI := Lib.hid hhi
  have HMID := Lib.hid hmid
  have hX2 := Lib.hid hx1
  have hY2 := Lib.hid hy1
  clear h ih hl ha hm hb hx hy hlen hp hCMP hlo hhi hmid hx1 hy1
  by_cases hmm : mid < m
  focus
    have hloi : (mid : Int) + (m : Int) - (b : Int) = (lo : Int) := by have := HLO.out; rw [if_pos hmm] at this; have := HMID.out; omega
    have HHE : Hid (hi = mid) := by have := HHI.out; rw [if_pos hmm] at this; exact this
    have hmmi : (mid : Int) < (m : Int) := by omega
    go_enter Tryz.func110, Tryz.ntmps110
    go_wp2_with fail
    clear hloi hmmi hmm
  rotate_left
  focus
    have HLE : Hid (lo = a) := by have := HLO.out; rw [if_neg hmm] at this; exact this
    have HHE : Hid (hi = m) := by have := HHI.out; rw [if_neg hmm] at this; exact this
    have hmmi : ¬ (mid : Int) < (m : Int) := by omega
    go_enter Tryz.func110, Tryz.ntmps110
    go_wp2_with fail
    clear hmmi hmm
  all_goals
    go_loopw [20, 21, 23] (fun sv rv _ wr => ∃ s r, sv = .int .i64 ((s : Nat) : Int) ∧ rv = .int .i64 ((r : Nat) : Int) ∧ Cut l p lo hi s r ∧ JRow B g n cap W0 wr l) (fun sv rv _ _ => (intOf rv).toNat - (intOf sv).toNat)
    case atStart => exact ⟨lo, hi, by first | rfl | rw [HLE.out], by first | rfl | rw [HHE.out], HCUT0.out, H0.out⟩
    case round =>
      clear HCUT0 H0
      obtain ⟨s, r, rfl, rfl, hcut, hrow⟩ := hrel
      have hsr := hcut.sr
      have hls := hcut.los
      have hrh := hcut.rhi
      have HCUT := Lib.hid hcut
      have HROW := Lib.hid hrow
      clear hcut hrow
      by_cases hlt : s < r
      · have hlti : (s : Int) < (r : Int) := by omega
        obtain ⟨c, hc⟩ : ∃ c, c = (s + r) / 2 := ⟨_, rfl⟩
        have hc1 : s ≤ c := by omega
        have hc2 : c < r := by omega
        have hci : ((s : Int) + (r : Int)) / 2 = (c : Int) := by omega
        obtain ⟨d, hd⟩ : ∃ d, d = p - c := ⟨_, rfl⟩
        have hp64 : p ≤ 1000 := by omega
        have hdi : IntKind.i64.wrap ((p : Int) - (c : Int)) = (d : Int) := by rw [IntWalk.i64_in _ (by omega)]; omega
        have hdn : (d : Int) < (n : Int) := by omega
        have hd0 : (0 : Int) ≤ (d : Int) := by omega
        have hcn : (c : Int) < (n : Int) := by omega
        have hc0 : (0 : Int) ≤ (c : Int) := by omega
        obtain ⟨x, hx⟩ : ∃ x, l[d]? = some x := ⟨_, List.getElem?_eq_getElem (by have := HLEN.out; omega)⟩
        obtain ⟨y, hy⟩ : ∃ y, l[c]? = some y := ⟨_, List.getElem?_eq_getElem (by have := HLEN.out; omega)⟩
        have HX := Lib.hid hx
        have HY := Lib.hid hy
        have HUP : Hid (ltJ x y = false → Cut l p lo hi (c + 1) r) := fun hlt' => HCUT.out.up HRUN.out k1 k3 k4 k5 (by have := HLEN.out; omega) hc1 hc2 (by rw [← hd]; exact hx) hy hlt'
        have HDN : Hid (ltJ x y = true → Cut l p lo hi s c) := fun hlt' => HCUT.out.down HRUN.out k1 k3 k4 k5 (by have := HLEN.out; omega) hc1 hc2 (by rw [← hd]; exact hx) hy hlt'
        have HCY := Lib.hid (HCMP.out x y)
        have HCB := Lib.hid (fun b (h : ltJ x y = b) => cmp_b x y h)
        obtain ⟨cc, hcc⟩ : ∃ c, c = cmpJ x y := ⟨_, rfl⟩
        rw [← hcc] at HCY HCB
        obtain ⟨lt, hltq⟩ : ∃ q, q = ltJ x y := ⟨_, rfl⟩
        rw [← hltq] at HUP HDN HCB
        have HRD : Hid (JRow B g n cap W0 wr.drew l) := HROW.out.drew
        obtain ⟨xp, xk, xs⟩ := x
        obtain ⟨yp, yk, ys⟩ := y
        simp only [JobV] at HCY
        have HSC : Hid (∀ w', JRow B g n cap W0 w' l → (w'.cell? ⟨g, d * 3, none⟩ = some (.int .i64 xp) ∧ w'.cell? ⟨g, d * 3 + 1, none⟩ = some (.int .i64 xk) ∧ w'.cell? ⟨g, d * 3 + 2, none⟩ = some (.int .i64 xs)) ∧ (w'.cell? ⟨g, c * 3, none⟩ = some (.int .i64 yp) ∧ w'.cell? ⟨g, c * 3 + 1, none⟩ = some (.int .i64 yk) ∧ w'.cell? ⟨g, c * 3 + 2, none⟩ = some (.int .i64 ys))) := fun w' hj => ⟨hj.cell HX.out, hj.cell HY.out⟩
        clear hx hy hcc hltq hc hd HCUT HROW
        cases lt with
        | true =>
          have hcb := HCB.out true rfl
          go_wp2_with fail
          refine seq_start (S := fun w' => (w'.cell? ⟨g, d * 3, none⟩ = some (.int .i64 xp) ∧ w'.cell? ⟨g, d * 3 + 1, none⟩ = some (.int .i64 xk) ∧ w'.cell? ⟨g, d * 3 + 2, none⟩ = some (.int .i64 xs)) ∧ (w'.cell? ⟨g, c * 3, none⟩ = some (.int .i64 yp) ∧ w'.cell? ⟨g, c * 3 + 1, none⟩ = some (.int .i64 yk) ∧ w'.cell? ⟨g, c * 3 + 2, none⟩ = some (.int .i64 ys))) (by kernel_rfl) (by kernel_rfl) (by exact HSC.out _ HRD.out) ?_
          repeat (first
            | (refine seq_take0 (v := ?_) ?_ (fun _ _ _ h => h) (by kernel_rfl) ?_ ?_; rotate_left; (focus rfl); (focus (intro w' hSw; (try dsimp only at hSw); go_simp; (try with_reducible rfl); done)); (try simp only [Act.put, List.setIfInBounds_toArray, List.set_cons_zero, List.set_cons_succ])))
          refine seq_op (by kernel_rfl) (by rfl) (fun K hK => ?_)
          go_simp
          refine (HCY.out _).mono ?_
          rintro e' w5 ⟨rfl, hb5⟩
          have HR5 := Lib.hid (HRD.out.below hb5)
          clear hb5
          refine hK.out _ _ (HSC.out _ HR5.out) ?_
          clear hK K
          repeat (first
            | (refine seq_take0 (v := ?_) ?_ (fun _ _ _ h => h) (by kernel_rfl) ?_ ?_; rotate_left; (focus rfl); (focus (intro w' hSw; (try dsimp only at hSw); go_simp; (try with_reducible rfl); done)); (try simp only [Act.put, List.setIfInBounds_toArray, List.set_cons_zero, List.set_cons_succ])))
          refine seq_done (by kernel_rfl) ?_
          go_wp2_with fail
          go_roundw
          case rel => exact ⟨s, c, rfl, rfl, HDN.out trivial, HR5.out⟩
          case measure => simp [intOf]; omega
        | false =>
          have hcb := HCB.out false rfl
          go_wp2_with fail
          refine seq_start (S := fun w' => (w'.cell? ⟨g, d * 3, none⟩ = some (.int .i64 xp) ∧ w'.cell? ⟨g, d * 3 + 1, none⟩ = some (.int .i64 xk) ∧ w'.cell? ⟨g, d * 3 + 2, none⟩ = some (.int .i64 xs)) ∧ (w'.cell? ⟨g, c * 3, none⟩ = some (.int .i64 yp) ∧ w'.cell? ⟨g, c * 3 + 1, none⟩ = some (.int .i64 yk) ∧ w'.cell? ⟨g, c * 3 + 2, none⟩ = some (.int .i64 ys))) (by kernel_rfl) (by kernel_rfl) (by exact HSC.out _ HRD.out) ?_
          repeat (first
            | (refine seq_take0 (v := ?_) ?_ (fun _ _ _ h => h) (by kernel_rfl) ?_ ?_; rotate_left; (focus rfl); (focus (intro w' hSw; (try dsimp only at hSw); go_simp; (try with_reducible rfl); done)); (try simp only [Act.put, List.setIfInBounds_toArray, List.set_cons_zero, List.set_cons_succ])))
          refine seq_op (by kernel_rfl) (by rfl) (fun K hK => ?_)
          go_simp
          refine (HCY.out _).mono ?_
          rintro e' w5 ⟨rfl, hb5⟩
          have HR5 := Lib.hid (HRD.out.below hb5)
          clear hb5
          refine hK.out _ _ (HSC.out _ HR5.out) ?_
          clear hK K
          repeat (first
            | (refine seq_take0 (v := ?_) ?_ (fun _ _ _ h => h) (by kernel_rfl) ?_ ?_; rotate_left; (focus rfl); (focus (intro w' hSw; (try dsimp only at hSw); go_simp; (try with_reducible rfl); done)); (try simp only [Act.put, List.setIfInBounds_toArray, List.set_cons_zero, List.set_cons_succ])))
          refine seq_done (by kernel_rfl) ?_
          go_wp2_with fail
          go_roundw
          case rel => exact ⟨c + 1, r, by go_num, rfl, HUP.out trivial, HR5.out⟩
          case measure => simp [intOf]; omega
      · have hlti : ¬ ((s : Int) < (r : Int)) := by omega
        have hse : r = s := by omega
        have hcs := HCUT.out
        rw [hse] at hcs
        obtain ⟨q1, q2, q3, q4, q5, X1, X2, Y1, Y2, e1, e2, n1, n2, n3, n4, hfin⟩ := HSPL.out s hcs
        have HFIN := Lib.hid hfin
        have E1 := Lib.hid e1
        have E2 := Lib.hid e2
        have N1 := Lib.hid n1
        have N2 := Lib.hid n2
        have N3 := Lib.hid n3
        have N4 := Lib.hid n4
        obtain ⟨E, hE⟩ : ∃ E, E = mid + m - s := ⟨_, rfl⟩
        have hEi : (mid : Int) + (m : Int) - (s : Int) = (E : Int) := by omega
        have HE := Lib.hid hE
        have hxs := HSX.out
        have hys := HSY.out
        rw [e1] at hxs
        rw [e2] at hys
        have sx := List.pairwise_append.1 hxs
        have sy := List.pairwise_append.1 hys
        have HSX1 : Hid (SortedJ X1) := sx.1
        have HSX2 : Hid (SortedJ X2) := sx.2.1
        have HSY1 : Hid (SortedJ Y1) := sy.1
        have HSY2 : Hid (SortedJ Y2) := sy.2.1
        have HR0 : Hid (JRow B g n cap W0 wr ((A ++ X1) ++ X2 ++ Y1 ++ (Y2 ++ C))) := by show JRow _ _ _ _ _ _ _; have := HROW.out; rw [HL.out, e1, e2] at this; simpa using this
        clear hse hcs e1 e2 n1 n2 n3 n4 hfin hE hxs hys sx sy HSPL HRUN HCMP HROW HCUT
        have hend : ∀ wz Z1 Z2, JRow B g n cap W0 wz (A ++ Z1 ++ Z2 ++ C) → Z1.Perm (X1 ++ Y1) → Z2.Perm (X2 ++ Y2) → SortedJ Z1 → SortedJ Z2 → ∃ Z, JRow B g n cap W0 wz (A ++ Z ++ C) ∧ Z.Perm (X ++ Y) ∧ SortedJ Z := fun wz Z1 Z2 h1 h2 h3 h4 h5 =>
          ⟨Z1 ++ Z2, by simpa using h1, (HFIN.out Z1 Z2 h2 h3 h4 h5).2, (HFIN.out Z1 Z2 h2 h3 h4 h5).1⟩
        have HEND := Lib.hid hend
        clear hend HFIN
        by_cases ru : s < m ∧ s < mid
        focus
          obtain ⟨u1, u2⟩ := ru
          have t2 : m < E := by have := HE.out; omega
          have t5 : mid < E := by have := HE.out; omega
          have HRC := Lib.hid (rotate_any B g n cap (A ++ X1) X2 Y1 (Y2 ++ C) s m E (.func (.func 51) #[] #[]) W0 wr HR0.out (by have := HA.out; have := N1.out; simp; omega) (by have := HA.out; have := N1.out; have := N3.out; simp; omega) (by have := N2.out; have := HE.out; omega) (by have := N3.out; omega) (by have := N2.out; omega) hn)
          go_wp2_with fail
          refine HRC.out.mono ?_
          rintro e wq ⟨⟨v, rfl⟩, hq⟩
          have HQ : Hid (JRow B g n cap W0 wq (A ++ X1 ++ Y1 ++ (X2 ++ Y2 ++ C))) := by show JRow _ _ _ _ _ _ _; simpa using hq
          clear hq
        rotate_left
        focus
          have HQ : Hid (JRow B g n cap W0 wr (A ++ X1 ++ Y1 ++ (X2 ++ Y2 ++ C))) := by
            have := HR0.out
            by_cases u1 : s < m
            · have : Y1 = [] := List.length_eq_zero_iff.1 (by have := N2.out; omega)
              subst this
              show JRow _ _ _ _ _ _ _; simpa using HR0.out
            · have : X2 = [] := List.length_eq_zero_iff.1 (by have := N3.out; omega)
              subst this
              show JRow _ _ _ _ _ _ _; simpa using HR0.out
          by_cases u1 : s < m
          focus
            have t2 : ¬ m < E := by have := HE.out; omega
            have t5 : mid < E := by have := HE.out; omega
            have u2 : ¬ s < mid := by omega
            clear ru
            obtain ⟨wq, rfl⟩ : ∃ wq, wq = wr := ⟨_, rfl⟩
          rotate_left
          focus
            have t5 : ¬ mid < E := by have := HE.out; omega
            clear ru
            obtain ⟨wq, rfl⟩ : ∃ wq, wq = wr := ⟨_, rfl⟩
        all_goals
          by_cases u3 : a < s ∧ s < mid
          focus
            first
            | (exfalso; omega)
            | (obtain ⟨u3, u4⟩ := u3
               have HI1 := Lib.hid (HIH.out A X1 Y1 (X2 ++ Y2 ++ C) a s mid wq HQ.out HA.out (by have := N1.out; omega) (by have := N2.out; omega) HSX1.out HSY1.out (by have := N1.out; omega) (by have := N2.out; omega) (by have := N1.out; have := N2.out; have := HM.out; have := HBL.out; have := HMID.out; omega))
               unfold SymC at HI1
               go_wp2_with fail
               refine HI1.out.mono ?_
               rintro e wy ⟨⟨v, rfl⟩, Z1, hz1, hz2, hz3⟩
               have HZ1 := Lib.hid hz1
               have HZ2 := Lib.hid hz2
               have HZ3 := Lib.hid hz3
               clear hz1 hz2 hz3)
          rotate_left
          focus
            have HZ3 : Hid (SortedJ (X1 ++ Y1)) := sorted_nil_r HSX1.out HSY1.out (by
              by_cases q : a < s
              · exact .inr (List.length_eq_zero_iff.1 (by have := N2.out; omega))
              · exact .inl (List.length_eq_zero_iff.1 (by have := N1.out; omega)))
            have HZ1 : Hid (JRow B g n cap W0 wq (A ++ (X1 ++ Y1) ++ (X2 ++ Y2 ++ C))) := by show JRow _ _ _ _ _ _ _; have := HQ.out; simpa using this
            obtain ⟨wy, rfl⟩ : ∃ wy, wy = wq := ⟨_, rfl⟩
            obtain ⟨Z1, hZ1e⟩ : ∃ Z1, Z1 = X1 ++ Y1 := ⟨_, rfl⟩
            rw [← hZ1e] at HZ1 HZ3
            have HZ2 : Hid (Z1.Perm (X1 ++ Y1)) := by show Z1.Perm _; rw [hZ1e]
            clear hZ1e
            by_cases q3 : a < s
            focus
              have q4 : ¬ s < mid := by omega
            rotate_left
          all_goals
            have HZL : Hid (Z1.length = mid - a) := by show _ = _; have := HZ2.out.length_eq; have := N1.out; have := N2.out; simp at *; omega
            by_cases u6 : mid < E ∧ E < b
            · first
              | (exfalso; omega)
              | (obtain ⟨u6, u7⟩ := u6
                 have HI2 := Lib.hid (HIH.out (A ++ Z1) X2 Y2 C mid E b wy (by have := HZ1.out; simpa using this) (by have := HA.out; have := HZL.out; simp; omega) (by have := N3.out; have := HE.out; omega) (by have := N4.out; have := HE.out; omega) HSX2.out HSY2.out (by have := N3.out; have := HE.out; omega) (by have := N4.out; have := HE.out; omega) (by have := N3.out; have := N4.out; have := HM.out; have := HBL.out; have := HMID.out; omega))
                 unfold SymC at HI2
                 go_wp2_with fail
                 refine HI2.out.mono ?_
                 rintro e wz ⟨⟨v2, rfl⟩, Z2, hz1, hz2, hz3⟩
                 have HF := Lib.hid (HEND.out wz Z1 Z2 hz1 HZ2.out hz2 HZ3.out hz3)
                 clear hz1 hz2 hz3
                 go_wp2_with fail
                 go_end0
                 obtain ⟨Z, z1, z2, z3⟩ := HF.out
                 exact ⟨⟨_, rfl⟩, Z, by simpa using z1, z2, z3⟩)
            · have HF := Lib.hid (HEND.out wy Z1 (X2 ++ Y2) (by have := HZ1.out; simpa using this) HZ2.out (List.Perm.refl _) HZ3.out (sorted_nil_r HSX2.out HSY2.out (by
                by_cases q : mid < E
                · exact .inr (List.length_eq_zero_iff.1 (by have := N4.out; have := HE.out; omega))
                · exact .inl (List.length_eq_zero_iff.1 (by have := N3.out; have := HE.out; omega)))))
              by_cases q5 : mid < E
              · first
                | (exfalso; omega)
                | (have q6 : ¬ E < b := by omega
                   go_wp2_with fail
                   go_end0
                   obtain ⟨Z, z1, z2, z3⟩ := HF.out
                   exact ⟨⟨_, rfl⟩, Z, by simpa using z1, z2, z3⟩)
              · first
                | (exfalso; omega)
                | (go_wp2_with fail
                   go_end0
                   obtain ⟨Z, z1, z2, z3⟩ := HF.out
                   exact ⟨⟨_, rfl⟩, Z, by simpa using z1, z2, z3⟩)
theorem sym_any (B g n cap : Nat) (W0 : World) (hn : n ≤ 64) : ∀ (N : Nat) (A X Y C : List JobD) (a m b : Nat) (w : World), X.length + Y.length < N → JRow B g n cap W0 w (A ++ X ++ Y ++ C) → a = A.length → m = a + X.length → b = m + Y.length → SortedJ X → SortedJ Y → 1 ≤ X.length → 1 ≤ Y.length → SymC B g n cap A X Y C a m b W0 w
  | 0, _, _, _, _, _, _, _, _, h, _, _, _, _, _, _, _, _ => absurd h (by omega)
  | N + 1, A, X, Y, C, a, m, b, w, hN, h, ha, hm, hb, hx, hy, hx1, hy1 => by
    by_cases h1 : X.length = 1
    · obtain ⟨x, rfl⟩ := List.length_eq_one_iff.1 h1
      exact sym_one B g n cap A Y C x a m b W0 w h ha (by simpa using hm) hb hy hn
    · by_cases h2 : Y.length = 1
      · obtain ⟨y, rfl⟩ := List.length_eq_one_iff.1 h2
        exact sym_two B g n cap A X C y a m b W0 w h ha hm (by simpa using hb) hx h1 hn
      · exact sym_gen B g n cap A X Y C a m b W0 w h ha hm hb hx hy (by omega) (by omega) hn fun A' X' Y' C' a' m' b' w' q1 q2 q3 q4 q5 q6 q7 q8 q9 => sym_any B g n cap W0 hn N A' X' Y' C' a' m' b' w' (by omega) q1 q2 q3 q4 q5 q6 q7 q8
end Go.Proofs.YtogccnngdfancaaGreat
