/- The walk of the statement PlantWays. -/
import Derived.Test.YtlanephpmoajiaaRefCert
import Derived.Test.YtlanephpmoajiaaLonger
namespace Go.Proofs.Ytlanephpmoajiaa
open Go.RowKit
set_option linter.unusedVariables false
set_option linter.unusedSimpArgs false
/-- A list and an error. -/
def Ret2 (w : World) (err : Int) (L : List ByteArray) (e : Ending) (w' : World) : Prop := ∃ v, e = .returned (.tuple #[v, .int .i64 err]) ∧ Rd .string w' (fun _ => True) v L ∧ Below w.heap.size w w'
def listIf (xs : List ItemD) (nm : ByteArray) (ms : List Bool) : List ByteArray := if findErr xs nm = 0 then namesOf xs ms else []
theorem ret_src {w w' : World} {xs : List ItemD} {nm : ByteArray} {e : Ending} (h : SourcesNames w xs nm e w') : Ret2 w (findErr xs nm) (listIf xs nm (srcMs xs nm)) e w' := by
  obtain ⟨⟨v, he, hr⟩, hb⟩ := h; exact ⟨v, he, hr.mono fun _ _ => trivial, hb⟩
theorem ret_cert {w w' : World} {xs : List ItemD} {nm : ByteArray} {e : Ending} (h : CertainNames w xs nm e w') : Ret2 w (findErr xs nm) (listIf xs nm (certMs xs nm)) e w' := by
  obtain ⟨⟨v, he, hr⟩, hb⟩ := h; exact ⟨v, he, hr.mono fun _ _ => trivial, hb⟩
theorem ret_uses {w w' : World} {xs : List ItemD} {nm : ByteArray} {e : Ending} (h : UsesNames w xs nm e w') : Ret2 w (findErr xs nm) (listIf xs nm (usesMs xs nm)) e w' := by
  obtain ⟨⟨v, he, hr⟩, hb⟩ := h; exact ⟨v, he, hr.mono fun _ _ => trivial, hb⟩
theorem ret_none {w w' : World} {xs : List ItemD} {nm : ByteArray} {e : Ending} {ms : List Bool} (h : idx xs nm = none) (he : e = .returned (.tuple #[.slice none 0 0, .int .i64 5])) (hb : Below w.heap.size w w') : Ret2 w (findErr xs nm) (listIf xs nm ms) e w' := by
  have hf : findErr xs nm = 5 := by simp [findErr, h]
  refine ⟨.slice none 0 0, by rw [he, hf], ?_, hb⟩
  unfold listIf
  rw [hf, if_neg (by decide)]
  exact Rd.none_ _ _ _
theorem ret_some {w w' : World} {xs : List ItemD} {nm : ByteArray} {e : Ending} {ms : List Bool} {i : Nat} {v : Value} (h : idx xs nm = some i) (he : e = .returned (.tuple #[v, .int .i64 0])) (hr : Rd .string w' (w.heap.size ≤ ·) v (namesOf xs ms)) (hb : Below w.heap.size w w') : Ret2 w (findErr xs nm) (listIf xs nm ms) e w' := by
  have hf : findErr xs nm = 0 := by simp [findErr, h]
  refine ⟨v, by rw [he, hf], ?_, hb⟩
  unfold listIf
  rw [hf, if_pos rfl]
  exact hr.mono fun _ _ => trivial
theorem ret_rsrc {w w' : World} {xs : List ItemD} {nm : ByteArray} {e : Ending} (h : RefSrcPost w xs nm e w') : Ret2 w (findErr xs nm) (listIf xs nm (srcMs xs nm)) e w' := by
  obtain ⟨⟨hi, he⟩ | ⟨i, v, hi, he, hr⟩, hb⟩ := h
  · exact ret_none hi he hb
  · exact ret_some hi he (by unfold srcMs; simp only [hi]; exact hr) hb
theorem ret_rcert {w w' : World} {xs : List ItemD} {nm : ByteArray} {e : Ending} (h : RefCertPost w xs nm e w') : Ret2 w (findErr xs nm) (listIf xs nm (certMs xs nm)) e w' := by
  obtain ⟨⟨hi, he⟩ | ⟨i, v, hi, he, hr⟩, hb⟩ := h
  · exact ret_none hi he hb
  · exact ret_some hi he (by unfold certMs; simp only [hi]; exact hr) hb
theorem ret_ruses {w w' : World} {xs : List ItemD} {nm : ByteArray} {e : Ending} (hu : BookUq xs) (h : RefUsesPost w xs nm e w') : Ret2 w (findErr xs nm) (listIf xs nm (usesMs xs nm)) e w' := by
  obtain ⟨⟨hi, he⟩ | ⟨i, v, hi, he, hr⟩, hb⟩ := h
  · exact ret_none hi he hb
  · exact ret_some hi he (by rw [← refUses_eq hu hi]; exact hr) hb
theorem own_one (w : World) (s : ByteArray) : (w.alloc (.cells #[.string s] 9)).ownsRow w.heap.size 9 1 (.slice (some ⟨w.heap.size, 0, none⟩) 1 1) ([s] : List ByteArray).length (([s] : List ByteArray).map Value.string) :=
  ⟨rfl, .inr ⟨w.heap.size, 1, #[.string s], rfl, Nat.le_refl _, heap_alloc_new w _, Nat.le_refl _, by simp [maxLen], rfl, rfl⟩⟩
/-- The names that are asked for. -/
def askN (nm : ByteArray) (acc : List ItemD) (k : Nat) : List ByteArray := nm :: (acc.take k).map (·.name)
theorem askN_len (nm : ByteArray) (acc : List ItemD) (k : Nat) : (askN nm acc k).length ≤ k + 1 := by unfold askN; simp; omega
theorem askN_snoc {nm : ByteArray} {acc : List ItemD} {k : Nat} {x : ItemD} (h : acc[k]? = some x) : askN nm acc (k + 1) = askN nm acc k ++ [x.name] := by unfold askN; rw [take_snoc? h, List.map_append]; rfl
set_option maxRecDepth 100000 in
set_option maxHeartbeats 4000000 in
theorem ways_any (v0 : Value) (xs : List ItemD) (nm : ByteArray) (w : World) (hv : RdI w (fun _ => True) v0 xs) (hw : ∀ x ∈ xs, ItemWf x) (hnm : nm.size ≤ maxLen) :
    Calls Try.prog 8 #[v0, .string nm] w fun e w' => e = .returned (.bool true) ∧ Below w.heap.size w w' := by
  obtain ⟨j0, hj0, hy0, hy1, hy2⟩ := info_parts info9
  have HV := Lib.hid hv
  have HW := Lib.hid hw
  obtain ⟨A, n, cap, rfl, -⟩ := hv.open_
  clear hv hw
  go_enter Try.func8, Try.ntmps8
  go_wp2_with fail
  refine (few_any _ xs _ w HV.out).mono ?_
  rintro e w2 ⟨b, rfl, hfew, hb2⟩
  have HB2 := Lib.hid hb2
  clear hb2
  cases b with
  | false =>
    clear hfew
    go_wp2_with (go_at_call 16; refine (awake_any _).mono ?_; rintro e w3 ⟨rfl, hb3⟩)
    go_ret
    exact ⟨rfl, HB2.out.trans (hb3.mono HB2.out.size)⟩
  | true =>
    have HF := Lib.hid (hfew rfl)
    clear hfew
    go_wp2_with fail
    refine (books_any _ xs _ w2 (HV.out.below HB2.out) HF.out).mono ?_
    rintro e w3 ⟨p, bv, rfl, F, hbk, hrd, hb3⟩
    have hok := entAll_ok HF.out.each HW.out
    have huq := entAll_uq xs
    have hne := entAll_ne xs
    have hlen : (entAll xs).length ≤ 1024 := by have := entAll_len xs; have := HF.out.len; omega
    obtain ⟨acc, hacc⟩ : ∃ acc, acc = entAll xs := ⟨_, rfl⟩
    rw [← hacc] at hbk hrd hok huq hne hlen
    have HB3 := Lib.hid (HB2.out.trans (hb3.mono HB2.out.size))
    have C1 : Hid (∀ s : ByteArray, s.size ≤ maxLen → ∀ w', Below w3.heap.size w3 w' → Calls Try.prog 35 #[p, .string s] w' (Ret2 w' (findErr acc s) (listIf acc s (srcMs acc s)))) := fun s hs w' h => (Sources_any p _ F acc s w' (hbk.below h) hok.found huq hlen hs).mono fun _ _ h => ret_src h
    have C2 : Hid (∀ s : ByteArray, ∀ w', Below w3.heap.size w3 w' → Calls Try.prog 36 #[bv, .string s] w' (Ret2 w' (findErr acc s) (listIf acc s (srcMs acc s)))) := fun s w' h => (refSrc_any bv acc s _ w' (hrd.below h) huq hlen).mono fun _ _ h => ret_rsrc h
    have C3 : Hid (∀ s : ByteArray, s.size ≤ maxLen → ∀ w', Below w3.heap.size w3 w' → Calls Try.prog 37 #[p, .string s] w' (Ret2 w' (findErr acc s) (listIf acc s (certMs acc s)))) := fun s hs w' h => (Certain_any p _ F acc s w' (hbk.below h) hok.found huq hlen hs).mono fun _ _ h => ret_cert h
    have C4 : Hid (∀ s : ByteArray, ∀ w', Below w3.heap.size w3 w' → Calls Try.prog 38 #[bv, .string s] w' (Ret2 w' (findErr acc s) (listIf acc s (certMs acc s)))) := fun s w' h => (refCert_any bv acc s _ w' (hrd.below h) huq hne hok.found hlen).mono fun _ _ h => ret_rcert h
    have C5 : Hid (∀ s : ByteArray, s.size ≤ maxLen → ∀ w', Below w3.heap.size w3 w' → Calls Try.prog 23 #[p, .string s] w' (Ret2 w' (findErr acc s) (listIf acc s (usesMs acc s)))) := fun s hs w' h => (Uses_any p _ F acc s w' (hbk.below h) hok.found hlen hs).mono fun _ _ h => ret_uses h
    have C6 : Hid (∀ s : ByteArray, ∀ w', Below w3.heap.size w3 w' → Calls Try.prog 39 #[bv, .string s] w' (Ret2 w' (findErr acc s) (listIf acc s (usesMs acc s)))) := fun s w' h => (refUses_any bv acc s _ w' (hrd.below h) hlen).mono fun _ _ h => ret_ruses huq h
    have HSM : Hid (∀ k : Nat, ∀ s ∈ askN nm acc k, s.size ≤ maxLen) := fun k s hs => by
      unfold askN at hs
      rcases List.mem_cons.1 hs with rfl | hs
      · exact hnm
      · obtain ⟨x, hx, rfl⟩ := List.mem_map.1 hs
        have := (hok.small x (List.mem_of_mem_take hx)).name
        unfold maxLen; omega
    obtain ⟨A5, n5, cap5, rfl, hn5, hcap5, hmax5, hc5⟩ := hrd.lt.open_
    have HC5 := Lib.hid hc5
    have HN5 := Lib.hid hn5
    have hn1024 : n5 ≤ 1024 := by omega
    have HO0 := Lib.hid (own_one w3 nm)
    have HBA : Hid (Below w3.heap.size w3 (w3.alloc (.cells #[.string nm] 9))) := (Below.refl _ w3).alloc (Nat.le_refl _) _
    clear hbk hrd hok huq hne hlen hacc hb3 hc5 hn5
    go_wp2_with fail
    go_loopw [8, 39] (fun o iv wr => ∃ k : Nat, k ≤ n5 ∧ iv = .int .i64 k ∧ wr.ownsRow w3.heap.size 9 1 o (askN nm acc k).length ((askN nm acc k).map Value.string) ∧ Below w3.heap.size w3 wr) (fun _ iv _ => n5 - (intOf iv).toNat)
    case atStart => exact ⟨0, Nat.zero_le _, rfl, HO0.out, HBA.out⟩
    case round =>
      clear HO0 HBA
      obtain ⟨k, hk, rfl, hown, hbel⟩ := hrel
      by_cases hlt : k < n5
      · obtain ⟨b6, off6, x, f, rfl, ⟨_, hbw6⟩, hx, c0, c1, c2, c3, hfr⟩ := HC5.out k hlt
        have d0 : wr.cell? ⟨b6, off6 + k * 4, none⟩ = _ := (hbel.cell (p := ⟨b6, _, none⟩) hbw6).trans c0
        have d1 : wr.cell? ⟨b6, off6 + k * 4 + 1, none⟩ = _ := (hbel.cell (p := ⟨b6, _, none⟩) hbw6).trans c1
        have d2 : wr.cell? ⟨b6, off6 + k * 4 + 2, none⟩ = _ := (hbel.cell (p := ⟨b6, _, none⟩) hbw6).trans c2
        have d3 : wr.cell? ⟨b6, off6 + k * 4 + 3, none⟩ = _ := (hbel.cell (p := ⟨b6, _, none⟩) hbw6).trans c3
        obtain ⟨Af, nf, cf, rfl⟩ := hfr.isSlice
        have HSN := Lib.hid (askN_snoc (nm := nm) hx)
        have hlen := askN_len nm acc k
        obtain ⟨L, hL⟩ : ∃ L, L = askN nm acc k := ⟨_, rfl⟩
        rw [← hL] at HSN hown hlen
        obtain ⟨xn, xk, xa, xf⟩ := x
        simp only at d0 d1 d2 d3
        have hszw := hbel.size
        obtain ⟨A8, c8, rfl⟩ := ownsRow_slice hown
        have hown2 := (hown.alloc (.cells #[.string xn, .int .i64 xk, .int .i64 xa, .slice Af nf cf] 44)).alloc (.cells #[.string xn] 9)
        have hbel2 := hbel.alloc hbel.size (.cells #[.string xn, .int .i64 xk, .int .i64 xa, .slice Af nf cf] 44)
        have hnew := cells_new (wr.alloc (.cells #[.string xn, .int .i64 xk, .int .i64 xa, .slice Af nf cf] 44)) #[.string xn] 9 (0, 0)
        rw [show (wr.alloc (.cells #[.string xn, .int .i64 xk, .int .i64 xa, .slice Af nf cf] 44)).heap.size = wr.heap.size + 1 from by simp] at hnew
        have HNEW := Lib.hid hnew
        have HBEL2 := Lib.hid hbel2
        have HOWN := Lib.hid (hown.alloc (.cells #[.string xn, .int .i64 xk, .int .i64 xa, .slice Af nf cf] 44))
        clear hL hx c0 c1 c2 c3 hfr hown hbel hbel2 hnew
        go_wp2_with (at_builtin; refine wpList_append_own _ rfl _ _ 52 rfl w3.heap.size 9 j0 (.string ⟨#[]⟩) 1 16 Try.underlying52 hj0 hy0 hy1 hy2 rfl (by decide) _ L.length (L.map Value.string) rfl hown2 ⟨wr.heap.size + 1, 0, none⟩ 1 1 [.string xn] rfl rfl HNEW.out (fun u hu => by simp at hu; subst hu; rfl) (by unfold maxLen; omega) (by omega) (by simp; omega) ?_; intro v' w4 hown' hgrow _)
        have hg := grown_below HOWN.out hgrow (by simp; omega)
        go_roundw
        case rel => exact ⟨k + 1, by omega, by go_num, by rw [HSN.out, List.map_append, List.length_append]; exact hown', HBEL2.out.trans hg.1⟩
        case measure => simp [intOf]; omega
      · obtain ⟨wb, rfl⟩ : ∃ wb : World, wb = wr := ⟨_, rfl⟩
        have hrn := Rd.of_own hown
        have HSK : Hid (∀ s ∈ askN nm acc k, s.size ≤ maxLen) := HSM.out k
        have hlen := askN_len nm acc k
        obtain ⟨L, hL⟩ : ∃ L, L = askN nm acc k := ⟨_, rfl⟩
        rw [← hL] at hrn HSK hlen hown
        obtain ⟨A8, n8, cap8, rfl, hn8, hcap8, hmax8, hc8⟩ := hrn.lt.open_
        have HC8 := Lib.hid hc8
        have hn8' : n8 ≤ 2000 := by omega
        have HBEL := Lib.hid hbel
        clear hL hrn hown hbel hc8 hn8 hlen
        go_wp2_with fail
        go_loopw [51] (fun iv wr => ∃ q : Nat, q ≤ n8 ∧ iv = .int .i64 q ∧ Below wb.heap.size wb wr) (fun iv _ => n8 - (intOf iv).toNat)
        case atStart => exact ⟨0, Nat.zero_le _, rfl, Below.refl _ _⟩
        case round =>
          obtain ⟨q, hq, rfl, hbr⟩ := hrel
          have HBR := Lib.hid hbr
          have HB3R : Hid (Below w3.heap.size w3 wr) := HBEL.out.trans (hbr.mono HBEL.out.size)
          by_cases hlt2 : q < n8
          · obtain ⟨b9, off9, s, rfl, ⟨_, hbw9⟩, hs, hcell9⟩ := HC8.out q hlt2
            have d0 : wr.cell? ⟨b9, off9 + q, none⟩ = some (.string s) := (hbr.cell (p := ⟨b9, _, none⟩) hbw9).trans hcell9
            have hss := HSK.out s (mem_of_get? hs)
            have D1 := Lib.hid (C1.out s hss)
            have D2 := Lib.hid (C2.out s)
            have D3 := Lib.hid (C3.out s hss)
            have D4 := Lib.hid (C4.out s)
            have D5 := Lib.hid (C5.out s hss)
            have D6 := Lib.hid (C6.out s)
            obtain ⟨er, her⟩ : ∃ er, er = findErr acc s := ⟨_, rfl⟩
            obtain ⟨L1, hL1⟩ : ∃ L1, L1 = listIf acc s (srcMs acc s) := ⟨_, rfl⟩
            obtain ⟨L2, hL2⟩ : ∃ L2, L2 = listIf acc s (certMs acc s) := ⟨_, rfl⟩
            obtain ⟨L3, hL3⟩ : ∃ L3, L3 = listIf acc s (usesMs acc s) := ⟨_, rfl⟩
            rw [← her, ← hL1] at D1 D2
            rw [← her, ← hL2] at D3 D4
            rw [← her, ← hL3] at D5 D6
            clear her hL1 hL2 hL3 hs hcell9 hbr
            have k1 : (er != er) = false := by simp
            go_wp2_with fail
            refine (D1.out wr HB3R.out).mono ?_
            rintro e u1 ⟨v1, rfl, r1, g1⟩
            have R1 := Lib.hid r1
            have G1 := Lib.hid g1
            clear r1 g1 d0
            go_wp2_with fail
            refine (D2.out u1 (HB3R.out.trans (G1.out.mono HB3R.out.size))).mono ?_
            rintro e u2 ⟨v2, rfl, r2, g2⟩
            have R2 := Lib.hid r2
            have G2 := Lib.hid (G1.out.trans (g2.mono G1.out.size))
            have R12 := Lib.hid (R1.out.below g2)
            clear r2 g2
            go_wp2_with fail
            refine (D3.out u2 (HB3R.out.trans (G2.out.mono HB3R.out.size))).mono ?_
            rintro e u3 ⟨v3, rfl, r3, g3⟩
            have R3 := Lib.hid r3
            have G3 := Lib.hid (G2.out.trans (g3.mono G2.out.size))
            have R13 := Lib.hid (R12.out.below g3)
            have R23 := Lib.hid (R2.out.below g3)
            clear r3 g3
            go_wp2_with fail
            refine (D4.out u3 (HB3R.out.trans (G3.out.mono HB3R.out.size))).mono ?_
            rintro e u4 ⟨v4, rfl, r4, g4⟩
            have R4 := Lib.hid r4
            have G4 := Lib.hid (G3.out.trans (g4.mono G3.out.size))
            have R14 := Lib.hid (R13.out.below g4)
            have R24 := Lib.hid (R23.out.below g4)
            have R34 := Lib.hid (R3.out.below g4)
            clear r4 g4
            go_wp2_with fail
            refine (D5.out u4 (HB3R.out.trans (G4.out.mono HB3R.out.size))).mono ?_
            rintro e u5 ⟨v5, rfl, r5, g5⟩
            have R5 := Lib.hid r5
            have G5 := Lib.hid (G4.out.trans (g5.mono G4.out.size))
            have R15 := Lib.hid (R14.out.below g5)
            have R25 := Lib.hid (R24.out.below g5)
            have R35 := Lib.hid (R34.out.below g5)
            have R45 := Lib.hid (R4.out.below g5)
            clear r5 g5
            go_wp2_with fail
            refine (D6.out u5 (HB3R.out.trans (G5.out.mono HB3R.out.size))).mono ?_
            rintro e u6 ⟨v6, rfl, r6, g6⟩
            have G6 := Lib.hid (G5.out.trans (g6.mono G5.out.size))
            have E1 : Hid (∀ u, Below u6.heap.size u6 u → Calls Try.prog 24 #[v1, v2] u fun e w' => e = .returned (.bool true) ∧ Below u.heap.size u w') := fun u hu => by
              have := alike_any v1 v2 L1 L1 _ _ u ((R15.out.below g6).below hu) ((R25.out.below g6).below hu)
              rw [decide_eq_true rfl] at this; exact this
            have E2 : Hid (∀ u, Below u6.heap.size u6 u → Calls Try.prog 24 #[v3, v4] u fun e w' => e = .returned (.bool true) ∧ Below u.heap.size u w') := fun u hu => by
              have := alike_any v3 v4 L2 L2 _ _ u ((R35.out.below g6).below hu) ((R45.out.below g6).below hu)
              rw [decide_eq_true rfl] at this; exact this
            have E3 : Hid (∀ u, Below u6.heap.size u6 u → Calls Try.prog 24 #[v5, v6] u fun e w' => e = .returned (.bool true) ∧ Below u.heap.size u w') := fun u hu => by
              have := alike_any v5 v6 L3 L3 _ _ u ((R5.out.below g6).below hu) (r6.below hu)
              rw [decide_eq_true rfl] at this; exact this
            clear r6 g6
            go_wp2_with fail
            refine (E1.out _ (Below.refl _ _)).mono ?_
            rintro e u7 ⟨rfl, g7⟩
            have G7 := Lib.hid g7
            clear g7
            go_wp2_with fail
            refine (E2.out _ G7.out).mono ?_
            rintro e u8 ⟨rfl, g8⟩
            have G8 := Lib.hid (G7.out.trans (g8.mono G7.out.size))
            clear g8
            go_wp2_with fail
            refine (E3.out _ G8.out).mono ?_
            rintro e u9 ⟨rfl, g9⟩
            have G9 := Lib.hid (G8.out.trans (g9.mono G8.out.size))
            clear g9
            go_wp2_with fail
            go_roundw
            case rel => exact ⟨q + 1, by omega, by go_num, HBR.out.trans ((G6.out.trans (G9.out.mono G6.out.size)).mono HBR.out.size)⟩
            case measure => simp [intOf]; omega
          · have HFIN := Lib.hid (HB3.out.trans (HB3R.out.mono HB3.out.size))
            clear hbr
            go_wp2_with (go_at_call 16; refine (awake_any _).mono ?_; rintro e w9 ⟨rfl, hb9⟩)
            go_ret
            exact ⟨rfl, HFIN.out.trans (hb9.mono HFIN.out.size)⟩
end Go.Proofs.Ytlanephpmoajiaa
