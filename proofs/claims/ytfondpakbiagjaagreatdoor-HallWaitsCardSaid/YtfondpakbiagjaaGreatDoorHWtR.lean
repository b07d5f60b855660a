/- The walks of the reference's has and Waiting. -/
import Derived.Test.YtfondpakbiagjaaGreatDoorHWtP
namespace Go.Proofs.YtfondpakbiagjaaGreatDoor
open Go.RowKit
set_option linter.unusedVariables false
set_option linter.unusedSimpArgs false
set_option maxRecDepth 100000
set_option maxHeartbeats 4000000
/-- The row grows by a list that reads as ints, in a plain region. -/
theorem wpList_appI {w : World} {ops : Array Oper} {rest : List Oper} {o : Oper} {a : Act} {Q : Exit → Act → World → Prop} {B : Nat} {v x : Value} {xs ys : List Int} {n m q : Nat} {S : Nat → Prop} (hgd : o.guard = none) (s y : Operand)
    (ho : o.op = .call { callee := .builtin .append, args := #[s, y], argTypes := #[31, 31] }) (hs : a.eval s = v) (hy : a.eval y = x)
    (hn : xs.length = n) (hm : ys.length = m) (hq : n + m = q) (hown : OwnI w B v xs) (hr : Rd (Value.int .i64) w S x ys) (hl : q ≤ 100000) (hB : B ≤ w.heap.size)
    (h : ∀ A c w', OwnI w' B (.slice A q c) (xs ++ ys) → Gr w w' v (.slice A q c) → wpList Tryz.prog ops Q rest (a.put o.dst (.slice A q c)) w') : wpList Tryz.prog ops Q (o :: rest) a w := by
  subst hn hm hq
  obtain ⟨i0, hi0, hz0, hz1, hz2⟩ := info_parts info3
  refine wpList_append_rd hgd s y 31 ho B 3 i0 (.int .i64 0) 8 Tryz.underlying31 hi0 hz0 hz1 hz2 rfl v xs.length (xs.map intV) hs hown x S ys hy hr (fun u hu => by obtain ⟨z, _, rfl⟩ := List.mem_map.1 hu; rfl) (by unfold maxLen; omega) (by omega) hB fun v' w' h2 h3 h4 => ?_
  obtain ⟨A, c', rfl⟩ := ownsRow_slice h2
  refine h A c' w' (by unfold OwnI; rw [List.length_append, List.map_append]; exact h2) ⟨h3, h4⟩
theorem contains_yes {l : List Int} {x : Int} (h : x ∈ l) : l.contains x = true := by simpa using h
theorem rhas_any (v : Value) (l : List Int) (x : Int) (w : World) (S : Nat → Prop) (hv : Rd (Value.int .i64) w S v l) (hl : l.length ≤ 1000) :
    Calls Tryz.prog 46 #[v, .int .i64 x] w fun e w' => e = .returned (.bool (l.contains x)) ∧ w' = w := by
  obtain ⟨A, n, cap, rfl, hnl, hcap, hmax, hc⟩ := hv.open_
  have HN := Lib.hid hnl
  have HC := Lib.hid hc
  have hn1 : n ≤ 1000 := by omega
  obtain ⟨cb, hcb⟩ : ∃ b, b = l.contains x := ⟨_, rfl⟩
  have HCBB := Lib.hid hcb
  rw [← hcb]
  clear hnl hc hv hl hcb
  go_enter Tryz.func46, Tryz.ntmps46
  go_wp2_with fail
  go_loopw [5] (fun iv wr => ∃ i : Nat, i ≤ n ∧ iv = .int .i64 (i : Int) ∧ Hid (∀ (j : Nat) z, j < i → l[j]? = some z → z ≠ x) ∧ wr = w) (fun iv _ => n - (RowKit.intOf iv).toNat)
  case atStart => exact ⟨0, Nat.zero_le _, rfl, fun j z h => absurd h (Nat.not_lt_zero _), rfl⟩
  case round =>
    obtain ⟨i, hi, rfl, HI, hw⟩ := hrel
    obtain rfl := hw.symm
    clear hw
    by_cases hlt : i < n
    · obtain ⟨b, off, p, rfl, -, hp, hcell⟩ := HC.out i hlt
      have HP := Lib.hid hp
      have hii : (i : Int) < (n : Int) := by omega
      have hi0 : (0 : Int) ≤ (i : Int) := by omega
      have hwi : IntKind.i64.wrap ((i : Int) + 1) = (i : Int) + 1 := IntWalk.i64_in _ (by omega)
      by_cases hpx : p = x
      · have HR := Lib.hid (contains_yes (List.mem_of_getElem? (hpx ▸ hp)))
        subst hpx
        clear hp
        go_wp2_with fail
        go_ret
        exact ⟨by rw [HCBB.out, HR.out]; rfl, rfl⟩
      · have HI1 : Hid (∀ (j : Nat) z, j < i + 1 → l[j]? = some z → z ≠ x) := fun j z hj hz => by
          rcases Nat.lt_or_ge j i with h | h
          · exact HI.out j z h hz
          · obtain rfl : j = i := by omega
            rw [HP.out] at hz; injection hz with hz; rw [← hz]; exact hpx
        clear hp
        go_wp2_with fail
        go_roundw
        case rel => exact ⟨i + 1, by omega, by go_num, HI1.out, trivial⟩
        case measure => simp [RowKit.intOf]; omega
    · obtain rfl : i = n := by omega
      have HR : Hid (l.contains x = false) := by
        show _ = _
        cases hcx : l.contains x with
        | false => rfl
        | true =>
          obtain ⟨j, hj⟩ := List.getElem?_of_mem (show x ∈ l by simpa using hcx)
          exact absurd rfl (HI.out j x (by have := (List.getElem?_eq_some_iff.1 hj).1; have := HN.out; omega) hj)
      have hii : ¬ (i : Int) < (i : Int) := by omega
      go_wp2_with fail
      go_ret
      exact ⟨by rw [HCBB.out, HR.out]; rfl, rfl⟩
theorem Rd.take {w : World} {S : Nat → Prop} {A : Option Addr} {n cap k : Nat} {l : List Int} (h : Rd (Value.int .i64) w S (.slice A n cap) l) (hk : k ≤ n) : Rd (Value.int .i64) w S (.slice A k cap) (l.take k) := by
  obtain ⟨A', cap', e, h1, h2, h3⟩ := h
  injection e with e1 e2 e3
  subst e1 e2 e3
  refine ⟨A, cap, by rw [List.length_take, Nat.min_eq_left hk], by rw [List.length_take]; omega, h2, fun hne => ?_⟩
  obtain ⟨b, off, rfl, hb, hc⟩ := h3 (fun e => hne (by rw [e]; simp))
  exact ⟨b, off, rfl, hb, fun i hi => by rw [hc i (by rw [List.length_take] at hi; omega), List.getElem_take]⟩
/-- The missing ones below a station. -/
def missK (need l : List Int) (k : Nat) : List Int := ((List.range k).filter fun (s : Nat) => need.contains (s : Int) && !l.contains (s : Int)).map fun (s : Nat) => (s : Int)
theorem missK_32 (need l : List Int) : missK need l 32 = (missL need l).map fun (s : Nat) => (s : Int) := rfl
theorem missK_yes {need l : List Int} {k : Nat} (h : (need.contains (k : Int) && !l.contains (k : Int)) = true) : missK need l (k + 1) = missK need l k ++ [(k : Int)] := by
  unfold missK
  rw [List.range_succ, List.filter_append, List.map_append, List.filter_cons, if_pos h]
  rfl
theorem missK_no {need l : List Int} {k : Nat} (h : (need.contains (k : Int) && !l.contains (k : Int)) = false) : missK need l (k + 1) = missK need l k := by
  unfold missK
  rw [List.range_succ, List.filter_append, List.map_append, List.filter_cons, if_neg (by rw [h]; decide)]
  simp
theorem missK_len (need l : List Int) (k : Nat) : (missK need l k).length ≤ k := by
  unfold missK
  rw [List.length_map]
  exact Nat.le_trans (List.length_filter_le _ _) (by simp)
/-- What a call of Waiting leaves. -/
def WaitPost (w : World) (res : List Int × Int × Int) (r : Ending) (w' : World) : Prop := ∃ v, r = .returned (.tuple #[v, .int .i64 res.2.1, .int .i64 res.2.2]) ∧ Rd (Value.int .i64) w' (fun _ => True) v res.1 ∧ Below w.heap.size w w'
theorem rwaiting_any (v1 v2 : Value) (need reps : List Int) (w : World) (S T : Nat → Prop) (h1 : Rd (Value.int .i64) w S v1 need) (h2 : Rd (Value.int .i64) w T v2 reps) (hl : need.length ≤ 70 ∧ reps.length ≤ 70) :
    Calls Tryz.prog 16 #[v1, v2] w (WaitPost w (waitP need reps)) := by
  have HR1 := Lib.hid h1
  have HR2 := Lib.hid h2
  obtain ⟨A1, n1, c1, rfl, hn1, -⟩ := h1.open_
  obtain ⟨A2, n2, c2, rfl, hn2, hc2, -⟩ := h2.open_
  have HC2 := Lib.hid hc2
  have HN1 := Lib.hid hn1
  have HN2 := Lib.hid hn2
  have hb1 : n1 ≤ 70 := by omega
  have hb2 : n2 ≤ 70 := by omega
  have hbad : ∀ (n : Int) W, Below w.heap.size w W → waitP need reps = ([], 0, n) → WaitPost w (waitP need reps) (.returned (.tuple #[.slice none 0 0, .int .i64 0, .int .i64 n])) W := fun n W hW he => by
    rw [he]; exact ⟨_, rfl, Rd.none_ _ _ _, hW⟩
  have HBAD := Lib.hid hbad
  clear h1 h2 hn1 hn2 hl hbad hc2
  by_cases hs : 64 < n1 ∨ 64 < n2
  · have he : Hid (waitP need reps = ([], 0, 4)) := by show _ = _; unfold waitP; rw [if_pos (by rw [HN1.out, HN2.out]; exact hs)]
    by_cases hs1 : 64 < n1
    · have q1 : (64 : Int) < (n1 : Int) := by omega
      clear hs
      go_enter Tryz.func16, Tryz.ntmps16
      go_wp2_with fail
      go_ret3
      exact HBAD.out _ _ (Below.refl _ _) he.out
    · have q1 : ¬ (64 : Int) < (n1 : Int) := by omega
      have q2 : (64 : Int) < (n2 : Int) := by omega
      clear hs
      go_enter Tryz.func16, Tryz.ntmps16
      go_wp2_with fail
      go_ret3
      exact HBAD.out _ _ (Below.refl _ _) he.out
  have q1 : ¬ (64 : Int) < (n1 : Int) := by omega
  have q2 : ¬ (64 : Int) < (n2 : Int) := by omega
  obtain ⟨W1, HW1, HB1, HS1, j1⟩ := st_al0 w #[] 3
  have HJ1 := Lib.hid j1
  have HO1 : Hid (OwnI W1 w.heap.size (.slice (some ⟨w.heap.size, 0, none⟩) 0 0) []) := ⟨rfl, .inr ⟨_, 0, #[], rfl, Nat.le_refl _, HB1.out, Nat.le_refl _, by decide, rfl, rfl⟩⟩
  have HEB : Hid (¬ okSt (need ++ reps) → waitP need reps = ([], 0, 1)) := fun hh => by unfold waitP; rw [if_neg (by rw [HN1.out, HN2.out]; exact hs), if_pos hh]
  have HEK : Hid (okSt (need ++ reps) → waitP need reps = ((missL need reps).map fun (s : Nat) => (s : Int), atP need reps n2, 0)) := fun hh => by unfold waitP; rw [if_neg (by rw [HN1.out, HN2.out]; exact hs), if_neg (fun h => h hh), HN2.out]
  obtain ⟨n3, hn3⟩ : ∃ n, n = n1 + n2 := ⟨_, rfl⟩
  have HN3 := Lib.hid hn3
  clear hs j1 hn3
  go_enter Tryz.func16, Tryz.ntmps16
  go_wp2_with (at_builtin; first
    | (rw [← HW1.out]; refine wpList_appI (xs := []) rfl _ _ rfl rfl rfl rfl HN1.out (Nat.zero_add _) HO1.out (HR1.out.below HJ1.out) (by omega) HJ1.out.size ?_; intro A3 c3 W3 HO3 HG3; have HJ3 := Lib.hid (HJ1.out.trans (HG3.below HJ1.out.size (fun q hq => (World.ownsRow.lt HO1.out q hq).1))); replace HO3 := Lib.hid HO3; clear HG3)
    | (refine wpList_appI (q := n3) rfl _ _ rfl rfl rfl HN1.out HN2.out HN3.out.symm HO3.out (HR2.out.below HJ3.out) (by have := HN3.out; omega) HJ3.out.size ?_; intro A4 c4 W4 HO4 HG4; have HJ4 := Lib.hid (HJ3.out.trans (HG4.below HJ3.out.size (fun q hq => (World.ownsRow.lt HO3.out q hq).1))); replace HO4 := Lib.hid HO4; clear HG4))
  have HRA : Hid (Rd (Value.int .i64) W4 (fun _ => True) (.slice A4 n3 c4) (need ++ reps)) := HO4.out.rd
  have HLA : Hid ((need ++ reps).length = n3) := by show _ = _; rw [List.length_append, HN1.out, HN2.out, HN3.out]
  have hn3b : n3 ≤ 140 := by have := HN3.out; omega
  clear HO4 HO3 HJ3 HO1 HJ1 HW1 HB1 HS1
  obtain ⟨all, hall⟩ : ∃ a, a = need ++ reps := ⟨_, rfl⟩
  rw [← hall] at HRA HLA HEB HEK
  have HALL := Lib.hid hall
  clear hall
  have HCA := Lib.hid HRA.out.open_
  go_loopw [8] (fun iv wr => ∃ i : Nat, i ≤ n3 ∧ iv = .int .i64 (i : Int) ∧ Hid (∀ (j : Nat) z, j < i → all[j]? = some z → 0 ≤ z ∧ z ≤ 31) ∧ wr = W4) (fun iv _ => n3 - (RowKit.intOf iv).toNat)
  case atStart => exact ⟨0, Nat.zero_le _, rfl, fun j z h => absurd h (Nat.not_lt_zero _), rfl⟩
  case round =>
    obtain ⟨i, hi, rfl, HI, hw⟩ := hrel
    obtain rfl := hw.symm
    clear hw
    by_cases hlt : i < n3
    · obtain ⟨A', n', cap', he, -, -, -, hc⟩ := HCA.out
      injection he with he1 he2 he3
      subst he1 he2 he3
      obtain ⟨b, off, z, rfl, -, hz, hcell⟩ := hc i hlt
      have HZ := Lib.hid hz
      have hii : (i : Int) < (n3 : Int) := by omega
      have hi0 : (0 : Int) ≤ (i : Int) := by omega
      have hwi : IntKind.i64.wrap ((i : Int) + 1) = (i : Int) + 1 := IntWalk.i64_in _ (by omega)
      clear hz hc
      by_cases hz0 : z < 0
      · have hbad := HBAD.out 1 _ HJ4.out (HEB.out fun hh => by have := hh z (List.mem_of_getElem? HZ.out); omega)
        replace hbad := Lib.hid hbad
        go_wp2_with fail
        go_ret3
        exact hbad.out
      · by_cases hz1 : 31 < z
        · have hbad := HBAD.out 1 _ HJ4.out (HEB.out fun hh => by have := hh z (List.mem_of_getElem? HZ.out); omega)
          replace hbad := Lib.hid hbad
          go_wp2_with fail
          go_ret3
          exact hbad.out
        · have HI1 : Hid (∀ (j : Nat) y, j < i + 1 → all[j]? = some y → 0 ≤ y ∧ y ≤ 31) := fun j y hj hy => by
            rcases Nat.lt_or_ge j i with h | h
            · exact HI.out j y h hy
            · obtain rfl : j = i := by omega
              rw [HZ.out] at hy; injection hy with hy; omega
          go_wp2_with fail
          go_roundw
          case rel => exact ⟨i + 1, by omega, by go_num, HI1.out, trivial⟩
          case measure => simp [RowKit.intOf]; omega
    · obtain rfl : i = n3 := by omega
      have HOK : Hid (waitP need reps = ((missL need reps).map fun (s : Nat) => (s : Int), atP need reps n2, 0)) := HEK.out fun z hz => by
        obtain ⟨j, hj⟩ := List.getElem?_of_mem hz
        exact HI.out j z (by have := (List.getElem?_eq_some_iff.1 hj).1; have := HLA.out; omega) hj
      have hii : ¬ (i : Int) < (i : Int) := by omega
      clear HI HRA HCA HEB HEK HALL HLA hn3b
      go_wp2_with fail
      go_loopw [9, 10, 11] (fun nv _ _ wr => ∃ n : Nat, n ≤ n2 ∧ nv = .int .i64 (n : Int) ∧ Hid (∀ q, q < n → missL need (reps.take q) ≠ []) ∧ Hid (Below w.heap.size w wr)) (fun nv _ _ _ => n2 + 1 - (RowKit.intOf nv).toNat)
      case atStart => exact ⟨0, Nat.zero_le _, rfl, fun q h => absurd h (Nat.not_lt_zero _), HJ4.out⟩
      case round =>
        clear HJ4
        obtain ⟨n, hn, rfl, HNO, HJ⟩ := hrel
        obtain ⟨W5, HW5, HB5, HS5, j5⟩ := st_al0 wr #[] 3
        have HO5 : Hid (OwnI W5 w.heap.size (.slice (some ⟨wr.heap.size, 0, none⟩) 0 0) (missK need (reps.take n) 0)) := ⟨rfl, .inr ⟨_, 0, #[], rfl, HJ.out.size, HB5.out, Nat.le_refl _, by decide, rfl, rfl⟩⟩
        have HJ5 := kU HJ j5
        have hnn : (n : Int) ≤ (n2 : Int) := by omega
        have hn0 : (0 : Int) ≤ (n : Int) := by omega
        have hwn : IntKind.i64.wrap ((n : Int) + 1) = (n : Int) + 1 := IntWalk.i64_in _ (by omega)
        clear j5 HB5 HS5 HJ
        go_wp2_with fail
        rw [← HW5.out]
        go_loopw [10, 11] (fun rv sv w2 => ∃ (s m c5 : Nat) (A5 : Option Addr), s ≤ 32 ∧ sv = .int .i64 (s : Int) ∧ rv = .slice A5 m c5 ∧ Hid (m = (missK need (reps.take n) s).length) ∧ Hid (OwnI w2 w.heap.size (.slice A5 m c5) (missK need (reps.take n) s)) ∧ Hid (Below w.heap.size w w2)) (fun _ sv _ => 32 - (RowKit.intOf sv).toNat)
        case atStart => exact ⟨0, 0, 0, _, Nat.zero_le _, rfl, rfl, rfl, HO5.out, HJ5.out⟩
        case round =>
          clear HO5 HJ5 HW5
          obtain ⟨s, m, c5, A5, hs, rfl, rfl, HM, HO, HJ⟩ := hrel
          by_cases hs32 : s < 32
          · have hss : (s : Int) ≤ 31 := by omega
            have hws : IntKind.i64.wrap ((s : Int) + 1) = (s : Int) + 1 := IntWalk.i64_in _ (by omega)
            have HH1 := Lib.hid (rhas_any _ need (s : Int) wr _ (HR1.out.below HJ.out) (by have := HN1.out; omega))
            have HH2 := Lib.hid (rhas_any _ (reps.take n) (s : Int) wr _ ((HR2.out.below HJ.out).take hn) (by have := HN2.out; simp; omega))
            obtain ⟨b1, hb1'⟩ : ∃ b, b = need.contains (s : Int) := ⟨_, rfl⟩
            obtain ⟨b2, hb2'⟩ : ∃ b, b = (reps.take n).contains (s : Int) := ⟨_, rfl⟩
            rw [← hb1'] at HH1
            rw [← hb2'] at HH2
            have HB1 := Lib.hid hb1'
            have HB2 := Lib.hid hb2'
            have HML : Hid (m ≤ 100000) := by show _ ≤ _; have := HM.out; have := missK_len need (reps.take n) s; omega
            clear hb1' hb2'
            go_wp2_with fail
            refine HH1.out.mono ?_
            rintro e w7 ⟨rfl, hw⟩
            obtain rfl := hw.symm
            clear hw HH1
            cases b1 with
            | false =>
              have HY := Lib.hid (missK_no (need := need) (l := reps.take n) (k := s) (by rw [← HB1.out]; rfl))
              go_wp2_with fail
              go_roundw
              case rel => exact ⟨s + 1, m, c5, _, by omega, by go_num, rfl, by show _ = _; rw [HY.out]; exact HM.out, by show OwnI _ _ _ _; rw [HY.out]; exact HO.out, HJ.out⟩
              case measure => simp [RowKit.intOf]; omega
            | true =>
              have hnc : n ≤ c2 := Nat.le_trans hn HC2.out
              have hnc2 : ¬ (c2 : Int) < (n : Int) := by omega
              go_wp2_with fail
              refine HH2.out.mono ?_
              rintro e w7 ⟨rfl, hw⟩
              obtain rfl := hw.symm
              clear hw HH2
              cases b2 with
              | true =>
                have HY := Lib.hid (missK_no (need := need) (l := reps.take n) (k := s) (by rw [← HB1.out, ← HB2.out]; rfl))
                go_wp2_with fail
                go_roundw
                case rel => exact ⟨s + 1, m, c5, _, by omega, by go_num, rfl, by show _ = _; rw [HY.out]; exact HM.out, by show OwnI _ _ _ _; rw [HY.out]; exact HO.out, HJ.out⟩
                case measure => simp [RowKit.intOf]; omega
              | false =>
                have HY := Lib.hid (missK_yes (need := need) (l := reps.take n) (k := s) (by rw [← HB1.out, ← HB2.out]; rfl))
                go_wp2_with (at_builtin; refine wpList_pushI rfl _ _ rfl rfl rfl rfl rfl HM.out.symm HO.out HML.out HJ.out.size ?_; intro A8 c8 w8 HO8 HG8; replace HO8 := Lib.hid HO8; replace HG8 := Lib.hid HG8)
                go_roundw
                case rel => exact ⟨s + 1, m + 1, c8, _, by omega, by go_num, rfl, by show _ = _; rw [HY.out, List.length_append, ← HM.out]; rfl, by show OwnI _ _ _ _; rw [HY.out]; exact HO8.out, HJ.out.trans (HG8.out.below HJ.out.size (fun q hq => (World.ownsRow.lt HO.out q hq).1))⟩
                case measure => simp [RowKit.intOf]; omega
          · obtain rfl : s = 32 := by omega
            rw [missK_32] at HM HO
            have HML : Hid (m = (missL need (reps.take n)).length) := by show _ = _; rw [HM.out, List.length_map]
            by_cases hm : m = 0
            · have HNIL : Hid (missL need (reps.take n) = []) := List.length_eq_zero_iff.1 (by rw [← HML.out]; exact hm)
              have HALLN : Hid (missL need reps = []) := by
                have := miss_mono HNIL.out (reps.drop n)
                rwa [List.take_append_drop] at this
              have HAT := Lib.hid (at_yes HNIL.out HNO.out n2 hn)
              subst hm
              go_wp2_with fail
              go_ret3
              rw [HOK.out, HALLN.out, HAT.out]
              exact ⟨_, rfl, Rd.none_ _ _ _, HJ.out⟩
            · have hm0 : ¬ (m : Int) = 0 := by omega
              have hmb : ((m : Int) == 0) = false := beq_false_of_ne hm0
              have HNE : Hid (missL need (reps.take n) ≠ []) := fun e => hm (by rw [HML.out, e]; rfl)
              have HNO1 : Hid (∀ q, q < n + 1 → missL need (reps.take q) ≠ []) := fun q hq => by
                rcases Nat.lt_or_ge q n with h | h
                · exact HNO.out q h
                · obtain rfl : q = n := by omega
                  exact HNE.out
              by_cases hnl : n = n2
              · subst hnl
                have HAT := Lib.hid (at_no (need := need) (reps := reps) (k := n) fun q hq => HNO1.out q (by omega))
                have HTK : Hid (reps.take n = reps) := List.take_of_length_le (by rw [HN2.out]; exact Nat.le_refl _)
                go_wp2_with fail
                go_ret3
                rw [HOK.out, HAT.out]
                rw [HTK.out] at HO
                exact ⟨_, rfl, HO.out.rd, HJ.out⟩
              · have hnl2 : ¬ (n : Int) = (n2 : Int) := by omega
                have hnlb : ((n : Int) == (n2 : Int)) = false := beq_false_of_ne hnl2
                go_wp2_with fail
                go_roundw
                case rel => exact ⟨n + 1, by omega, by go_num, HNO1.out, HJ.out⟩
                case measure => simp [RowKit.intOf]; omega
end Go.Proofs.YtfondpakbiagjaaGreatDoor
