/- The walk of the reference's Certain. -/
import Derived.Test.YtlanephpmoajiaaCertPlain
namespace Go.Proofs.Ytlanephpmoajiaa
open Go.RowKit
set_option linter.unusedVariables false
/-- What the reference's Certain leaves. -/
def RefCertPost (w : World) (xs : List ItemD) (nm : ByteArray) (e : Ending) (w' : World) : Prop :=
  ((idx xs nm = none ∧ e = .returned (.tuple #[.slice none 0 0, .int .i64 5])) ∨ ∃ (i : Nat) (v : Value), idx xs nm = some i ∧ e = .returned (.tuple #[v, .int .i64 0]) ∧ Rd .string w' (w.heap.size ≤ ·) v (namesOf xs (certUp xs i xs.length))) ∧ Below w.heap.size w w'
theorem FromW.put {w wr : World} {g n c : Nat} {m : List Bool} (h : FromW w (.slice (some ⟨g, 0, none⟩) n c) n m wr) (hg : w.heap.size ≤ g) (i : Nat) (v : Bool) : FromW w (.slice (some ⟨g, 0, none⟩) n c) n (m.set i v) (wr.setCell ⟨g, i, none⟩ (.bool v)) :=
  ⟨by have := (h.1.stored i (.bool v)).1; rw [List.map_set]; exact this, h.2.setCell hg _⟩
theorem FromW.cells {w wr : World} {g n c : Nat} {m : List Bool} (h : FromW w (.slice (some ⟨g, 0, none⟩) n c) n m wr) {k : Nat} (hk : k < n) : wr.cell? ⟨g, k, none⟩ = some (.bool (m.getD k false)) ∧ wr.frozen? ⟨g, k, none⟩ = false := by
  obtain ⟨g', h1, h2, h3, h4, h5⟩ := h.at_ hk
  obtain rfl : g = g' := by simpa using h1
  exact ⟨h4, h5⟩
theorem all_take' {α : Type} {f : α → Bool} {xs : List α} {k : Nat} {x : α} (h : xs[k]? = some x) : (xs.take (k + 1)).all f = ((xs.take k).all f && f x) := by
  rw [take_snoc? h, List.all_append]; simp
set_option maxRecDepth 100000 in
set_option maxHeartbeats 4000000 in
theorem refCert_any (v : Value) (xs : List ItemD) (nm : ByteArray) (S : Nat → Prop) (w : World) (hv : RdI w S v xs) (hu : BookUq xs) (hne : BookNe xs) (hfd : Found xs) (hxl : xs.length ≤ 1024) :
    Calls Try.prog 38 #[v, .string nm] w (RefCertPost w xs nm) := by
  obtain ⟨i0, hi0, hz0, hz1, hz2⟩ := info_parts info4
  obtain ⟨j0, hj0, hy0, hy1, hy2⟩ := info_parts info9
  have HF := Lib.hid (refFind_any v xs S nm w hv)
  have HV := Lib.hid hv
  obtain ⟨A, n, cap, rfl, hn, hcap, hmax, hc⟩ := hv.lt.open_
  have HC := Lib.hid hc
  have HXL := Lib.hid hxl
  have HFD := Lib.hid hfd
  have hn1024 : n ≤ 1024 := by omega
  cases hi : idx xs nm with
  | none =>
    have hf : findI xs nm = -1 := by simp [findI, hi]
    rw [hf] at HF
    have HI := Lib.hid hi
    clear hf hi hn hv hxl hc hfd
    go_enter Try.func38, Try.ntmps38
    go_wp2_with (go_at_call 27; refine HF.out.mono ?_; rintro e w' ⟨rfl, rfl⟩)
    go_ret2
    exact ⟨.inl ⟨HI.out, rfl⟩, Below.refl _ _⟩
  | some i =>
    have hf : findI xs nm = i := by simp [findI, hi]
    have hil := idx_lt hi
    rw [hn] at hil
    rw [hf] at HF
    have HI := Lib.hid hi
    have HN := Lib.hid hn
    have hi1 : (0 : Int) ≤ (i : Int) := by omega
    have hi2 : (i : Int) < (n : Int) := by omega
    clear hf hi hn hv hxl hc hfd
    go_enter Try.func38, Try.ntmps38
    go_wp2_with (go_at_call 27; refine HF.out.mono ?_; rintro e w' ⟨rfl, rfl⟩)
    go_loopw [7, 8] (fun o iv wr => ∃ j : Nat, j ≤ i ∧ iv = .int .i64 j ∧ wr.ownsRow w.heap.size 9 1 o (namesOf (xs.take j) ((certUp xs i xs.length).take j)).length ((namesOf (xs.take j) ((certUp xs i xs.length).take j)).map Value.string) ∧ Below w.heap.size w wr) (fun _ iv _ => i - (intOf iv).toNat)
    case atStart => exact ⟨0, Nat.zero_le _, rfl, World.ownsRow_nil _ _ _ _, Below.refl _ _⟩
    case round =>
      obtain ⟨wa, rfl⟩ : ∃ wa : World, wa = wr := ⟨_, rfl⟩
      obtain ⟨j, hj, rfl, hown, hbel⟩ := hrel
      by_cases hlt : j < i
      · obtain ⟨b2, off2, x0, fx0, rfl, ⟨_, hbw2⟩, hx0, c0, -⟩ := HC.out j (by omega)
        have hjx : j < xs.length := by have := HN.out; omega
        have hma := certUp_all hu hne (i := i) (by have := HN.out; omega) hjx
        rw [decide_eq_true hlt, Bool.true_and] at hma
        have hsn := namesOf_snoc hx0 hma
        have hlen := namesOf_len xs (certUp xs i xs.length) j
        obtain ⟨L, hL⟩ : ∃ L, L = namesOf (xs.take j) ((certUp xs i xs.length).take j) := ⟨_, rfl⟩
        rw [← hL] at hsn hown hlen
        have hEQ := certB_eq hu (i := i) (j := j) (by have := HN.out; omega) hlt
        obtain ⟨mk, hmk⟩ : ∃ mk, mk = certB xs i j := ⟨_, rfl⟩
        rw [← hmk] at hsn hEQ
        have HEQ := Lib.hid hEQ
        have HSN := Lib.hid hsn
        have HOWN := Lib.hid hown
        have HBEL := Lib.hid hbel
        have HC0 := Lib.hid c0
        obtain ⟨xn, xk, xa, xf⟩ := x0
        have hj1 : (0 : Int) ≤ (j : Int) := by omega
        have hj2 : (j : Int) < (n : Int) := by omega
        obtain ⟨A7, c7, rfl⟩ := ownsRow_slice hown
        clear hL hx0 hma hmk hsn hEQ hown hbel c0
        go_wp2_with (at_make; refine wpList_make_full _ rfl _ _ 122 rfl wa.heap.size 4 i0 (.bool false) 1 Try.underlying122 hi0 hz0 hz1 .i64 .i64 (n : Int) (n : Int) n rfl rfl rfl rfl (by rw [hz2]; omega) (by unfold maxLen; omega) (by simp) ?_; intro w1 hown1 hgrow1; have hb1 : Below wa.heap.size wa w1 := (Below.refl _ wa).grown hgrow1 (Nat.le_refl _) (fun k hk => by simp at hk); have hF1 : FromW wa (.slice (some ⟨wa.heap.size, 0, none⟩) n n) n (List.replicate n false) w1 := ⟨(by have h := hown1; rw [made_false] at h; exact h), hb1⟩; obtain ⟨hcc, hff⟩ := hF1.cells (k := j) (by omega); have HF1 := Lib.hid hF1; clear hF1 hown1 hgrow1 hb1)
        have HF2 : Hid (FromW wa (.slice (some ⟨wa.heap.size, 0, none⟩) n n) n (rGo xs j 0) (w1.setCell ⟨wa.heap.size, j, none⟩ (.bool true))) := by
          have := HF1.out.store (Nat.le_refl _) j
          rw [rGo_zero, HN.out]
          exact this
        clear HF1 hcc hff
        go_loopw [10] (fun iv wr => ∃ d : Nat, j + 1 + d ≤ n ∧ iv = .int .i64 ((j + 1 + d : Nat) : Int) ∧ FromW wa (.slice (some ⟨wa.heap.size, 0, none⟩) n n) n (rGo xs j d) wr) (fun iv _ => n - (intOf iv).toNat)
        case atStart => exact ⟨0, by omega, by go_num, HF2.out⟩
        case round =>
          clear HF2
          obtain ⟨wb, rfl⟩ : ∃ wb : World, wb = wr := ⟨_, rfl⟩
          obtain ⟨d, hd, rfl, hF⟩ := hrel
          obtain ⟨k, hk⟩ : ∃ k, k = j + 1 + d := ⟨_, rfl⟩
          rw [← hk] at hd ⊢
          have HK := Lib.hid hk
          have HF3 := Lib.hid hF
          clear hk hF
          by_cases hkn : k < n
          · obtain ⟨b3, off3, x, fx, e3, ⟨_, hbw3⟩, hx, -, -, -, q3, hfr⟩ := HC.out k hkn
            obtain ⟨rfl, rfl⟩ : b2 = b3 ∧ off2 = off3 := by simpa using e3
            obtain ⟨vs, hvs, hlen3, hin⟩ := hfr.lt
            obtain ⟨A4, n4, cap4, rfl, hn4, hcap4, hmax4, hc4⟩ := hvs.open_
            have HX := Lib.hid hx
            have HC4 := Lib.hid hc4
            have HIN := Lib.hid hin
            have HN4 : Hid (x.frm.length = n4) := by unfold Hid; omega
            have HQ3 := Lib.hid q3
            have hk1 : (k : Int) < (n : Int) := by omega
            have hk0 : (0 : Int) ≤ (k : Int) := by omega
            have HFZ : Hid (FromW wa (.slice (some ⟨wa.heap.size, 0, none⟩) n n) n (rMid xs j d x 0) wb) := by rw [rMid_zero x hjx]; exact HF3.out
            clear hx hc4 hin hn4 hlen3 q3 hvs hfr e3 HF3
            go_wp2_with fail
            go_loopw [11] (fun iv wr => ∃ a : Nat, a ≤ n4 ∧ iv = .int .i64 a ∧ FromW wa (.slice (some ⟨wa.heap.size, 0, none⟩) n n) n (rMid xs j d x a) wr) (fun iv _ => n4 - (intOf iv).toNat)
            case atStart => exact ⟨0, Nat.zero_le _, rfl, HFZ.out⟩
            case round =>
              clear HFZ
              obtain ⟨wc, rfl⟩ : ∃ wc : World, wc = wr := ⟨_, rfl⟩
              obtain ⟨a, ha, rfl, hF⟩ := hrel
              have HF4 := Lib.hid hF
              have HBC : Hid (Below w.heap.size w wc) := HBEL.out.trans (hF.2.mono HBEL.out.size)
              have s3 : wc.cell? ⟨b2, off2 + k * 4 + 3, none⟩ = some (.slice A4 n4 cap4) := (HBC.out.cell (p := ⟨b2, _, none⟩) hbw2).trans HQ3.out
              clear hF
              by_cases han : a < n4
              · obtain ⟨b5, off5, u, rfl, ⟨_, hbw5⟩, hu5, hcell5⟩ := HC4.out a han
                obtain ⟨c, hcc⟩ : ∃ c, x.frm[a]? = some c := ⟨x.frm[a]'(by have := HN4.out; omega), List.getElem?_eq_getElem _⟩
                obtain ⟨u', hu5', hrd⟩ := HIN.out a c hcc
                obtain rfl := Option.some.inj (hu5.symm.trans hu5')
                obtain ⟨A6, n6, cap6, rfl, hn6, hcap6, hmax6, hc6⟩ := hrd.lt.open_
                have HC6 := Lib.hid hc6
                have HN6 := Lib.hid hn6
                have HCC := Lib.hid hcc
                have s4 : wc.cell? ⟨b5, off5 + a, none⟩ = some (.slice A6 n6 cap6) := (HBC.out.cell (p := ⟨b5, _, none⟩) hbw5).trans hcell5
                have a1 : (a : Int) < (n4 : Int) := by omega
                have a0 : (0 : Int) ≤ (a : Int) := by omega
                clear hu5 hu5' hcc hrd hc6 hn6 hcell5
                go_wp2_with fail
                go_loop [12, 13] (fun all q => ∃ e : Nat, e ≤ n6 ∧ q = .int .i64 e ∧ all = .bool ((c.take e).all (cOk xs (cGo xs j xs.length d) j))) (fun _ q => n6 - (intOf q).toNat)
                case atStart => exact ⟨0, Nat.zero_le _, rfl, by simp⟩
                case round =>
                  obtain ⟨e, he, rfl, rfl⟩ := hrel
                  by_cases hen : e < n6
                  · obtain ⟨b7, off7, nm7, rfl, ⟨_, hbw7⟩, hnm7, hcell7⟩ := HC6.out e hen
                    obtain ⟨t, ht, htk⟩ := hu.ord k x HX.out c (mem_of_get? HCC.out) nm7 (mem_of_get? hnm7)
                    have htn : t < n := by omega
                    have s5 : wc.cell? ⟨b7, off7 + e, none⟩ = some (.string nm7) := (HBC.out.cell (p := ⟨b7, _, none⟩) hbw7).trans hcell7
                    have hFI := refFind_any (.slice (some ⟨b2, off2, none⟩) n cap) xs S nm7 wc (HV.out.below HBC.out)
                    rw [show findI xs nm7 = t from by simp [findI, ht]] at hFI
                    have HFI := Lib.hid hFI
                    obtain ⟨s6, -⟩ := HF4.out.cells htn
                    rw [rMid_get (by have := HK.out; omega), rGo_cOk hjx ht] at s6
                    have HAL := Lib.hid (all_take' (f := cOk xs (cGo xs j xs.length d) j) hnm7)
                    obtain ⟨p, hp⟩ : ∃ p, p = cOk xs (cGo xs j xs.length d) j nm7 := ⟨_, rfl⟩
                    rw [← hp] at s6 HAL
                    obtain ⟨r, hr⟩ : ∃ r, r = (c.take e).all (cOk xs (cGo xs j xs.length d) j) := ⟨_, rfl⟩
                    rw [← hr] at HAL ⊢
                    have t1 : (t : Int) < (n : Int) := by omega
                    have t0 : (0 : Int) ≤ (t : Int) := by omega
                    have q1 : (e : Int) < (n6 : Int) := by omega
                    have q0 : (0 : Int) ≤ (e : Int) := by omega
                    clear hp hr hFI hnm7 hcell7 ht
                    cases r with
                    | false =>
                      go_wp2_with fail
                      go_round
                      case rel => exact ⟨e + 1, by omega, by go_num, by rw [HAL.out]; rfl⟩
                      case measure => simp [intOf]; omega
                    | true =>
                      go_wp2_with (go_at_call 27; refine HFI.out.mono ?_; rintro e w' ⟨rfl, rfl⟩)
                      go_round
                      case rel => exact ⟨e + 1, by omega, by go_num, by rw [HAL.out]; rfl⟩
                      case measure => simp [intOf]; omega
                  · have hct : c.take e = c := List.take_of_length_le (by have := HN6.out; omega)
                    rw [hct]
                    obtain ⟨s7, s8⟩ := HF4.out.cells hkn
                    rw [show (rMid xs j d x a).getD k false = (x.frm.take a).any (fun c => c.all (cOk xs (cGo xs j xs.length d) j)) from by rw [HK.out]; exact rMid_self (by have := HK.out; have := HN.out; omega)] at s7
                    have HSC := Lib.hid (rMid_succ (xs := xs) (j := j) (d := d) HCC.out)
                    rw [← HK.out] at HSC
                    obtain ⟨p, hp⟩ : ∃ p, p = c.all (cOk xs (cGo xs j xs.length d) j) := ⟨_, rfl⟩
                    obtain ⟨r, hr⟩ : ∃ r, r = (x.frm.take a).any (fun c => c.all (cOk xs (cGo xs j xs.length d) j)) := ⟨_, rfl⟩
                    rw [← hp, ← hr] at HSC
                    rw [← hr] at s7
                    rw [← hp]
                    have HF5 := Lib.hid (HF4.out.put (Nat.le_refl _) k (r || p))
                    rw [← HSC.out] at HF5
                    clear hct hp hr
                    cases r with
                    | false =>
                      go_wp2_with fail
                      go_roundw
                      case rel => exact ⟨a + 1, by omega, by go_num, HF5.out⟩
                      case measure => simp [intOf]; omega
                    | true =>
                      go_wp2_with fail
                      go_roundw
                      case rel => exact ⟨a + 1, by omega, by go_num, HF5.out⟩
                      case measure => simp [intOf]; omega
              · have hre : rMid xs j d x a = rGo xs j (d + 1) := rMid_end (by rw [← HK.out]; exact HX.out) (by have := HN4.out; omega)
                have HF6 : Hid (FromW wa (.slice (some ⟨wa.heap.size, 0, none⟩) n n) n (rGo xs j (d + 1)) wc) := by rw [← hre]; exact HF4.out
                clear hre HF4
                go_wp2_with fail
                go_roundw
                case rel => exact ⟨d + 1, by have := HK.out; omega, by rw [HK.out]; go_num, HF6.out⟩
                case measure => simp [intOf]; omega
          · obtain ⟨s1, -⟩ := HF3.out.cells hil
            rw [rGo_at hjx, decide_eq_false (by omega), Bool.false_or, show d = xs.length - j - 1 from by have := HN.out; have := HK.out; omega, HEQ.out] at s1
            have HB3 := Lib.hid HF3.out.2
            have d0 : wb.cell? ⟨b2, off2 + j * 4, none⟩ = some (.string xn) := ((HBEL.out.trans (HB3.out.mono HBEL.out.size)).cell (p := ⟨b2, _, none⟩) hbw2).trans HC0.out
            have HO3 := Lib.hid (HOWN.out.kept (row := none) ⟨HB3.out.os, HB3.out.tape, HB3.out.output, HB3.out.size, fun k hk _ => HB3.out.block k hk⟩ (Classical.em _))
            have HBL3 := Lib.hid (HBEL.out.trans (HB3.out.mono HBEL.out.size))
            clear HF3
            cases mk with
            | false =>
              go_wp2_with fail
              go_roundw
              case rel => exact ⟨j + 1, by omega, by go_num, by rw [HSN.out]; simpa using HO3.out, HBL3.out⟩
              case measure => simp [intOf]; omega
            | true =>
              have hown3 := HO3.out
              have hszw := HBL3.out.size
              go_wp2_with (at_builtin; refine wpList_append_own _ rfl _ _ 52 rfl w.heap.size 9 j0 (.string ⟨#[]⟩) 1 16 Try.underlying52 hj0 hy0 hy1 hy2 rfl (by decide) _ _ _ rfl (hown3.alloc _) ⟨wb.heap.size, 0, none⟩ 1 1 [.string xn] rfl rfl (cell_one_new _ _ _) (fun u hu => by simp at hu; subst hu; rfl) (by unfold maxLen; omega) (by omega) (by simp; omega) ?_; intro v' w4 hown' hgrow _)
              have hg := grown_below HO3.out hgrow hszw
              go_roundw
              case rel => exact ⟨j + 1, by omega, by go_num, by rw [HSN.out]; simp only [reduceIte]; rw [List.map_append, List.length_append]; exact hown', HBL3.out.trans hg.1⟩
              case measure => simp [intOf]; omega
      · have hji : j = i := by omega
        have HO := Lib.hid hown
        have HJ := Lib.hid hji
        clear hown hji
        go_wp2_with fail
        go_ret2
        have ho := HO.out
        rw [HJ.out] at ho
        refine ⟨.inr ⟨i, _, HI.out, rfl, ?_⟩, hbel⟩
        rw [certUp_cut hu hne (by have := HN.out; omega)]
        exact Rd.of_own ho
end Go.Proofs.Ytlanephpmoajiaa
