/- The walk of the reference's Sources. -/
import Derived.Test.YtlanephpmoajiaaSources
namespace Go.Proofs.Ytlanephpmoajiaa
open Go.RowKit
set_option linter.unusedVariables false
theorem namesOf_cut {xs : List ItemD} {ms : List Bool} (hl : ms.length = xs.length) {i : Nat} (h : ∀ k, i ≤ k → k < xs.length → ms.getD k false = false) : namesOf xs ms = namesOf (xs.take i) (ms.take i) := by
  have key : ∀ d, namesOf (xs.take (i + d)) (ms.take (i + d)) = namesOf (xs.take i) (ms.take i) := by
    intro d
    induction d with
    | zero => rfl
    | succ d ih =>
      rcases Nat.lt_or_ge (i + d) xs.length with h1 | h1
      · have hx : xs[i + d]? = some xs[i + d] := List.getElem?_eq_getElem h1
        have hm : ms[i + d]? = some (ms[i + d]'(by omega)) := List.getElem?_eq_getElem (by omega)
        have hf := h (i + d) (by omega) h1
        rw [List.getD_eq_getElem?_getD, hm, Option.getD_some] at hf
        rw [hf] at hm
        rw [← Nat.add_assoc, namesOf_snoc hx hm, ih]
        simp
      · rw [← Nat.add_assoc, List.take_of_length_le (by omega : xs.length ≤ i + d + 1), List.take_of_length_le (by omega : ms.length ≤ i + d + 1)]
        rw [List.take_of_length_le (by omega : xs.length ≤ i + d), List.take_of_length_le (by omega : ms.length ≤ i + d)] at ih
        exact ih
  have := key xs.length
  rw [List.take_of_length_le (by omega : xs.length ≤ i + xs.length), List.take_of_length_le (by omega : ms.length ≤ i + xs.length)] at this
  exact this
theorem ancMs_cut {xs : List ItemD} (h : BookUq xs) {i : Nat} (hi : i < xs.length) : namesOf xs (ancMs xs i) = namesOf (xs.take i) ((ancMs xs i).take i) :=
  namesOf_cut (ancMs_len _ _) fun k hk hkl => by
    cases hq : (ancMs xs i).getD k false with
    | false => rfl
    | true => have := ((ancMs_iff h hi hkl).1 hq).lt h; omega
theorem fromSrc_eq {xs : List ItemD} (h : BookUq xs) {i j : Nat} (hi : i < xs.length) (hj : j < i) : (fromGo xs ((List.replicate xs.length false).set j true) xs.length).getD i false = (ancMs xs i).getD j false := by
  rw [Bool.eq_iff_iff, from_one h hi, ancMs_iff h hi (by omega)]
  constructor
  · rintro (rfl | h1)
    · omega
    · exact h1
  · exact .inr
/-- What the reference's Sources leaves. -/
def RefSrcPost (w : World) (xs : List ItemD) (nm : ByteArray) (e : Ending) (w' : World) : Prop :=
  ((idx xs nm = none ∧ e = .returned (.tuple #[.slice none 0 0, .int .i64 5])) ∨ ∃ (i : Nat) (v : Value), idx xs nm = some i ∧ e = .returned (.tuple #[v, .int .i64 0]) ∧ Rd .string w' (w.heap.size ≤ ·) v (namesOf xs (ancMs xs i))) ∧ Below w.heap.size w w'
set_option maxRecDepth 100000 in
set_option maxHeartbeats 2000000 in
theorem refSrc_any (v : Value) (xs : List ItemD) (nm : ByteArray) (S : Nat → Prop) (w : World) (hv : RdI w S v xs) (hu : BookUq xs) (hxl : xs.length ≤ 1024) :
    Calls Try.prog 36 #[v, .string nm] w (RefSrcPost w xs nm) := by
  obtain ⟨i0, hi0, hz0, hz1, hz2⟩ := info_parts info4
  obtain ⟨j0, hj0, hy0, hy1, hy2⟩ := info_parts info9
  have HF := Lib.hid (refFind_any v xs S nm w hv)
  have HV := Lib.hid hv
  obtain ⟨A, n, cap, rfl, hn, hcap, hmax, hc⟩ := hv.lt.open_
  have HC := Lib.hid hc
  have HXL := Lib.hid hxl
  have hn1024 : n ≤ 1024 := by omega
  cases hi : idx xs nm with
  | none =>
    have hf : findI xs nm = -1 := by simp [findI, hi]
    rw [hf] at HF
    have HI := Lib.hid hi
    clear hf hi hn hv hxl hc
    go_enter Try.func36, Try.ntmps36
    go_wp2_with (go_at_call 27; refine HF.out.mono ?_; rintro e w' ⟨rfl, rfl⟩)
    go_ret2
    exact ⟨.inl ⟨HI.out, rfl⟩, Below.refl _ _⟩
  | some i =>
    have hf : findI xs nm = i := by simp [findI, hi]
    have hil := idx_lt hi
    rw [hn] at hil
    rw [hf] at HF
    have HI := Lib.hid hi
    have HN := Lib.hid hn
    have hi1 : (0 : Int) ≤ (i : Int) := by omega
    have hi2 : (i : Int) < (n : Int) := by omega
    clear hf hi hn hv hxl hc
    go_enter Try.func36, Try.ntmps36
    go_wp2_with (go_at_call 27; refine HF.out.mono ?_; rintro e w' ⟨rfl, rfl⟩)
    go_loopw [7, 8] (fun o iv wr => ∃ j : Nat, j ≤ i ∧ iv = .int .i64 j ∧ wr.ownsRow w.heap.size 9 1 o (namesOf (xs.take j) ((ancMs xs i).take j)).length ((namesOf (xs.take j) ((ancMs xs i).take j)).map Value.string) ∧ Below w.heap.size w wr) (fun _ iv _ => i - (intOf iv).toNat)
    case atStart => exact ⟨0, Nat.zero_le _, rfl, World.ownsRow_nil _ _ _ _, Below.refl _ _⟩
    case round =>
      obtain ⟨j, hj, rfl, hown, hbel⟩ := hrel
      by_cases hlt : j < i
      · obtain ⟨b2, off2, x, fx, rfl, ⟨_, hbw2⟩, hx, c0, -⟩ := HC.out j (by omega)
        have hma : (ancMs xs i)[j]? = some ((ancMs xs i).getD j false) := by
          rw [List.getD_eq_getElem?_getD, List.getElem?_eq_getElem (by rw [ancMs_len]; have := HN.out; omega)]; rfl
        have hsn := namesOf_snoc hx hma
        have hlen := namesOf_len xs (ancMs xs i) j
        obtain ⟨L, hL⟩ : ∃ L, L = namesOf (xs.take j) ((ancMs xs i).take j) := ⟨_, rfl⟩
        rw [← hL] at hsn hown hlen
        have hEQ := fromSrc_eq hu (i := i) (j := j) (by have := HN.out; omega) hlt
        obtain ⟨mk, hmk⟩ : ∃ mk, mk = (ancMs xs i).getD j false := ⟨_, rfl⟩
        rw [← hmk] at hsn hEQ
        have HEQ := Lib.hid hEQ
        have HSN := Lib.hid hsn
        have HOWN := Lib.hid hown
        have HBEL := Lib.hid hbel
        have HC0 := Lib.hid c0
        obtain ⟨xn, xk, xa, xf⟩ := x
        have hj1 : (0 : Int) ≤ (j : Int) := by omega
        have hj2 : (j : Int) < (n : Int) := by omega
        obtain ⟨A7, c7, rfl⟩ := ownsRow_slice hown
        clear hL hx hma hmk hsn hEQ hown hbel c0
        go_wp2_with (at_make; refine wpList_make_full _ rfl _ _ 122 rfl wr.heap.size 4 i0 (.bool false) 1 Try.underlying122 hi0 hz0 hz1 .i64 .i64 (n : Int) (n : Int) n rfl rfl rfl rfl (by rw [hz2]; omega) (by unfold maxLen; omega) (by simp) ?_; intro w1 hown1 hgrow1; have hb1 : Below wr.heap.size wr w1 := (Below.refl _ wr).grown hgrow1 (Nat.le_refl _) (fun k hk => by simp at hk); have hF1 : FromW wr (.slice (some ⟨wr.heap.size, 0, none⟩) n n) n (List.replicate n false) w1 := ⟨(by have h := hown1; rw [made_false] at h; exact h), hb1⟩; obtain ⟨g0, hg0, -, -, hcc, hff⟩ := hF1.at_ (k := j) (by omega); simp only [Option.some.injEq, Addr.mk.injEq, and_true] at hg0; subst hg0; have HF1 := Lib.hid hF1; clear hF1 hown1 hgrow1 hb1)
        have hF2 := HF1.out.store (Nat.le_refl _) j
        have HF2 := Lib.hid hF2
        clear hF2 HF1
        obtain ⟨W2, hW2⟩ : ∃ W2, W2 = w1.setCell ⟨wr.heap.size, j, none⟩ (.bool true) := ⟨_, rfl⟩
        rw [← hW2] at HF2 ⊢
        clear hW2 hcc hff
        have hlm : ((List.replicate n false).set j true).length = xs.length := by rw [List.length_set, List.length_replicate]; exact HN.out.symm
        have HBW2 : Hid (Below w.heap.size w W2) := HBEL.out.trans (HF2.out.2.mono HBEL.out.size)
        refine (from_any _ _ xs ((List.replicate n false).set j true) S (wr.heap.size ≤ ·) W2 (HV.out.below HBW2.out) (Rd.of_own HF2.out.1) hlm HXL.out).mono ?_
        rintro e w3 ⟨⟨v3, rfl, ho3⟩, hb3⟩
        rw [HN.out] at ho3
        obtain ⟨A3, c3, rfl⟩ := ownsRow_slice ho3
        obtain ⟨g3, hA3, -, -, hcc3, -⟩ := FromW.at_ (w := W2) ⟨ho3, hb3⟩ hil
        subst hA3
        rw [show (fromGo xs ((List.replicate n false).set j true) n).getD i false = mk from by have h1 := HEQ.out; rw [HN.out] at h1; exact h1] at hcc3
        have HB3 : Hid (Below wr.heap.size wr w3) := HF2.out.2.trans (hb3.mono HF2.out.2.size)
        have d0 : w3.cell? ⟨b2, off2 + j * 4, none⟩ = some (.string xn) := ((HBEL.out.trans (HB3.out.mono HBEL.out.size)).cell (p := ⟨b2, _, none⟩) hbw2).trans HC0.out
        have HO3 := Lib.hid (HOWN.out.kept (row := none) ⟨HB3.out.os, HB3.out.tape, HB3.out.output, HB3.out.size, fun k hk _ => HB3.out.block k hk⟩ (Classical.em _))
        have HBL3 := Lib.hid (HBEL.out.trans (HB3.out.mono HBEL.out.size))
        clear ho3 hb3 hlm
        cases mk with
        | false =>
          go_wp2_with fail
          go_roundw
          case rel => exact ⟨j + 1, by omega, by go_num, by rw [HSN.out]; simpa using HO3.out, HBL3.out⟩
          case measure => simp [intOf]; omega
        | true =>
          have hown3 := HO3.out
          have hszw := HBL3.out.size
          go_wp2_with (at_builtin; refine wpList_append_own _ rfl _ _ 52 rfl w.heap.size 9 j0 (.string ⟨#[]⟩) 1 16 Try.underlying52 hj0 hy0 hy1 hy2 rfl (by decide) _ _ _ rfl (hown3.alloc _) ⟨w3.heap.size, 0, none⟩ 1 1 [.string xn] rfl rfl (cell_one_new _ _ _) (fun u hu => by simp at hu; subst hu; rfl) (by unfold maxLen; omega) (by omega) (by simp; omega) ?_; intro v' w4 hown' hgrow _)
          have hg := grown_below HO3.out hgrow hszw
          go_roundw
          case rel => exact ⟨j + 1, by omega, by go_num, by rw [HSN.out]; simp only [reduceIte]; rw [List.map_append, List.length_append]; exact hown', HBL3.out.trans hg.1⟩
          case measure => simp [intOf]; omega
      · have hji : j = i := by omega
        have HO := Lib.hid hown
        have HJ := Lib.hid hji
        clear hown hji
        go_wp2_with fail
        go_ret2
        have ho := HO.out
        rw [HJ.out] at ho
        refine ⟨.inr ⟨i, _, HI.out, rfl, ?_⟩, hbel⟩
        rw [ancMs_cut hu (by have := HN.out; omega)]
        exact Rd.of_own ho
end Go.Proofs.Ytlanephpmoajiaa
