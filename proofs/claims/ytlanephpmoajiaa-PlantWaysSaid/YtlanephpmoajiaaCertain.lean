/- The walk of Book.Certain. -/
import Derived.Test.YtlanephpmoajiaaHolds
namespace Go.Proofs.Ytlanephpmoajiaa
open Go.RowKit
set_option linter.unusedVariables false
/-- Is place k in item i for certain? -/
def certB (xs : List ItemD) (i k : Nat) : Bool := (cGo xs k (i + 1) (i - k)).getD i false
/-- The marks while the first j places have been looked at. -/
def certUp (xs : List ItemD) (i j : Nat) : List Bool := (ancMs xs i).mapIdx (fun t b => if t < j then b && certB xs i t else b)
theorem certUp_len (xs : List ItemD) (i j : Nat) : (certUp xs i j).length = xs.length := by unfold certUp; rw [List.length_mapIdx, ancMs_len]
theorem certUp_get (xs : List ItemD) (i j t : Nat) : (certUp xs i j)[t]? = (ancMs xs i)[t]?.map (fun b => if t < j then b && certB xs i t else b) := by unfold certUp; rw [List.getElem?_mapIdx]
theorem certUp_zero (xs : List ItemD) (i : Nat) : certUp xs i 0 = ancMs xs i := by
  refine List.ext_getElem? fun t => ?_
  rw [certUp_get]
  cases (ancMs xs i)[t]? <;> simp
theorem certUp_at {xs : List ItemD} {i j : Nat} (hj : j < xs.length) : (certUp xs i j).getD j false = (ancMs xs i).getD j false := by
  rw [List.getD_eq_getElem?_getD, certUp_get, List.getD_eq_getElem?_getD]
  rw [List.getElem?_eq_getElem (by rw [ancMs_len]; exact hj)]
  simp
theorem certUp_succ {xs : List ItemD} {i j : Nat} (hj : j < xs.length) {v : Bool} (hv : v = ((ancMs xs i).getD j false && certB xs i j)) : (certUp xs i j).set j v = certUp xs i (j + 1) := by
  refine List.ext_getElem? fun t => ?_
  rw [List.getElem?_set, certUp_get, certUp_get, certUp_len]
  by_cases h : j = t
  · subst h
    rw [if_pos rfl, if_pos hj, List.getElem?_eq_getElem (by rw [ancMs_len]; exact hj)]
    rw [hv, List.getD_eq_getElem?_getD, List.getElem?_eq_getElem (by rw [ancMs_len]; exact hj)]
    simp
  · rw [if_neg h]
    cases (ancMs xs i)[t]? with
    | none => rfl
    | some b =>
      simp only [Option.map_some]
      by_cases h2 : t < j
      · rw [if_pos h2, if_pos (by omega)]
      · rw [if_neg h2, if_neg (by omega)]
/-- The marks of what is in an item for certain. -/
def certMs (xs : List ItemD) (nm : ByteArray) : List Bool := match idx xs nm with | some i => certUp xs i xs.length | none => []
/-- What Certain leaves. -/
def CertainNames (w : World) (xs : List ItemD) (nm : ByteArray) (e : Ending) (w' : World) : Prop :=
  (∃ v, e = .returned (.tuple #[v, .int .i64 (findErr xs nm)]) ∧ Rd .string w' (w.heap.size ≤ ·) v (if findErr xs nm = 0 then namesOf xs (certMs xs nm) else [])) ∧ Below w.heap.size w w'
theorem Marks.put {w0 wr : World} {g n cap : Nat} {m : List Bool} (h : Marks w0 g n cap m wr) (hg : w0.heap.size ≤ g) (k : Nat) (v : Bool) : Marks w0 g n cap (m.set k v) (wr.setCell ⟨g, k, none⟩ (.bool v)) :=
  ⟨by have := (h.own.stored k (.bool v)).1; rw [List.map_set]; exact this, h.bel.setCell hg _⟩
theorem Marks.later {w0 wr w2 : World} {g n cap : Nat} {m : List Bool} (h : Marks w0 g n cap m wr) (hb : Below wr.heap.size wr w2) : Marks w0 g n cap m w2 :=
  ⟨h.own.kept (row := none) ⟨hb.os, hb.tape, hb.output, hb.size, fun k hk _ => hb.block k hk⟩ (Classical.em _), h.bel.trans (hb.mono h.bel.size)⟩
set_option maxRecDepth 100000 in
set_option maxHeartbeats 2000000 in
theorem Certain_any (p : Value) (B : Nat) (F : Nat → Prop) (xs : List ItemD) (nm : ByteArray) (w : World) (hb : Bk w B p F xs) (hfd : Found xs) (hu : BookUq xs) (hxl : xs.length ≤ 1024) (hnm : nm.size ≤ maxLen) :
    Calls Try.prog 37 #[p, .string nm] w (CertainNames w xs nm) := by
  obtain ⟨i0, hi0, hz0, hz1, hz2⟩ := info_parts info4
  have HFI := Lib.hid (find_any p B F xs nm w hb hnm)
  have HB := Lib.hid hb
  obtain ⟨bb, vi, r, fs, rfl, hbk⟩ := hb
  have hna := fun w' v ms (h : Below w.heap.size w w') (hr : Rd .bool w' (w.heap.size ≤ ·) v ms) (hl : ms.length = xs.length) => names_any (.pointer (some ⟨bb, 0, none⟩)) B F xs v ms _ w' (HB.out.below h) hr hl hxl
  have HNA := Lib.hid hna
  clear hna
  cases hi : idx xs nm with
  | none =>
    have hf : findErr xs nm = 5 := by simp [findErr, hi]
    have hx : idxI xs nm = 0 := by simp [idxI, hi]
    rw [hf, hx] at HFI
    have HF := Lib.hid hf
    clear hi hf hx hbk
    go_enter Try.func37, Try.ntmps37
    go_wp2_with (go_at_call 56; refine HFI.out.mono ?_; rintro e w' ⟨rfl, rfl⟩)
    go_ret2
    refine ⟨⟨_, by rw [HF.out]; rfl, ?_⟩, Below.refl _ _⟩
    rw [HF.out, if_neg (by decide)]
    exact Rd.none_ _ _ _
  | some i =>
    have hf : findErr xs nm = 0 := by simp [findErr, hi]
    have hx : idxI xs nm = i := by simp [idxI, hi]
    have hil := idx_lt hi
    rw [hf, hx] at HFI
    have HF := Lib.hid hf
    have HMS : Hid (certMs xs nm = certUp xs i xs.length) := by unfold certMs Hid; simp only [hi]
    obtain ⟨A, cp, rfl⟩ := ownsRow_slice hbk.own
    have e0 := hbk.cell0
    obtain ⟨n, hn⟩ : ∃ n, n = xs.length := ⟨_, rfl⟩
    rw [← hn] at e0 hil HMS
    have hn1024 : n ≤ 1024 := by omega
    have HN := Lib.hid hn
    have HGA := Lib.hid (fun (w1 : World) (hM : Marks w w.heap.size n n (List.replicate n false) w1) => gather_any (.pointer (some ⟨bb, 0, none⟩)) B F xs w HB.out hfd hu hxl w.heap.size n n (Nat.le_refl _) hn i (List.replicate n false) w1 hil (by simp) (by rw [hn]; exact clB_none xs i) hM)
    have hi1 : (0 : Int) ≤ (i : Int) := by omega
    have hi2 : (i : Int) < (i : Int) + 1 := by omega
    clear hi hf hx hbk hn
    go_enter Try.func37, Try.ntmps37
    go_wp2_with (first | (go_at_call 56; refine HFI.out.mono ?_; rintro e w' ⟨rfl, rfl⟩) | (at_make; refine wpList_make_full _ rfl _ _ 122 rfl w.heap.size 4 i0 (.bool false) 1 Try.underlying122 hi0 hz0 hz1 .i64 .i64 (n : Int) (n : Int) n rfl rfl rfl rfl (by rw [hz2]; omega) (by unfold maxLen; omega) (by simp) ?_; intro w1 hown hgrow; have hb1 : Below w.heap.size w w1 := (Below.refl _ w).grown hgrow (Nat.le_refl _) (fun k hk => by simp at hk); have HM1 := Lib.hid (Marks.new hown hb1); clear hown hgrow hb1))
    refine (HGA.out w1 HM1.out).mono ?_
    rintro e w2 ⟨⟨v, rfl⟩, m', hg, ho, hb2⟩
    have hma : m' = ancMs xs i := gath_all hu (by have := HN.out; omega) (by rw [← HN.out]; exact hg)
    subst hma
    have HM2 : Hid (Marks w w.heap.size n n (certUp xs i 0) w2) := by rw [certUp_zero]; exact ⟨ho, hb2⟩
    clear hg ho hb2
    go_wp2_with fail
    go_loopw [32] (fun iv wr => ∃ j : Nat, j ≤ n ∧ iv = .int .i64 j ∧ Marks w w.heap.size n n (certUp xs i j) wr) (fun iv _ => n - (intOf iv).toNat)
    case atStart => exact ⟨0, Nat.zero_le _, rfl, HM2.out⟩
    case round =>
      clear HM2
      obtain ⟨j, hj, rfl, hM⟩ := hrel
      by_cases hlt : j < n
      · obtain ⟨c0, f0⟩ := hM.at_ hlt
        rw [certUp_at (by have := HN.out; omega)] at c0
        have hnext := fun v (hv : v = ((ancMs xs i).getD j false && certB xs i j)) => certUp_succ (xs := xs) (i := i) (j := j) (by have := HN.out; omega) hv
        have hjn : j < xs.length := by have := HN.out; omega
        have hanc := ancMs_iff hu (i := i) (j := j) (by have := HN.out; omega) hjn
        obtain ⟨mk, hmk⟩ : ∃ mk, mk = (ancMs xs i).getD j false := ⟨_, rfl⟩
        rw [← hmk] at c0 hnext hanc
        have HNX := Lib.hid hnext
        have HANC := Lib.hid hanc
        have HM := Lib.hid hM
        have hj1 : (0 : Int) ≤ (j : Int) := by omega
        have hj2 : (j : Int) < (n : Int) := by omega
        clear hmk hnext hanc hM hjn
        cases mk with
        | false =>
          go_wp2_with fail
          go_roundw
          case rel => exact ⟨j + 1, by omega, by go_num, by
            have := HM.out.put (Nat.le_refl _) j false
            rw [HNX.out false rfl] at this
            exact this⟩
          case measure => simp [intOf]; omega
        | true =>
          have hji : j < i := (HANC.out.1 rfl).lt hu
          have HHO := Lib.hid (holds_any (.pointer (some ⟨bb, 0, none⟩)) B F xs j i hji (by have := HN.out; omega) hxl wr (HB.out.below HM.out.bel) hfd hu)
          go_wp2_with fail
          refine HHO.out.mono ?_
          rintro e w5 ⟨⟨v5, rfl, ho5⟩, hb5⟩
          obtain ⟨A5, c5, rfl⟩ := ownsRow_slice ho5
          obtain ⟨g5, hA5, -, -, hc5, -⟩ := FromW.at_ (w := wr) ⟨ho5, hb5⟩ (k := i) (by omega)
          subst hA5
          obtain ⟨q, hq⟩ : ∃ q, q = certB xs i j := ⟨_, rfl⟩
          rw [show (cGo xs j (i + 1) (i - j)).getD i false = q from hq.symm] at hc5
          have HM5 := Lib.hid (HM.out.later hb5)
          obtain ⟨c6, f6⟩ := HM5.out.at_ hlt
          have HQ := Lib.hid hq
          have hi3 : (i : Int) < ((i + 1 : Nat) : Int) := by omega
          clear ho5 hb5 hq c0 f0
          go_wp2_with fail
          go_roundw
          case rel => exact ⟨j + 1, by omega, by go_num, by
            have := HM5.out.put (Nat.le_refl _) j q
            rw [HNX.out q (by rw [HQ.out]; rfl)] at this
            exact this⟩
          case measure => simp [intOf]; omega
      · have hjn : j = n := by omega
        have HM := Lib.hid hM
        have HJ := Lib.hid hjn
        have hr : Rd .bool wr (w.heap.size ≤ ·) (.slice (some ⟨w.heap.size, 0, none⟩) n n) (certUp xs i n) := by
          have := HM.out.own
          rw [HJ.out] at this
          exact Rd.of_own this
        have HNM := Lib.hid (HNA.out wr _ (certUp xs i n) HM.out.bel hr (certUp_len xs i n))
        have HB2 := Lib.hid HM.out.bel
        clear hM hr hjn
        go_wp2_with fail
        refine HNM.out.mono ?_
        rintro e w3 ⟨⟨v3, rfl, hr3⟩, hb3⟩
        go_wp2_with fail
        go_ret2
        refine ⟨⟨_, by rw [HF.out]; rfl, ?_⟩, HB2.out.trans (hb3.mono HB2.out.size)⟩
        rw [HF.out, if_pos rfl, HMS.out]
        exact hr3.mono fun b hb => Nat.le_trans HB2.out.size hb
end Go.Proofs.Ytlanephpmoajiaa
