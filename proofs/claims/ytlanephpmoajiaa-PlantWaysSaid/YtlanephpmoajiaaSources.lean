/- The walk of Book.Sources. -/
import Derived.Test.YtlanephpmoajiaaGather
import Derived.Test.YtlanephpmoajiaaRefUses
namespace Go.Proofs.Ytlanephpmoajiaa
open Go.RowKit
set_option linter.unusedVariables false
/-- The marks of the sources of an item. -/
def srcMs (xs : List ItemD) (nm : ByteArray) : List Bool := match idx xs nm with | some i => ancMs xs i | none => []
/-- What Sources leaves. -/
def SourcesNames (w : World) (xs : List ItemD) (nm : ByteArray) (e : Ending) (w' : World) : Prop :=
  (∃ v, e = .returned (.tuple #[v, .int .i64 (findErr xs nm)]) ∧ Rd .string w' (w.heap.size ≤ ·) v (if findErr xs nm = 0 then namesOf xs (srcMs xs nm) else [])) ∧ Below w.heap.size w w'
theorem Marks.new {w w1 : World} {n : Nat} (hown : w1.ownsRow w.heap.size 4 1 (.slice (some ⟨w.heap.size, 0, none⟩) n n) n (madeCells (Value.bool false).cells (n * 1)).toList) (hb1 : Below w.heap.size w w1) : Marks w w.heap.size n n (List.replicate n false) w1 :=
  ⟨by rw [made_false] at hown; exact hown, hb1⟩
set_option maxRecDepth 100000 in
set_option maxHeartbeats 1000000 in
theorem Sources_any (p : Value) (B : Nat) (F : Nat → Prop) (xs : List ItemD) (nm : ByteArray) (w : World) (hb : Bk w B p F xs) (hfd : Found xs) (hu : BookUq xs) (hxl : xs.length ≤ 1024) (hnm : nm.size ≤ maxLen) :
    Calls Try.prog 35 #[p, .string nm] w (SourcesNames w xs nm) := by
  obtain ⟨i0, hi0, hz0, hz1, hz2⟩ := info_parts info4
  have HFI := Lib.hid (find_any p B F xs nm w hb hnm)
  have HB := Lib.hid hb
  obtain ⟨bb, vi, r, fs, rfl, hbk⟩ := hb
  have hna := fun w' v ms (h : Below w.heap.size w w') (hr : Rd .bool w' (w.heap.size ≤ ·) v ms) (hl : ms.length = xs.length) => names_any (.pointer (some ⟨bb, 0, none⟩)) B F xs v ms _ w' (HB.out.below h) hr hl hxl
  have HNA := Lib.hid hna
  clear hna
  cases hi : idx xs nm with
  | none =>
    have hf : findErr xs nm = 5 := by simp [findErr, hi]
    have hx : idxI xs nm = 0 := by simp [idxI, hi]
    rw [hf, hx] at HFI
    have HF := Lib.hid hf
    clear hi hf hx hbk
    go_enter Try.func35, Try.ntmps35
    go_wp2_with (go_at_call 56; refine HFI.out.mono ?_; rintro e w' ⟨rfl, rfl⟩)
    go_ret2
    refine ⟨⟨_, by rw [HF.out]; rfl, ?_⟩, Below.refl _ _⟩
    rw [HF.out, if_neg (by decide)]
    exact Rd.none_ _ _ _
  | some i =>
    have hf : findErr xs nm = 0 := by simp [findErr, hi]
    have hx : idxI xs nm = i := by simp [idxI, hi]
    have hil := idx_lt hi
    rw [hf, hx] at HFI
    have HF := Lib.hid hf
    have HMS : Hid (srcMs xs nm = ancMs xs i) := by unfold srcMs Hid; simp only [hi]
    obtain ⟨A, cp, rfl⟩ := ownsRow_slice hbk.own
    have e0 := hbk.cell0
    obtain ⟨n, hn⟩ : ∃ n, n = xs.length := ⟨_, rfl⟩
    rw [← hn] at e0 hil
    have hn1024 : n ≤ 1024 := by omega
    have HN := Lib.hid hn
    have HGA := Lib.hid (fun (w1 : World) (hM : Marks w w.heap.size n n (List.replicate n false) w1) => gather_any (.pointer (some ⟨bb, 0, none⟩)) B F xs w HB.out hfd hu hxl w.heap.size n n (Nat.le_refl _) hn i (List.replicate n false) w1 hil (by simp) (by rw [hn]; exact clB_none xs i) hM)
    clear hi hf hx hbk hn
    go_enter Try.func35, Try.ntmps35
    go_wp2_with (first | (go_at_call 56; refine HFI.out.mono ?_; rintro e w' ⟨rfl, rfl⟩) | (at_make; refine wpList_make_full _ rfl _ _ 122 rfl w.heap.size 4 i0 (.bool false) 1 Try.underlying122 hi0 hz0 hz1 .i64 .i64 (n : Int) (n : Int) n rfl rfl rfl rfl (by rw [hz2]; omega) (by unfold maxLen; omega) (by simp) ?_; intro w1 hown hgrow; have hb1 : Below w.heap.size w w1 := (Below.refl _ w).grown hgrow (Nat.le_refl _) (fun k hk => by simp at hk); have HM1 := Lib.hid (Marks.new hown hb1); clear hown hgrow hb1))
    refine (HGA.out w1 HM1.out).mono ?_
    rintro e w2 ⟨⟨v, rfl⟩, m', hg, ho, hb2⟩
    have hma : m' = ancMs xs i := gath_all hu (by have := HN.out; omega) (by rw [← HN.out]; exact hg)
    subst hma
    have HNM := Lib.hid (HNA.out w2 _ (ancMs xs i) hb2 (Rd.of_own ho) (ancMs_len xs i))
    have HB2 := Lib.hid hb2
    clear hg ho hb2
    go_wp2_with fail
    refine HNM.out.mono ?_
    rintro e w3 ⟨⟨v3, rfl, hr3⟩, hb3⟩
    go_wp2_with fail
    go_ret2
    refine ⟨⟨_, by rw [HF.out]; rfl, ?_⟩, HB2.out.trans (hb3.mono HB2.out.size)⟩
    rw [HF.out, if_pos rfl, HMS.out]
    exact hr3.mono fun b hb => Nat.le_trans HB2.out.size hb
end Go.Proofs.Ytlanephpmoajiaa
