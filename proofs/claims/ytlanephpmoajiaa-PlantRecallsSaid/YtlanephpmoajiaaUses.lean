/- The walk of Book.Uses. -/
import Derived.Test.YtlanephpmoajiaaTouched
namespace Go.Proofs.Ytlanephpmoajiaa
open Go.RowKit Go.Shelf

set_option maxHeartbeats 400000 in
theorem uses1_any (nm : ByteArray) (kd a : Int) (vf : Value) (w : World) : Calls Try.prog 62 #[.agg #[.string nm, .int .i64 kd, .int .i64 a, vf]] w fun e w' => e = .returned (.bool true) ∧ Below w.heap.size w w' := by
  have hb := (Below.refl w.heap.size w).alloc (Nat.le_refl _) (.cells #[.string nm, .int .i64 kd, .int .i64 a, vf] 37)
  go_enter Try.func62, Try.ntmps62
  go_wp2_with fail
  go_ret
  exact ⟨rfl, hb⟩
theorem enters62 : ∀ args w, (callFunc 62 args).run Try.prog w = .ok (.enter 62 args) w := enters_of Try.func62 (by kernel_rfl) rfl
/-- The marks of the uses of an item. -/
def usesMs (xs : List ItemD) (nm : ByteArray) : List Bool := match idx xs nm with | some i => spAll xs i (fun _ => true) | none => []
/-- What Uses leaves. -/
def UsesNames (w : World) (xs : List ItemD) (nm : ByteArray) (e : Ending) (w' : World) : Prop :=
  (∃ v, e = .returned (.tuple #[v, .int .i64 (findErr xs nm)]) ∧ Rd .string w' (w.heap.size ≤ ·) v (if findErr xs nm = 0 then namesOf xs (usesMs xs nm) else [])) ∧ Below w.heap.size w w'
set_option maxRecDepth 100000 in
set_option maxHeartbeats 1000000 in
theorem Uses_any (p : Value) (B : Nat) (F : Nat → Prop) (xs : List ItemD) (nm : ByteArray) (w : World) (hb : Bk w B p F xs) (hfd : Found xs) (hxl : xs.length ≤ 1024) (hnm : nm.size ≤ maxLen) :
    Calls Try.prog 23 #[p, .string nm] w (UsesNames w xs nm) := by
  have hfi := find_any p B F xs nm w hb hnm
  have HFI := Lib.hid hfi
  have HB := Lib.hid hb
  obtain ⟨bb, _, _, _, rfl, _⟩ := hb
  have hna := fun w' v ms (h : Below w.heap.size w w') (hr : Rd .bool w' (w.heap.size ≤ ·) v ms) (hl : ms.length = xs.length) => names_any (.pointer (some ⟨bb, 0, none⟩)) B F xs v ms _ w' (HB.out.below h) hr hl hxl
  have HNA := Lib.hid hna
  clear hna hfi
  cases hi : idx xs nm with
  | none =>
    have hf : findErr xs nm = 5 := by simp [findErr, hi]
    have hx : idxI xs nm = 0 := by simp [idxI, hi]
    rw [hf, hx] at HFI
    have HF := Lib.hid hf
    clear hi hf hx
    go_enter Try.func23, Try.ntmps23
    go_wp2_with (go_at_call 56; refine HFI.out.mono ?_; rintro e w' ⟨rfl, rfl⟩)
    go_ret2
    refine ⟨⟨_, by rw [HF.out]; rfl, ?_⟩, Below.refl _ _⟩
    rw [HF.out, if_neg (by decide)]
    exact Rd.none_ _ _ _
  | some i =>
    have hf : findErr xs nm = 0 := by simp [findErr, hi]
    have hx : idxI xs nm = i := by simp [idxI, hi]
    have hil := idx_lt hi
    rw [hf, hx] at HFI
    have HF := Lib.hid hf
    have HMS : Hid (usesMs xs nm = spAll xs i (fun _ => true)) := by unfold usesMs Hid; simp only [hi]
    have HSP := Lib.hid (spread_any (.pointer (some ⟨bb, 0, none⟩)) B F xs i hil hxl 62 #[] #[] enters62 (fun _ => true) w HB.out hfd (fun x _ vf w'' _ => uses1_any x.name x.kind x.at_ vf w''))
    clear hi hf hx hil
    go_enter Try.func23, Try.ntmps23
    go_wp2_with (go_at_call 56; refine HFI.out.mono ?_; rintro e w' ⟨rfl, rfl⟩)
    refine HSP.out.mono ?_
    rintro e w1 ⟨⟨v, rfl, ho⟩, hb1⟩
    have hr : Rd .bool w1 (w.heap.size ≤ ·) v (usesMs xs nm) := by rw [HMS.out]; exact Rd.of_own ho
    have HN := Lib.hid (HNA.out w1 v (usesMs xs nm) hb1 hr (by rw [HMS.out]; exact spAll_len _ _ _))
    clear ho hr
    go_wp2_with fail
    refine HN.out.mono ?_
    rintro e w2 ⟨⟨v2, rfl, hr2⟩, hb2⟩
    go_wp2_with fail
    go_ret2
    refine ⟨⟨_, by rw [HF.out]; rfl, ?_⟩, hb1.trans (hb2.mono hb1.size)⟩
    rw [HF.out, if_pos rfl]
    exact hr2.mono fun b hb => Nat.le_trans hb1.size hb
end Go.Proofs.Ytlanephpmoajiaa
