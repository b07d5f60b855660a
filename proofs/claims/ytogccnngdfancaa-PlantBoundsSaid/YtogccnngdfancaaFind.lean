/- The walks of Book.find, Book.fault and Fault.during. -/
import Derived.Test.YtogccnngdfancaaBook
import Derived.Test.YtogccnngdfancaaBookMid
import Derived.Deep.QuietTactic
import Derived.BigQuiet
namespace Go.Proofs.Ytogccnngdfancaa
open Go.RowKit

def findErr (xs : List ItemD) (nm : ByteArray) : Int := if (idx xs nm).isSome then 0 else 5

set_option maxRecDepth 100000 in
set_option maxHeartbeats 400000 in
theorem find_any (p : Value) (B : Nat) (F : Nat → Prop) (xs : List ItemD) (nm : ByteArray) (w : World) (hb : Bk w B p F xs) (hnm : nm.size ≤ maxLen) :
    Calls Try.prog 65 #[p, .string nm] w fun e w' => e = .returned (.tuple #[.int .i64 (idxI xs nm), .int .i64 (findErr xs nm)]) ∧ w = w' := by
  obtain ⟨bb, vi, r, fs, rfl, hbk⟩ := hb
  have e1 := hbk.cell1
  have hlk := MapV.look_ok hbk.map hnm
  have HF : Hid (findErr xs nm = if (idx xs nm).isSome then 0 else 5) := rfl
  have HI : Hid (idx xs nm = none → idxI xs nm = 0) := fun h => by simp [idxI, h]
  obtain ⟨b, hbv⟩ : ∃ b, b = (idx xs nm).isSome := ⟨_, rfl⟩
  obtain ⟨c, hc⟩ : ∃ c, c = idxI xs nm := ⟨_, rfl⟩
  rw [← hbv, ← hc] at hlk
  rw [← hbv] at HF
  have HB := Lib.hid hbv
  have HC := Lib.hid hc
  rw [← hc]
  clear hbk hc hbv
  cases b with
  | true =>
    go_enter Try.func65, Try.ntmps65
    go_wp2_with fail
    go_ret2
    exact ⟨by rw [HF.out]; rfl, rfl⟩
  | false =>
    go_enter Try.func65, Try.ntmps65
    go_wp2_with fail
    go_ret2
    have h0 : idx xs nm = none := by have := HB.out; cases h : idx xs nm with
      | none => rfl
      | some i => simp [h] at this
    exact ⟨by rw [HF.out, HC.out, HI.out h0]; rfl, rfl⟩

structure FaultD where
  item : ByteArray
  since : Int
  until_ : Int

def faultErr (xs : List ItemD) (f : FaultD) : Int :=
  match idx xs f.item with
  | none => 5
  | some i => match xs[i]? with
    | none => 5
    | some y => if y.kind = 3 then 1 else if f.until_ < f.since then 7 else 0
def faultI (xs : List ItemD) (f : FaultD) : Int := if faultErr xs f = 0 then idxI xs f.item else 0
/-- A fault as a value. -/
def FaultD.val (f : FaultD) : Value := .agg #[.string f.item, .int .i64 f.since, .int .i64 f.until_]

set_option maxRecDepth 100000 in
set_option maxHeartbeats 1000000 in
theorem fault_any (p : Value) (B : Nat) (F : Nat → Prop) (xs : List ItemD) (f : FaultD) (w : World) (hb : Bk w B p F xs) (hnm : f.item.size ≤ maxLen) :
    Calls Try.prog 53 #[p, .agg #[.string f.item, .int .i64 f.since, .int .i64 f.until_]] w fun e w' => e = .returned (.tuple #[.int .i64 (faultI xs f), .int .i64 (faultErr xs f)]) ∧ Below w.heap.size w w' := by
  obtain ⟨nm, si, un⟩ := f
  simp only at hnm ⊢
  have hfd := fun w' (h : Below w.heap.size w w') => find_any p B F xs nm w' (hb.below h) hnm
  have HFD := Lib.hid hfd
  have HB := Lib.hid hb
  clear hfd
  obtain ⟨bb, vi, r, fs, rfl, hbk⟩ := hb
  have hw0 : Below w.heap.size w (w.alloc (.cells #[Value.string nm, .int .i64 si, .int .i64 un] 62)) := (Below.refl _ w).alloc (Nat.le_refl _) _
  cases hi : idx xs nm with
  | none =>
    have HE : Hid (faultErr xs ⟨nm, si, un⟩ = 5) := by unfold faultErr Hid; simp only [hi]
    have HI : Hid (faultI xs ⟨nm, si, un⟩ = 0) := by unfold faultI Hid; rw [HE.out, if_neg (by decide)]
    have hf : findErr xs nm = 5 := by simp [findErr, hi]
    rw [hf] at HFD
    clear hi hbk hf
    go_enter Try.func53, Try.ntmps53
    go_wp2_with fail
    refine (HFD.out _ hw0).mono ?_
    rintro e w' ⟨rfl, rfl⟩
    go_wp2_with fail
    go_ret2
    exact ⟨by rw [HE.out, HI.out]; rfl, hw0⟩
  | some i =>
    obtain ⟨y, hy, _⟩ := idx_get hi
    have hil := idx_lt hi
    have HE : Hid (faultErr xs ⟨nm, si, un⟩ = if y.kind = 3 then 1 else if un < si then 7 else 0) := by unfold faultErr Hid; simp only [hi, hy]
    have HI : Hid (faultI xs ⟨nm, si, un⟩ = if faultErr xs ⟨nm, si, un⟩ = 0 then (i : Int) else 0) := by unfold faultI Hid; simp [idxI, hi]
    have hf : findErr xs nm = 0 := by simp [findErr, hi]
    have hii : idxI xs nm = i := by simp [idxI, hi]
    rw [hf, hii] at HFD
    have hbk1 := hbk.below hw0
    obtain ⟨g, cp, fv, rfl, hgc, hg1, hg2, i0, i1, i2, i3, _⟩ := hbk1.item hy
    have e0 := hbk1.cell0
    obtain ⟨yn, yk, ya, yf⟩ := y
    simp only at HE i1 i2
    obtain ⟨len, hlen⟩ : ∃ len, len = xs.length := ⟨_, rfl⟩
    rw [← hlen] at hil hgc e0
    clear hi hy hlen hbk hbk1 hf hii i0 i2 i3
    by_cases hk : yk = 3
    · have hkb : (yk == 3) = true := by simpa using hk
      have HE1 := Lib.hid (HE.out.trans (if_pos hk))
      clear hk
      go_enter Try.func53, Try.ntmps53
      go_wp2_with fail
      refine (HFD.out _ hw0).mono ?_
      rintro e w' ⟨rfl, rfl⟩
      go_wp2_with fail
      go_ret2
      exact ⟨by rw [HI.out, HE1.out]; rfl, hw0⟩
    · have hkb : (yk == 3) = false := by simpa using hk
      have HE1 := Lib.hid (HE.out.trans (if_neg hk))
      clear hk
      by_cases hsu : un < si
      · have HE2 := Lib.hid (HE1.out.trans (if_pos hsu))
        go_enter Try.func53, Try.ntmps53
        go_wp2_with fail
        refine (HFD.out _ hw0).mono ?_
        rintro e w' ⟨rfl, rfl⟩
        go_wp2_with fail
        go_ret2
        exact ⟨by rw [HI.out, HE2.out]; rfl, hw0⟩
      · have HE2 := Lib.hid (HE1.out.trans (if_neg hsu))
        go_enter Try.func53, Try.ntmps53
        go_wp2_with fail
        refine (HFD.out _ hw0).mono ?_
        rintro e w' ⟨rfl, rfl⟩
        go_wp2_with fail
        go_ret2
        exact ⟨by rw [HI.out, HE2.out]; rfl, hw0⟩

def during (f : FaultD) (at_ : Int) : Bool := decide (f.since ≤ at_) && decide (at_ ≤ f.until_)
set_option maxRecDepth 100000 in
set_option maxHeartbeats 1000000 in
theorem during_any (f : FaultD) (nm : ByteArray) (kd a : Int) (vf : Value) (w : World) :
    Calls Try.prog 55 #[.agg #[.string f.item, .int .i64 f.since, .int .i64 f.until_], .agg #[.string nm, .int .i64 kd, .int .i64 a, vf]] w fun e w' => e = .returned (.bool (during f a)) ∧ Below w.heap.size w w' := by
  obtain ⟨it, si, un⟩ := f
  have HD : Hid (during ⟨it, si, un⟩ a = (decide (si ≤ a) && decide (a ≤ un))) := rfl
  have hb := ((Below.refl w.heap.size w).alloc (Nat.le_refl _) (.cells #[Value.string it, .int .i64 si, .int .i64 un] 62)).alloc (by simp) (.cells #[Value.string nm, .int .i64 kd, .int .i64 a, vf] 57)
  simp only
  by_cases h1 : si ≤ a
  · by_cases h2 : a ≤ un
    · go_enter Try.func55, Try.ntmps55
      go_wp2_with fail
      go_ret
      exact ⟨ret_bool (by rw [HD.out]; simp [h1, h2]), hb⟩
    · go_enter Try.func55, Try.ntmps55
      go_wp2_with fail
      go_ret
      exact ⟨ret_bool (by rw [HD.out]; simp [h1, h2]), hb⟩
  · go_enter Try.func55, Try.ntmps55
    go_wp2_with fail
    go_ret
    exact ⟨ret_bool (by rw [HD.out, decide_eq_false (by omega : ¬ si ≤ a)]; rfl), hb⟩
end Go.Proofs.Ytogccnngdfancaa
