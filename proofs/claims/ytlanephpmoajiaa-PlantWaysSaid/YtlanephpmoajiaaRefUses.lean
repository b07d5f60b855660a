/- The walk of the reference's Uses. -/
import Derived.Test.YtlanephpmoajiaaRefFrom
namespace Go.Proofs.Ytlanephpmoajiaa
open Go.RowKit
theorem made_false (n : Nat) : (madeCells (Value.bool false).cells (n * 1)).toList = (List.replicate n false).map Value.bool := by
  rw [Nat.mul_one, show (madeCells (Value.bool false).cells n).toList = List.replicate n (.bool false) from toList_madeCells_one _ _]; simp
/-- The marks of the reference's Uses. -/
def refUsesMs (xs : List ItemD) (i : Nat) : List Bool := onlyM (fromGo xs ((List.replicate xs.length false).set i true) xs.length) i
/-- What the reference's Uses leaves. -/
def RefUsesPost (w : World) (xs : List ItemD) (nm : ByteArray) (e : Ending) (w' : World) : Prop :=
  ((idx xs nm = none ∧ e = .returned (.tuple #[.slice none 0 0, .int .i64 5])) ∨ ∃ (i : Nat) (v : Value), idx xs nm = some i ∧ e = .returned (.tuple #[v, .int .i64 0]) ∧ Rd .string w' (w.heap.size ≤ ·) v (namesOf xs (refUsesMs xs i))) ∧ Below w.heap.size w w'
set_option maxRecDepth 100000 in
set_option maxHeartbeats 1000000 in
theorem refUses_any (v : Value) (xs : List ItemD) (nm : ByteArray) (S : Nat → Prop) (w : World) (hv : RdI w S v xs) (hxl : xs.length ≤ 1024) :
    Calls Try.prog 39 #[v, .string nm] w (RefUsesPost w xs nm) := by
  obtain ⟨i0, hi0, hz0, hz1, hz2⟩ := info_parts info4
  have HF := Lib.hid (refFind_any v xs S nm w hv)
  have HV := Lib.hid hv
  obtain ⟨A, n, cap, rfl, hn, hcap, hmax, -⟩ := hv.lt.open_
  have HXL := Lib.hid hxl
  have hn1024 : n ≤ 1024 := by omega
  cases hi : idx xs nm with
  | none =>
    have hf : findI xs nm = -1 := by simp [findI, hi]
    rw [hf] at HF
    have HI := Lib.hid hi
    clear hf hi hn hv hxl
    go_enter Try.func39, Try.ntmps39
    go_wp2_with (go_at_call 27; refine HF.out.mono ?_; rintro e w' ⟨rfl, rfl⟩)
    go_ret2
    exact ⟨.inl ⟨HI.out, rfl⟩, Below.refl _ _⟩
  | some i =>
    have hf : findI xs nm = i := by simp [findI, hi]
    have hil := idx_lt hi
    rw [hn] at hil
    rw [hf] at HF
    have HI := Lib.hid hi
    have HN := Lib.hid hn
    have hi1 : (0 : Int) ≤ (i : Int) := by omega
    have hi2 : (i : Int) < (n : Int) := by omega
    clear hf hi hn hv hxl
    go_enter Try.func39, Try.ntmps39
    go_wp2_with (first | (go_at_call 27; refine HF.out.mono ?_; rintro e w' ⟨rfl, rfl⟩) | (at_make; refine wpList_make_full _ rfl _ _ 122 rfl w.heap.size 4 i0 (.bool false) 1 Try.underlying122 hi0 hz0 hz1 .i64 .i64 (n : Int) (n : Int) n rfl rfl rfl rfl (by rw [hz2]; omega) (by unfold maxLen; omega) (by simp) ?_; intro w1 hown hgrow; have hb1 : Below w.heap.size w w1 := (Below.refl _ w).grown hgrow (Nat.le_refl _) (fun k hk => by simp at hk); have hF1 : FromW w (.slice (some ⟨w.heap.size, 0, none⟩) n n) n (List.replicate n false) w1 := ⟨(by have h := hown; rw [made_false] at h; exact h), hb1⟩; obtain ⟨g0, hg0, -, -, hcc, hff⟩ := hF1.at_ (k := i) hil; simp only [Option.some.injEq, Addr.mk.injEq, and_true] at hg0; subst hg0; have HF1 := Lib.hid hF1; clear hF1 hown hgrow))
    have hF2 := HF1.out.store (Nat.le_refl _) i
    have HF2 := Lib.hid hF2
    clear hF2 HF1
    obtain ⟨W2, hW2⟩ : ∃ W2, W2 = w1.setCell ⟨w.heap.size, i, none⟩ (.bool true) := ⟨_, rfl⟩
    rw [← hW2] at HF2 ⊢
    clear hW2
    have hlm : ((List.replicate n false).set i true).length = xs.length := by rw [HN.out]; simp
    refine (from_any _ _ xs ((List.replicate n false).set i true) S (w.heap.size ≤ ·) W2 (HV.out.below HF2.out.2) (Rd.of_own HF2.out.1) hlm HXL.out).mono ?_
    rintro e w3 ⟨⟨v3, rfl, ho3⟩, hb3⟩
    have hb03 : Below w.heap.size w w3 := HF2.out.2.trans (hb3.mono HF2.out.2.size)
    have HON := Lib.hid (only_any (.slice A n cap) v3 xs _ i S _ w3 (HV.out.below hb03) (Rd.of_own ho3) (by rw [fromGo_len]; exact hlm) HXL.out)
    clear ho3
    go_wp2_with fail
    refine HON.out.mono ?_
    rintro e w4 ⟨⟨v4, rfl, hr4⟩, hb4⟩
    go_wp2_with fail
    go_ret2
    refine ⟨.inr ⟨i, _, HI.out, rfl, ?_⟩, hb03.trans (hb4.mono hb03.size)⟩
    have : refUsesMs xs i = onlyM (fromGo xs ((List.replicate n false).set i true) xs.length) i := by unfold refUsesMs; rw [HN.out]
    rw [this]
    exact hr4.mono fun b hb => Nat.le_trans hb03.size hb
end Go.Proofs.Ytlanephpmoajiaa
