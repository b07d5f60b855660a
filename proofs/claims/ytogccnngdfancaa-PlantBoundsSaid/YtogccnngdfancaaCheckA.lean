/- The walk of Book.check: an item whose head is wrong. -/
import Derived.Test.YtogccnngdfancaaBook
import Derived.Test.YtogccnngdfancaaFuncs
import Derived.Deep.QuietTactic
import Derived.BigQuiet
namespace Go.Proofs.Ytogccnngdfancaa
open Go.RowKit

set_option maxRecDepth 100000 in
set_option maxHeartbeats 400000 in
theorem check1_any (v : Value) (c : List ByteArray) (S : Nat → Prop) (w : World) (hv : Rd .string w S v c) :
    Calls Try.prog 49 #[v] w fun e w' => e = .returned (.bool (badC c)) ∧ w = w' := by
  obtain ⟨A, n, cap, rfl, hn, hcap, hmax, hc⟩ := hv.open_
  have HB : Hid (badC c = (decide (n < 1) || decide (8 < n))) := by unfold badC; rw [hn]; rfl
  clear hn hc
  rcases Nat.lt_or_ge n 1 with h | h
  · go_enter Try.func49, Try.ntmps49
    go_wp2_with fail
    go_ret
    exact ⟨ret_bool (by rw [HB.out, decide_eq_true h]; rfl), rfl⟩
  · rcases Nat.lt_or_ge 8 n with h8 | h8
    · go_enter Try.func49, Try.ntmps49
      go_wp2_with fail
      go_ret
      exact ⟨ret_bool (by rw [HB.out, decide_eq_true h8]; simp; omega), rfl⟩
    · go_enter Try.func49, Try.ntmps49
      go_wp2_with fail
      go_ret
      exact ⟨ret_bool (by rw [HB.out, decide_eq_false (by omega : ¬ 8 < n), decide_eq_false (by omega : ¬ n < 1)]; simp; omega), rfl⟩

theorem badAny (xss : List (List ByteArray)) : anyIdx (fun i => badC (xss.getD i [])) xss.length = xss.any badC := by
  unfold anyIdx
  rw [Bool.eq_iff_iff, List.any_eq_true, List.any_eq_true]
  constructor
  · rintro ⟨i, hi, h⟩
    have hi := List.mem_range.1 hi
    refine ⟨xss[i], List.getElem_mem hi, ?_⟩
    simpa [List.getD, List.getElem?_eq_getElem hi] using h
  · rintro ⟨x, hx, h⟩
    obtain ⟨i, hi, rfl⟩ := List.mem_iff_getElem.1 hx
    exact ⟨i, List.mem_range.2 hi, by simpa [List.getD, List.getElem?_eq_getElem hi] using h⟩
theorem head_cases (q : Bool) (k a : Int) (n : Nat) : (q = false) ∨ (q = true ∧ k < 0) ∨ (q = true ∧ 0 ≤ k ∧ 3 < k) ∨ (q = true ∧ 0 ≤ k ∧ k ≤ 3 ∧ a < 0) ∨ (q = true ∧ 0 ≤ k ∧ k ≤ 3 ∧ 0 ≤ a ∧ ((k == 0) = true ∧ ((n : Int) == 0) = false)) ∨ (q = true ∧ 0 ≤ k ∧ k ≤ 3 ∧ 0 ≤ a ∧ ((k == 0) = false ∧ ((n : Int) == 0) = true)) ∨
    (q = true ∧ 0 ≤ k ∧ k ≤ 3 ∧ 0 ≤ a ∧ ((k == 0) = true ∧ ((n : Int) == 0) = true)) ∨ (q = true ∧ 0 ≤ k ∧ k ≤ 3 ∧ 0 ≤ a ∧ ((k == 0) = false ∧ ((n : Int) == 0) = false)) := by
  cases q
  · exact .inl rfl
  · by_cases h1 : k < 0
    · exact .inr (.inl ⟨rfl, h1⟩)
    by_cases h2 : 3 < k
    · exact .inr (.inr (.inl ⟨rfl, by omega, h2⟩))
    by_cases h3 : a < 0
    · exact .inr (.inr (.inr (.inl ⟨rfl, by omega, by omega, h3⟩)))
    right; right; right; right
    cases h4 : (k == 0) <;> cases h5 : ((n : Int) == 0) <;> simp <;> omega

/-- Cells of a boxed item. -/
theorem box_cells {w w1 : World} {nm : ByteArray} {kd a : Int} {vf : Value} (hb : Below (w.alloc (.cells #[Value.string nm, .int .i64 kd, .int .i64 a, vf] 57)).heap.size (w.alloc (.cells #[Value.string nm, .int .i64 kd, .int .i64 a, vf] 57)) w1) :
    w1.heap[w.heap.size]? = some (.cells #[Value.string nm, .int .i64 kd, .int .i64 a, vf] 57) :=
  (hb.block _ (by simp)).trans (heap_alloc_new w _)

set_option maxRecDepth 100000 in
set_option maxHeartbeats 2000000 in
theorem check_bad (p vf : Value) (B : Nat) (F S : Nat → Prop) (xs : List ItemD) (x : ItemD) (w : World) (hb : Bk w B p F xs) (hv : Rd2 w S vf x.frm) (hbad : nameB x.name.data.toList = false ∨ x.kind < 0 ∨ 3 < x.kind ∨ x.at_ < 0 ∨ ¬ (x.kind = 0 ↔ x.frm.length = 0)) :
    Calls Try.prog 32 #[p, .agg #[.string x.name, .int .i64 x.kind, .int .i64 x.at_, vf]] w fun e w' => e = .returned (.int .i64 (chk xs x)) ∧ Below w.heap.size w w' := by
  obtain ⟨vs, hvs, hlen, hin⟩ := hv
  obtain ⟨A, n, cap, rfl, hn, hcap, hmax, hc⟩ := hvs.open_
  have HV := Lib.hid hvs
  have HIN := Lib.hid hin
  have hn' : n = x.frm.length := by omega
  have HN := Lib.hid hn'
  obtain ⟨bb, vi, r, fs, rfl, hbk⟩ := hb
  clear hvs hin hc hn hlen hn'
  obtain ⟨nm, kd, a, frm⟩ := x
  simp only at *
  obtain ⟨q, hq⟩ : ∃ q, q = nameB nm.data.toList := ⟨_, rfl⟩
  have HNM := fun w => (isName_any nm w).mono (R' := fun e w' => e = .returned (.bool q) ∧ Below w.heap.size w w') fun e w' ⟨h1, h2⟩ => ⟨by rw [h1, hq], h2⟩
  have HNAME := Lib.hid HNM
  have HQ := Lib.hid hq
  clear hq HNM
  rcases head_cases q kd a n with h | ⟨h, h1⟩ | ⟨h, h1, h2⟩ | ⟨h, h1, h2, h3⟩ | ⟨h, h1, h2, h3, h4, h5⟩ | ⟨h, h1, h2, h3, h4, h5⟩ | ⟨h, h1, h2, h3, h4, h5⟩ | ⟨h, h1, h2, h3, h4, h5⟩
  case inr.inr.inr.inr.inr.inr.inl | inr.inr.inr.inr.inr.inr.inr =>
    exfalso
    subst h
    rw [← HQ.out, ← HN.out] at hbad
    simp at h4 h5 hbad
    omega
  all_goals
    clear hbad
    subst h
    have HE : Hid (chk xs ⟨nm, kd, a, frm⟩ = 1) := by
      unfold chk Hid
      rw [if_pos]
      simp only [← HQ.out, ← HN.out]
      simp at *
      all_goals first | omega | (simp; omega) | simp
    go_enter Try.func32, Try.ntmps32
    go_wp2_with fail
    refine (HNAME.out _).mono ?_
    rintro e w1 ⟨rfl, hb1⟩
    have hm := box_cells hb1
    have c1 : w1.cell? ⟨w.heap.size, 1, none⟩ = some (.int .i64 kd) := cell_of_row w1 _ 1 _ _ _ hm
    have c2 : w1.cell? ⟨w.heap.size, 2, none⟩ = some (.int .i64 a) := cell_of_row w1 _ 2 _ _ _ hm
    have c3 : w1.cell? ⟨w.heap.size, 3, none⟩ = some (.slice A n cap) := cell_of_row w1 _ 3 _ _ _ hm
    have hbw : Below w.heap.size w w1 := ((Below.refl _ w).alloc (Nat.le_refl _) _).trans (hb1.mono (by simp))
    clear hm hb1
    go_wp2_with fail
    go_ret
    exact ⟨ret_int HE.out.symm, hbw⟩
end Go.Proofs.Ytogccnngdfancaa
