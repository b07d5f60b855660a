/- The walk of the reference's Enter: an item whose head is wrong. -/
import Derived.Test.YtlanephpmoajiaaCopied
import Derived.Test.YtlanephpmoajiaaRefName
import Derived.Test.YtlanephpmoajiaaEnter
namespace Go.Proofs.Ytlanephpmoajiaa
open Go.RowKit

/-- What the reference's Enter leaves. -/
def RefEnterPost (w : World) (S T : Nat → Prop) (xs : List ItemD) (x : ItemD) (e : Ending) (w' : World) : Prop :=
  (∃ v', e = .returned (.tuple #[v', .int .i64 (entErr xs x)]) ∧ RdI w' (fun k => S k ∨ T k ∨ w.heap.size ≤ k) v' (entNew xs x)) ∧ Below w.heap.size w w'
theorem RefEnterPost.fail {w w' : World} {S T : Nat → Prop} {xs : List ItemD} {x : ItemD} {v : Value} {c : Int} (hc : entErr xs x = c) (h0 : c ≠ 0) (hb : RdI w S v xs) (hw : Below w.heap.size w w') :
    RefEnterPost w S T xs x (.returned (.tuple #[v, .int .i64 c])) w' := by
  subst hc
  exact ⟨⟨v, rfl, by unfold entNew; rw [if_neg h0]; exact (hb.below hw).mono fun k hk => .inl hk⟩, hw⟩
theorem entErr_chk {xs : List ItemD} {x : ItemD} {c : Int} (h : chk xs x = c) (h0 : c ≠ 0) : entErr xs x = c := by unfold entErr; rw [h, if_neg h0]

set_option maxRecDepth 100000 in
set_option maxHeartbeats 2000000 in
theorem refEnter_bad (vb vf : Value) (xs : List ItemD) (x : ItemD) (S T : Nat → Prop) (w : World) (hb : RdI w S vb xs) (hv : Rd2 w T vf x.frm)
    (hbad : nameB x.name.data.toList = false ∨ x.kind < 0 ∨ 3 < x.kind ∨ x.at_ < 0 ∨ ¬ (x.kind = 0 ↔ x.frm.length = 0)) :
    Calls Try.prog 20 #[vb, .agg #[.string x.name, .int .i64 x.kind, .int .i64 x.at_, vf]] w (RefEnterPost w S T xs x) := by
  obtain ⟨vs, hvs, hlen, hin⟩ := hv
  obtain ⟨A, n, cap, rfl, hn, hcap, hmax, hc⟩ := hvs.open_
  have hn' : n = x.frm.length := by omega
  have HN := Lib.hid hn'
  have HB := Lib.hid hb
  clear hvs hin hc hn hlen hn' hb
  obtain ⟨nm, kd, a, frm⟩ := x
  simp only at *
  obtain ⟨q, hq⟩ : ∃ q, q = nameB nm.data.toList := ⟨_, rfl⟩
  have HNM := fun w => (refName_any nm w).mono (R' := fun e w' => e = .returned (.bool q) ∧ w = w') fun e w' ⟨h1, h2⟩ => ⟨by rw [h1, hq], h2⟩
  have HNAME := Lib.hid HNM
  have HQ := Lib.hid hq
  clear hq HNM
  have hbw : Below w.heap.size w (w.alloc (.cells #[Value.string nm, .int .i64 kd, .int .i64 a, .slice A n cap] 44)) := (Below.refl _ w).alloc (Nat.le_refl _) _
  rcases head_cases q kd a n with h | ⟨h, h1⟩ | ⟨h, h1, h2⟩ | ⟨h, h1, h2, h3⟩ | ⟨h, h1, h2, h3, h4, h5⟩ | ⟨h, h1, h2, h3, h4, h5⟩ | ⟨h, h1, h2, h3, h4, h5⟩ | ⟨h, h1, h2, h3, h4, h5⟩
  case inr.inr.inr.inr.inr.inr.inl | inr.inr.inr.inr.inr.inr.inr =>
    exfalso
    subst h
    rw [← HQ.out, ← HN.out] at hbad
    simp at h4 h5 hbad
    omega
  all_goals
    clear hbad
    subst h
    have HE : Hid (chk xs ⟨nm, kd, a, frm⟩ = 1) := by
      unfold chk Hid
      rw [if_pos]
      simp only [← HQ.out, ← HN.out]
      simp at *
      all_goals first | omega | (simp; omega) | simp
    have HR := Lib.hid (RefEnterPost.fail (T := T) (entErr_chk HE.out (by decide)) (by decide) HB.out hbw)
    clear hbw
    go_enter Try.func20, Try.ntmps20
    go_wp2_with fail
    refine (HNAME.out _).mono ?_
    rintro e w1 ⟨rfl, rfl⟩
    go_wp2_with fail
    go_ret2
    exact HR.out
end Go.Proofs.Ytlanephpmoajiaa
