/- The walk of Book.Enter. -/
import Derived.Test.YtogccnngdfancaaCheck
import Derived.Test.YtogccnngdfancaaBookMid
import Derived.StillTailTactics
import Derived.Deep.RegionLaw
namespace Go.Proofs.Ytogccnngdfancaa
open Go.RowKit

theorem info37 : (Try.prog.info? 57).map (fun i => (i.zero, i.size, i.bytes)) = some (some (.agg #[.string ⟨#[]⟩, .int .i64 0, .int .i64 0, .slice none 0 0]), 4, 56) := by kernel_rfl
def entErr (xs : List ItemD) (x : ItemD) : Int := if chk xs x = 0 then if 1024 ≤ xs.length then 9 else 0 else chk xs x
def entNew (xs : List ItemD) (x : ItemD) : List ItemD := if entErr xs x = 0 then xs ++ [x] else xs
theorem chk_zero {xs : List ItemD} {x : ItemD} (h : chk xs x = 0) : nameB x.name.data.toList = true ∧ 0 ≤ x.kind ∧ x.kind ≤ 3 ∧ 0 ≤ x.at_ ∧ (x.kind = 0 ↔ x.frm.length = 0) ∧ x.frm.length ≤ 8 ∧ (∀ c ∈ x.frm, 1 ≤ c.length ∧ c.length ≤ 8) ∧ idx xs x.name = none ∧ ∀ c ∈ x.frm, chkC xs x c = 0 := by
  unfold chk at h
  split at h
  · cases h
  rename_i h1
  split at h
  · cases h
  rename_i h2
  split at h
  · cases h
  rename_i h3
  simp only [not_or, Decidable.not_not, Bool.not_eq_false] at h1
  refine ⟨h1.1, by omega, by omega, by omega, h1.2.2.2.2, by omega, fun c hc => ?_, ?_, fun c hc => ?_⟩
  · have h4 : x.frm.any badC = false := by cases hh : x.frm.any badC with
      | false => rfl
      | true => exact absurd (.inr hh) h2
    rw [List.any_eq_false] at h4
    have := h4 c hc
    simp only [badC, Bool.or_eq_true, decide_eq_true_eq, not_or] at this
    omega
  · cases hi : idx xs x.name with
    | none => rfl
    | some i => simp [hi] at h3
  · by_cases hz : chkC xs x c = 0
    · exact hz
    · exfalso
      have key : ∀ l : List Int, firstNZ l = 0 → ∀ e ∈ l, e = 0 := by
        intro l
        induction l with
        | nil => intro _ e he; simp at he
        | cons y l ih =>
          intro hl e he
          simp only [firstNZ] at hl
          split at hl
          · rename_i hy
            rcases List.mem_cons.1 he with rfl | he
            · exact hy
            · exact ih hl e he
          · exact absurd hl ‹_›
      exact hz (key _ h _ (List.mem_map.2 ⟨c, hc, rfl⟩))
theorem Own2.slice {w : World} {B : Nat} {vf : Value} {xss : List (List ByteArray)} (h : Own2 w B vf xss) : ∃ A c, vf = .slice A xss.length c := let ⟨_, ho, _⟩ := h; ownsRow_slice ho
/-- What Enter leaves. -/
def EnterPost (w : World) (B : Nat) (p : Value) (F : Nat → Prop) (xs : List ItemD) (x : ItemD) (e : Ending) (w' : World) : Prop :=
  e = .returned (.int .i64 (entErr xs x)) ∧ ∃ F', Bk w' B p F' (entNew xs x) ∧ Keep (fun k => k < w.heap.size ∧ ¬ F k) w w' ∧ ∀ k, F' k → F k ∨ w.heap.size ≤ k

set_option maxRecDepth 100000 in
set_option maxHeartbeats 2000000 in
theorem enter_any (p vf : Value) (B : Nat) (F S : Nat → Prop) (xs : List ItemD) (x : ItemD) (w : World) (hb : Bk w B p F xs) (hv : Rd2 w S vf x.frm) (hS : ∀ k, S k → ¬ F k) (hnm : x.name.size ≤ maxLen) (hnms : ∀ c ∈ x.frm, ∀ s ∈ c, s.size ≤ maxLen) (hB : B ≤ w.heap.size) (hxl : xs.length ≤ 1024) :
    Calls Try.prog 15 #[p, .agg #[.string x.name, .int .i64 x.kind, .int .i64 x.at_, vf]] w (EnterPost w B p F xs x) := by
  have hb0 := hb
  have hck := fun w' (h : Below w.heap.size w w') => check_any p vf B F S xs x w' (hb.below h) (hv.below h) hnm hnms
  obtain ⟨bb, vi, r, fs, rfl, hbk⟩ := hb
  have HCK := Lib.hid hck
  obtain ⟨nm, kd, a, frm⟩ := x
  simp only at *
  obtain ⟨ce, hce⟩ : ∃ ce, ce = chk xs ⟨nm, kd, a, frm⟩ := ⟨_, rfl⟩
  rw [← hce] at HCK
  have HCE := Lib.hid hce
  have HB0 := Lib.hid hb0
  clear hck hce hb0
  have hw0 : Below w.heap.size w (w.alloc (.cells #[Value.string nm, .int .i64 kd, .int .i64 a, vf] 57)) := (Below.refl _ w).alloc (Nat.le_refl _) _
  by_cases hz : ce = 0
  · have hz' : (ce != 0) = false := by simpa using hz
    have HZ := Lib.hid hz
    clear hz
    have hli : ∃ A c, vi = .slice A xs.length c := ownsRow_slice hbk.own
    obtain ⟨A, ci, rfl⟩ := hli
    obtain ⟨n, hn⟩ : ∃ n, n = xs.length := ⟨_, rfl⟩
    have HN := Lib.hid hn
    rw [← hn] at hbk hxl
    by_cases hfull : 1024 ≤ n
    · have HE : Hid (entErr xs ⟨nm, kd, a, frm⟩ = 9) := by unfold entErr Hid; rw [if_pos (HCE.out.symm.trans HZ.out), if_pos (by omega)]
      clear hn
      go_enter Try.func15, Try.ntmps15
      go_wp2_with fail
      refine (HCK.out _ hw0).mono ?_
      rintro e w1 ⟨rfl, hb1⟩
      have hbw : Below w.heap.size w w1 := hw0.trans (hb1.mono (by simp))
      have e0 := (hbk.below hbw).cell0
      clear hb1
      go_wp2_with fail
      go_ret
      exact ⟨ret_int HE.out.symm, F, by unfold entNew; rw [HE.out]; exact HB0.out.below hbw, (Keep.of_below hbw).mono (fun k h => h.1), fun k h => .inl h⟩
    · clear hn
      go_enter Try.func15, Try.ntmps15
      go_wp2_with fail
      refine (HCK.out _ hw0).mono ?_
      rintro e w1 ⟨rfl, hb1⟩
      have hbw : Below w.heap.size w w1 := hw0.trans (hb1.mono (by simp))
      have hm := box_cells hb1
      have hbk1 := hbk.below hbw
      have e0 := hbk1.cell0
      have e1 := hbk1.cell1
      have f1 : w1.frozen? ⟨bb, 1, none⟩ = false := frozen_of_row w1 _ 1 _ _ hbk1.blk
      have hbl : bb < w1.heap.size := (Array.getElem?_eq_some_iff.1 hbk1.blk).1
      have hxl' : w.heap.size < w1.heap.size := (Array.getElem?_eq_some_iff.1 hm).1
      clear hb1
      have hroad : ∃ mb w2 F2, BkMid w2 B bb (.slice A n ci) mb fs F2 xs xs ∧ Keep (fun k => k < w.heap.size ∧ ¬ F k) w w2 ∧ (∀ k, F2 k → F k ∨ w.heap.size ≤ k) ∧ w2.heap[w.heap.size]? = some (.cells #[Value.string nm, .int .i64 kd, .int .i64 a, vf] 57) ∧ w1.heap.size ≤ w2.heap.size ∧
          ((r = some mb ∧ w2 = w1) ∨ (r = none ∧ mb = w1.heap.size ∧ w2 = (w1.setCell ⟨bb, 1, none⟩ (.map (some w1.heap.size))).alloc (.map #[] 0))) := by
        cases r with
        | some mb => exact ⟨mb, w1, F, hbk1.mid, (Keep.of_below hbw).mono (fun k hk => hk.1), fun k hk => .inl hk, hm, Nat.le_refl _, .inl ⟨rfl, rfl⟩⟩
        | none =>
          obtain ⟨q1, q2⟩ := hbk1.made (by have := hbw.size; omega)
          refine ⟨w1.heap.size, _, _, q1, ?_, ?_, ?_, by simp, .inr ⟨rfl, rfl, ?_⟩⟩
          · refine ((Keep.of_below hbw).mono (fun k hk => hk.1)).trans (q2.mono fun k hk => ⟨by omega, fun h => hk.2 ?_⟩)
            rw [hbk.hF]; exact .inl h
          · intro k hk
            rw [hbk.hF]
            rcases hk with h | h | h
            · exact .inl (.inl h)
            · exact .inl (.inr (.inl h))
            · cases h; right; exact hbw.size
          · refine (q2.block _ ⟨hxl', fun h => ?_⟩).trans hm
            have := (Array.getElem?_eq_some_iff.1 hbk.blk).1
            omega
          · exact World.setCell_alloc_past _ _ _ _ hbl
      obtain ⟨mb, w2, F2, hmid, hk2, hF2, hm2, hs2, hroad⟩ := hroad
      rcases hroad with ⟨rfl, rfl⟩ | ⟨rfl, rfl, hw2⟩
      case' inl =>
        have hmn := fun w => run_eql_map_nil (P := Try.prog) w 77 9 3 (some mb) Try.underlying77
        go_wp2_with fail
        clear hmn
      case' inr =>
        have hmn := fun w => run_eql_map_nil (P := Try.prog) w 77 9 3 none Try.underlying77
        have hmm := @run_makeMap Try.prog
        have HW2 := Lib.hid hw2
        clear hw2
        go_wp2_with fail
        rw [← HW2.out]
        clear hmn hmm HW2
        obtain ⟨mb, hmb⟩ : ∃ mb, mb = w1.heap.size := ⟨_, rfl⟩
        rw [← hmb] at hmid ⊢
        clear hmb
      all_goals
        have e0 := hmid.cell0
        have e1 := hmid.cell1
        have c0 : w2.cell? ⟨w.heap.size, 0, none⟩ = some (.string nm) := cell_of_row w2 _ 0 _ _ _ hm2
        have hcz := chk_zero (HCE.out.symm.trans HZ.out)
        simp only at hcz
        have hidx := hcz.2.2.2.2.2.2.2.1
        have HCZ := Lib.hid hcz
        clear hcz
        have hmd := hmid.below (w' := w2.drew) ((Below.refl _ _).drew)
        obtain ⟨w5, hrun, hmid5, hg5⟩ := hmd.put (x := ⟨nm, kd, a, frm⟩) hidx hnm (by rw [← HN.out]; omega)
        rw [← HN.out] at hrun
        have hrun' : (Instr.mapUpdate 77 (.map (some mb)) (.string nm) (.int .i64 n)).run Try.prog w2.drew = .ok () w5 := hrun
        go_still_tail 11, (by kernel_rfl)
        change wpList _ _ _ _ _ w2.drew
        have HG5 := Lib.hid hg5
        have HMID5 := Lib.hid hmid5
        have hmne : mb ≠ w.heap.size := fun e => by
          obtain ⟨es, c, h⟩ := hmid.map.isMap
          rw [e, hm2] at h
          cases h
        clear hrun e1 c0 hmd hmid hidx hg5
        go_wp2_with fail
        clear hrun'
        have hmb2 : F mb ∨ w.heap.size ≤ mb := hF2 mb (by rw [HMID5.out.hF]; exact .inr (.inr rfl))
        have hk5 : Keep (fun k => k < w.heap.size ∧ ¬ F k) w w5 := by
          refine hk2.trans ⟨HG5.out.os, HG5.out.tape, HG5.out.output, HG5.out.size, fun k hk => HG5.out.block k (by have := hk2.size; have := hk.1; show k < w2.heap.size; omega) (fun e => ?_)⟩
          cases e
          rcases hmb2 with h | h
          · exact hk.2 h
          · have := hk.1; omega
        have hm5 : w5.heap[w.heap.size]? = some (.cells #[Value.string nm, .int .i64 kd, .int .i64 a, vf] 57) := by
          refine (HG5.out.block _ (by show _ < w2.heap.size; omega) (fun e => ?_)).trans hm2
          exact hmne (Option.some.inj e).symm
        have hv5 : Rd2 w5 (fun k => S k ∧ k < w.heap.size) vf frm := hv.lt.keep (hk5.mono fun k hk => ⟨hk.2, hS k hk.1⟩)
        have HCOP := Lib.hid (fun q => copied_any nm kd a vf frm (fun k => S k ∧ k < w.heap.size) (w5.drewN q) (hv5.below (below_drewN (Below.refl _ _) q)) (by have := HCZ.out.2.2.2.2.2.1; omega) (fun c hc => by have := (HCZ.out.2.2.2.2.2.2.1 c hc).2; omega))
        have HV5 := Lib.hid hv5
        have HK5 := Lib.hid hk5
        have b0 : w5.cell? ⟨w.heap.size, 0, none⟩ = some (.string nm) := cell_of_row w5 _ 0 _ _ _ hm5
        have b1 : w5.cell? ⟨w.heap.size, 1, none⟩ = some (.int .i64 kd) := cell_of_row w5 _ 1 _ _ _ hm5
        have b2 : w5.cell? ⟨w.heap.size, 2, none⟩ = some (.int .i64 a) := cell_of_row w5 _ 2 _ _ _ hm5
        have b3 : w5.cell? ⟨w.heap.size, 3, none⟩ = some vf := cell_of_row w5 _ 3 _ _ _ hm5
        have e5 := HMID5.out.cell0
        have hbb5 := (Array.getElem?_eq_some_iff.1 HMID5.out.blk).1
        have hB5 : B ≤ w5.heap.size := by have := hk5.size; omega
        obtain ⟨i0, hi, hz0, hz1, hz2⟩ := info_parts info37
        have HF2 := Lib.hid hF2
        have HMB := Lib.hid hmb2
        have HBK := Lib.hid hbk.hF
        clear hv5 hk5 hm5 e0 hm2 hs2 hk2 hF2 hbk hbk1 hmne hmb2 f1 hbl hxl' hm hbw hw0 hv hnms
        go_region_law (first | (refine step_append_own rfl _ _ 76 rfl B 57 i0 (.agg #[.string ⟨#[]⟩, .int .i64 0, .int .i64 0, .slice none 0 0]) 4 56 Try.underlying76 hi hz0 hz1 hz2 rfl (by decide) _ n (cellsOf xs fs) rfl (hown6.alloc _) ⟨w6.heap.size, 0, none⟩ 1 1 [.string nm, .int .i64 kd, .int .i64 a, .slice Af frm.length cf] rfl rfl (cells_new w6 #[.string nm, .int .i64 kd, .int .i64 a, .slice Af frm.length cf] 57 (0, 0)) (by intro u hu; simp at hu; rcases hu with rfl | rfl | rfl | rfl <;> rfl) (by unfold maxLen; omega) (by omega) (by simp; omega) ?_; intro v' w7 hown' hg' hfr'; obtain ⟨A', c', rfl⟩ := ownsRow_slice hown'; have HX7 := Lib.hid (And.intro hown' (And.intro hg' hfr')); have hm7 := (hg'.block bb (by simp; omega) (fun e => hmid6.ne e.symm)).trans ((Below.heap_alloc w6 _ bb hbb6).trans hmid6.blk); have e7 := cell_of_row w7 bb 0 _ _ _ hm7; have f7 := frozen_of_row w7 bb 0 _ _ hm7) | (go_simp; go_at_call 33; refine (HCOP.out _).mono ?_; rintro e w6 ⟨⟨vf', rfl, ho2⟩, hb6⟩; have hmid6 := HMID5.out.below (((below_drewN (Below.refl _ w5) _)).trans hb6); have hown6 := hmid6.own; rw [← HN.out] at hown6; have hB6 : B ≤ w6.heap.size := (by have := hb6.size; simp at this; omega); have hbb6 := (Array.getElem?_eq_some_iff.1 hmid6.blk).1; have e6 := hmid6.cell0; obtain ⟨Af, cf, rfl⟩ := ho2.slice))
        all_goals
          clear hmid6 hown6 hown' hg' hfr' hm7
          go_wp2_with fail
          go_ret
          have hE0 : entErr xs ⟨nm, kd, a, frm⟩ = ce := by unfold entErr; rw [← HCE.out, if_pos HZ.out, if_neg (by rw [← HN.out]; omega), HZ.out]
          have hb56 : Below w5.heap.size w5 w6 := (below_drewN (Below.refl _ w5) _).trans hb6
          obtain ⟨q1, q2⟩ := HMID5.out.finish rfl hb56 (by rw [← HN.out]; exact HX7.out.1) HX7.out.2.1 HX7.out.2.2 ho2 hB5
          refine ⟨ret_int ?_, (fun k => k = bb ∨ (Value.slice A' (n + 1) c').ownBlock = some k ∨ some mb = some k), ⟨bb, .slice A' (n + 1) c', some mb, fs ++ [.slice Af frm.length cf], rfl, ?_⟩, HK5.out.trans (q2.mono fun k hk => ⟨by have := HK5.out.size; omega, fun h => ?_⟩), fun k hk => ?_⟩
          · rw [hE0, HZ.out]
          · unfold entNew; rw [hE0, if_pos HZ.out]; exact q1
          · rcases HF2.out k h with h | h
            · exact hk.2 h
            · have := hk.1; omega
          · rw [HBK.out]
            rcases hk with h | h | h
            · exact .inl (.inl h)
            · rcases HX7.out.2.2 k h with h | h
              · exact .inl (.inr (.inl h))
              · right; have := HK5.out.size; have := hb56.size; simp at h; omega
            · cases h
              have := HMB.out
              rw [HBK.out] at this
              exact this
  · have hz' : (ce != 0) = true := by simpa using hz
    have HE : Hid (entErr xs ⟨nm, kd, a, frm⟩ = ce) := by unfold entErr Hid; rw [← HCE.out, if_neg hz]
    have HZ := Lib.hid hz
    clear hz
    go_enter Try.func15, Try.ntmps15
    go_wp2_with fail
    refine (HCK.out _ hw0).mono ?_
    rintro e w1 ⟨rfl, hb1⟩
    have hbw : Below w.heap.size w w1 := hw0.trans (hb1.mono (by simp))
    clear hb1
    go_wp2_with fail
    go_ret
    exact ⟨ret_int HE.out.symm, F, by unfold entNew; rw [HE.out, if_neg HZ.out]; exact HB0.out.below hbw, (Keep.of_below hbw).mono (fun k h => h.1), fun k h => .inl h⟩
end Go.Proofs.Ytogccnngdfancaa
