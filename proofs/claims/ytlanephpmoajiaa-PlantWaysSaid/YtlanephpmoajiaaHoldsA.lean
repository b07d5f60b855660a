/- The walks of Book.holds's closures. -/
import Derived.Test.YtlanephpmoajiaaSpreadB
namespace Go.Proofs.Ytlanephpmoajiaa
open Go.RowKit Go.Shelf
set_option linter.unusedVariables false

/-- Is a choice place k, or marked? -/
def cOk (xs : List ItemD) (m : List Bool) (k : Nat) (nm : ByteArray) : Bool := match idx xs nm with | some c => decide (c = k) || m.getD c false | none => false
def cMark (xs : List ItemD) (k : Nat) (m : List Bool) (i : Nat) : Bool := match xs[i]? with | some x => x.frm.any (fun c => c.all (cOk xs m k)) | none => false
/-- The marks after d rounds. -/
def cGo (xs : List ItemD) (k n : Nat) : Nat → List Bool
  | 0 => List.replicate n false
  | d + 1 => (cGo xs k n d).set (k + 1 + d) (cMark xs k (cGo xs k n d) (k + 1 + d))
theorem cGo_len (xs : List ItemD) (k n : Nat) : ∀ d, (cGo xs k n d).length = n
  | 0 => by simp [cGo]
  | d + 1 => by simp [cGo, cGo_len xs k n d]
/-- What the closures of holds have captured: the book, the place, the marks. -/
structure HoEnv (W : World) (B bb : Nat) (vi : Value) (r : Option Nat) (fs : List Value) (F : Nat → Prop) (xs : List ItemD) (b1 b2 b3 g : Nat) (m : List Bool) (k : Nat) : Prop where
  c1 : W.cell? ⟨b1, 0, none⟩ = some (.pointer (some ⟨bb, 0, none⟩))
  c2 : W.cell? ⟨b2, 0, none⟩ = some (.int .i64 k)
  c3 : W.cell? ⟨b3, 0, none⟩ = some (.slice (some ⟨g, 0, none⟩) m.length m.length)
  cm : ∀ j v, m[j]? = some v → W.cell? ⟨g, j, none⟩ = some (.bool v)
  bk : BkAt W B bb vi r fs F xs
section
variable {W W' : World} {B bb : Nat} {vi : Value} {r : Option Nat} {fs : List Value} {F : Nat → Prop} {xs : List ItemD} {b1 b2 b3 g : Nat} {m : List Bool} {k : Nat}
theorem HoEnv.below (h : HoEnv W B bb vi r fs F xs b1 b2 b3 g m k) (hb : Below W.heap.size W W') : HoEnv W' B bb vi r fs F xs b1 b2 b3 g m k := by
  have cl : ∀ {p : Addr} {v : Value}, W.cell? p = some v → W'.cell? p = some v := fun {p v} hp => (hb.cell (World.block_lt_of_cell? W p hp)).trans hp
  exact ⟨cl h.c1, cl h.c2, cl h.c3, fun j v hj => cl (h.cm j v hj), h.bk.below hb⟩
set_option maxRecDepth 100000 in
set_option maxHeartbeats 1000000 in
theorem holds102_any (hE : HoEnv W B bb vi r fs F xs b1 b2 b3 g m k) (nm : ByteArray) (hnm : nm.size ≤ maxLen) (c : Nat) (hc : idx xs nm = some c) (hm : c < m.length) :
    Calls Try.prog 102 #[.string nm, .pointer (some ⟨b1, 0, none⟩), .pointer (some ⟨b2, 0, none⟩), .pointer (some ⟨b3, 0, none⟩)] W
      fun e w' => e = .returned (.bool (!cOk xs m k nm)) ∧ Below W.heap.size W w' := by
  have hlk := MapV.look hE.bk.map hnm
  rw [show idxI xs nm = c from by simp [idxI, hc]] at hlk
  have e1 := hE.bk.cell1
  have c1 := hE.c1; have c2 := hE.c2; have c3 := hE.c3
  have hcm : m[c]? = some (m[c]'hm) := List.getElem?_eq_getElem hm
  have hmc := hE.cm c _ hcm
  have HS : Hid (cOk xs m k nm = (decide (c = k) || m[c]'hm)) := by unfold cOk Hid; simp only [hc, List.getD, hcm, Option.getD_some]
  obtain ⟨mv, hmv⟩ : ∃ mv, mv = m[c]'hm := ⟨_, rfl⟩
  rw [← hmv] at hmc HS
  obtain ⟨n, hn⟩ : ∃ n, n = m.length := ⟨_, rfl⟩
  rw [← hn] at c3 hm
  have hc1 : (c : Int) < (n : Int) := by omega
  have hc0 : (0 : Int) ≤ (c : Int) := by omega
  clear hE hcm hmv hn hc
  by_cases hck : c = k
  · have hb : ((c : Int) != (k : Int)) = false := by simp [hck]
    have HS1 : Hid (cOk xs m k nm = true) := by have := HS.out; unfold Hid; rw [this, decide_eq_true hck]; rfl
    clear hck
    go_enter Try.func102, Try.ntmps102
    go_wp2_with fail
    go_ret
    exact ⟨ret_bool (by rw [HS1.out]; rfl), Below.refl _ _⟩
  · have hb : ((c : Int) != (k : Int)) = true := by simp; omega
    have HS1 : Hid (cOk xs m k nm = mv) := by have := HS.out; unfold Hid; rw [this, decide_eq_false hck]; rfl
    clear hck
    cases mv
    all_goals
      go_enter Try.func102, Try.ntmps102
      go_wp2_with fail
      go_ret
      exact ⟨ret_bool (by rw [HS1.out]; rfl), Below.refl _ _⟩
theorem enters102 : ∀ args w, (callFunc 102 args).run Try.prog w = .ok (.enter 102 args) w := enters_of Try.func102 (by kernel_rfl) rfl
theorem enters101 : ∀ args w, (callFunc 101 args).run Try.prog w = .ok (.enter 101 args) w := enters_of Try.func101 (by kernel_rfl) rfl
set_option maxRecDepth 100000 in
set_option maxHeartbeats 1000000 in
theorem holds101_any (hE : HoEnv W B bb vi r fs F xs b1 b2 b3 g m k) (u : Value) (cs : List ByteArray) (S : Nat → Prop) (hu : Rd .string W S u cs) (hcs : ∀ nm ∈ cs, nm.size ≤ maxLen ∧ ∃ c, idx xs nm = some c ∧ c < m.length) :
    Calls Try.prog 101 #[u, .pointer (some ⟨b1, 0, none⟩), .pointer (some ⟨b2, 0, none⟩), .pointer (some ⟨b3, 0, none⟩)] W
      fun e w' => e = .returned (.bool (cs.all (cOk xs m k))) ∧ Below W.heap.size W w' := by
  have hcf := fun w1 (hb1 : Below W.heap.size W w1) => containsFunc98_any u (cs.map Value.string) S 102 #[.pointer (some ⟨b1, 0, none⟩), .pointer (some ⟨b2, 0, none⟩), .pointer (some ⟨b3, 0, none⟩)] enters102
    (fun j => !cOk xs m k (cs.getD j ⟨#[]⟩)) w1 (hu.vals.below hb1) (fun j v hj w' hb' => by
      rw [List.getElem?_map, Option.map_eq_some_iff] at hj
      obtain ⟨nm, hnm, rfl⟩ := hj
      obtain ⟨hsz, c, hc, hcm⟩ := hcs nm (mem_of_get? hnm)
      have hb2 := hb1.trans (hb'.mono hb1.size)
      have := holds102_any (hE.below hb2) nm hsz c hc hcm
      rw [show cs.getD j ⟨#[]⟩ = nm from by simp [List.getD, hnm]]
      exact this)
  rw [List.length_map, anyIdx_any ⟨#[]⟩ (fun nm => !cOk xs m k nm)] at hcf
  have HCF := Lib.hid hcf
  have HAL : Hid (cs.all (cOk xs m k) = !cs.any (fun nm => !cOk xs m k nm)) := by unfold Hid; rw [List.all_eq_not_any_not]
  obtain ⟨rb, hrb⟩ : ∃ rb, rb = cs.any (fun nm => !cOk xs m k nm) := ⟨_, rfl⟩
  rw [← hrb] at HCF HAL
  obtain ⟨A, cap, rfl, _⟩ := hu
  clear hcf hrb hE
  go_enter Try.func101, Try.ntmps101
  go_wp2_with fail
  refine (HCF.out _ (Below.refl _ _)).mono ?_
  rintro e w' ⟨rfl, hb1⟩
  go_wp2_with fail
  go_ret
  exact ⟨ret_bool (by rw [HAL.out]), hb1⟩
theorem holds92 (hE : HoEnv W B bb vi r fs F xs b1 b2 b3 g m k) (x : ItemD) (vf : Value) (S : Nat → Prop) (hv : Rd2 W S vf x.frm) (hcs : ∀ c ∈ x.frm, ∀ nm ∈ c, nm.size ≤ maxLen ∧ ∃ c, idx xs nm = some c ∧ c < m.length) :
    Calls Try.prog 92 #[vf, .func (.func 101) #[] #[.pointer (some ⟨b1, 0, none⟩), .pointer (some ⟨b2, 0, none⟩), .pointer (some ⟨b3, 0, none⟩)]] W
      fun e w' => e = .returned (.bool (x.frm.any (fun c => c.all (cOk xs m k)))) ∧ Below W.heap.size W w' := by
  obtain ⟨vs, hvs, hlen, hin⟩ := hv
  have := containsFunc92_any vf vs S 101 #[.pointer (some ⟨b1, 0, none⟩), .pointer (some ⟨b2, 0, none⟩), .pointer (some ⟨b3, 0, none⟩)] enters101
    (fun j => (x.frm.getD j []).all (cOk xs m k)) W hvs (fun j u hu w' hb' => by
      have hj : j < x.frm.length := by rw [← hlen]; exact (List.getElem?_eq_some_iff.1 hu).1
      have hg : x.frm[j]? = some x.frm[j] := List.getElem?_eq_getElem hj
      obtain ⟨u', hu', hr⟩ := hin j _ hg
      obtain rfl := Option.some.inj (hu.symm.trans hu')
      have := holds101_any (hE.below hb') u x.frm[j] S (hr.below hb') (hcs _ (List.getElem_mem hj))
      rw [show x.frm.getD j [] = x.frm[j] from by simp [List.getD, hg]]
      exact this)
  rw [hlen, anyIdx_any [] (fun c => c.all (cOk xs m k))] at this
  exact this
end
end Go.Proofs.Ytlanephpmoajiaa
