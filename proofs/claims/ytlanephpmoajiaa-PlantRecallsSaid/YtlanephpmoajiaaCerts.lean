/- The walks of Book.holds's closures. The walk of Book.holds. The walk of Book.Certain. -/
import Derived.Test.YtlanephpmoajiaaSpreadB
import Derived.Test.YtlanephpmoajiaaSrcs
namespace Go.Proofs.Ytlanephpmoajiaa
open Go.RowKit Go.Shelf
set_option linter.unusedVariables false

/-- Is a choice place k, or marked? -/
def cOk (xs : List ItemD) (m : List Bool) (k : Nat) (nm : ByteArray) : Bool := match idx xs nm with | some c => decide (c = k) || m.getD c false | none => false
def cMark (xs : List ItemD) (k : Nat) (m : List Bool) (i : Nat) : Bool := match xs[i]? with | some x => x.frm.any (fun c => c.all (cOk xs m k)) | none => false
/-- The marks after d rounds. -/
def cGo (xs : List ItemD) (k n : Nat) : Nat → List Bool
  | 0 => List.replicate n false
  | d + 1 => (cGo xs k n d).set (k + 1 + d) (cMark xs k (cGo xs k n d) (k + 1 + d))
theorem cGo_len (xs : List ItemD) (k n : Nat) : ∀ d, (cGo xs k n d).length = n
  | 0 => by simp [cGo]
  | d + 1 => by simp [cGo, cGo_len xs k n d]
/-- What the closures of holds have captured: the book, the place, the marks. -/
structure HoEnv (W : World) (B bb : Nat) (vi : Value) (r : Option Nat) (fs : List Value) (F : Nat → Prop) (xs : List ItemD) (b1 b2 b3 g : Nat) (m : List Bool) (k : Nat) : Prop where
  c1 : W.cell? ⟨b1, 0, none⟩ = some (.pointer (some ⟨bb, 0, none⟩))
  c2 : W.cell? ⟨b2, 0, none⟩ = some (.int .i64 k)
  c3 : W.cell? ⟨b3, 0, none⟩ = some (.slice (some ⟨g, 0, none⟩) m.length m.length)
  cm : ∀ j v, m[j]? = some v → W.cell? ⟨g, j, none⟩ = some (.bool v)
  bk : BkAt W B bb vi r fs F xs
section
variable {W W' : World} {B bb : Nat} {vi : Value} {r : Option Nat} {fs : List Value} {F : Nat → Prop} {xs : List ItemD} {b1 b2 b3 g : Nat} {m : List Bool} {k : Nat}
theorem HoEnv.below (h : HoEnv W B bb vi r fs F xs b1 b2 b3 g m k) (hb : Below W.heap.size W W') : HoEnv W' B bb vi r fs F xs b1 b2 b3 g m k := by
  have cl : ∀ {p : Addr} {v : Value}, W.cell? p = some v → W'.cell? p = some v := fun {p v} hp => (hb.cell (World.block_lt_of_cell? W p hp)).trans hp
  exact ⟨cl h.c1, cl h.c2, cl h.c3, fun j v hj => cl (h.cm j v hj), h.bk.below hb⟩
set_option maxRecDepth 100000 in
set_option maxHeartbeats 1000000 in
theorem holds102_any (hE : HoEnv W B bb vi r fs F xs b1 b2 b3 g m k) (nm : ByteArray) (hnm : nm.size ≤ maxLen) (c : Nat) (hc : idx xs nm = some c) (hm : c < m.length) :
    Calls Try.prog 102 #[.string nm, .pointer (some ⟨b1, 0, none⟩), .pointer (some ⟨b2, 0, none⟩), .pointer (some ⟨b3, 0, none⟩)] W
      fun e w' => e = .returned (.bool (!cOk xs m k nm)) ∧ Below W.heap.size W w' := by
  have hlk := MapV.look hE.bk.map hnm
  rw [show idxI xs nm = c from by simp [idxI, hc]] at hlk
  have e1 := hE.bk.cell1
  have c1 := hE.c1; have c2 := hE.c2; have c3 := hE.c3
  have hcm : m[c]? = some (m[c]'hm) := List.getElem?_eq_getElem hm
  have hmc := hE.cm c _ hcm
  have HS : Hid (cOk xs m k nm = (decide (c = k) || m[c]'hm)) := by unfold cOk Hid; simp only [hc, List.getD, hcm, Option.getD_some]
  obtain ⟨mv, hmv⟩ : ∃ mv, mv = m[c]'hm := ⟨_, rfl⟩
  rw [← hmv] at hmc HS
  obtain ⟨n, hn⟩ : ∃ n, n = m.length := ⟨_, rfl⟩
  rw [← hn] at c3 hm
  have hc1 : (c : Int) < (n : Int) := by omega
  have hc0 : (0 : Int) ≤ (c : Int) := by omega
  clear hE hcm hmv hn hc
  by_cases hck : c = k
  · have hb : ((c : Int) != (k : Int)) = false := by simp [hck]
    have HS1 : Hid (cOk xs m k nm = true) := by have := HS.out; unfold Hid; rw [this, decide_eq_true hck]; rfl
    clear hck
    go_enter Try.func102, Try.ntmps102
    go_wp2_with fail
    go_ret
    exact ⟨ret_bool (by rw [HS1.out]; rfl), Below.refl _ _⟩
  · have hb : ((c : Int) != (k : Int)) = true := by simp; omega
    have HS1 : Hid (cOk xs m k nm = mv) := by have := HS.out; unfold Hid; rw [this, decide_eq_false hck]; rfl
    clear hck
    cases mv
    all_goals
      go_enter Try.func102, Try.ntmps102
      go_wp2_with fail
      go_ret
      exact ⟨ret_bool (by rw [HS1.out]; rfl), Below.refl _ _⟩
theorem enters102 : ∀ args w, (callFunc 102 args).run Try.prog w = .ok (.enter 102 args) w := enters_of Try.func102 (by kernel_rfl) rfl
theorem enters101 : ∀ args w, (callFunc 101 args).run Try.prog w = .ok (.enter 101 args) w := enters_of Try.func101 (by kernel_rfl) rfl
set_option maxRecDepth 100000 in
set_option maxHeartbeats 1000000 in
theorem holds101_any (hE : HoEnv W B bb vi r fs F xs b1 b2 b3 g m k) (u : Value) (cs : List ByteArray) (S : Nat → Prop) (hu : Rd .string W S u cs) (hcs : ∀ nm ∈ cs, nm.size ≤ maxLen ∧ ∃ c, idx xs nm = some c ∧ c < m.length) :
    Calls Try.prog 101 #[u, .pointer (some ⟨b1, 0, none⟩), .pointer (some ⟨b2, 0, none⟩), .pointer (some ⟨b3, 0, none⟩)] W
      fun e w' => e = .returned (.bool (cs.all (cOk xs m k))) ∧ Below W.heap.size W w' := by
  have hcf := fun w1 (hb1 : Below W.heap.size W w1) => containsFunc98_any u (cs.map Value.string) S 102 #[.pointer (some ⟨b1, 0, none⟩), .pointer (some ⟨b2, 0, none⟩), .pointer (some ⟨b3, 0, none⟩)] enters102
    (fun j => !cOk xs m k (cs.getD j ⟨#[]⟩)) w1 (hu.vals.below hb1) (fun j v hj w' hb' => by
      rw [List.getElem?_map, Option.map_eq_some_iff] at hj
      obtain ⟨nm, hnm, rfl⟩ := hj
      obtain ⟨hsz, c, hc, hcm⟩ := hcs nm (mem_of_get? hnm)
      have hb2 := hb1.trans (hb'.mono hb1.size)
      have := holds102_any (hE.below hb2) nm hsz c hc hcm
      rw [show cs.getD j ⟨#[]⟩ = nm from by simp [List.getD, hnm]]
      exact this)
  rw [List.length_map, anyIdx_any ⟨#[]⟩ (fun nm => !cOk xs m k nm)] at hcf
  have HCF := Lib.hid hcf
  have HAL : Hid (cs.all (cOk xs m k) = !cs.any (fun nm => !cOk xs m k nm)) := by unfold Hid; rw [List.all_eq_not_any_not]
  obtain ⟨rb, hrb⟩ : ∃ rb, rb = cs.any (fun nm => !cOk xs m k nm) := ⟨_, rfl⟩
  rw [← hrb] at HCF HAL
  obtain ⟨A, cap, rfl, _⟩ := hu
  clear hcf hrb hE
  go_enter Try.func101, Try.ntmps101
  go_wp2_with fail
  refine (HCF.out _ (Below.refl _ _)).mono ?_
  rintro e w' ⟨rfl, hb1⟩
  go_wp2_with fail
  go_ret
  exact ⟨ret_bool (by rw [HAL.out]), hb1⟩
theorem holds92 (hE : HoEnv W B bb vi r fs F xs b1 b2 b3 g m k) (x : ItemD) (vf : Value) (S : Nat → Prop) (hv : Rd2 W S vf x.frm) (hcs : ∀ c ∈ x.frm, ∀ nm ∈ c, nm.size ≤ maxLen ∧ ∃ c, idx xs nm = some c ∧ c < m.length) :
    Calls Try.prog 92 #[vf, .func (.func 101) #[] #[.pointer (some ⟨b1, 0, none⟩), .pointer (some ⟨b2, 0, none⟩), .pointer (some ⟨b3, 0, none⟩)]] W
      fun e w' => e = .returned (.bool (x.frm.any (fun c => c.all (cOk xs m k)))) ∧ Below W.heap.size W w' := by
  obtain ⟨vs, hvs, hlen, hin⟩ := hv
  have := containsFunc92_any vf vs S 101 #[.pointer (some ⟨b1, 0, none⟩), .pointer (some ⟨b2, 0, none⟩), .pointer (some ⟨b3, 0, none⟩)] enters101
    (fun j => (x.frm.getD j []).all (cOk xs m k)) W hvs (fun j u hu w' hb' => by
      have hj : j < x.frm.length := by rw [← hlen]; exact (List.getElem?_eq_some_iff.1 hu).1
      have hg : x.frm[j]? = some x.frm[j] := List.getElem?_eq_getElem hj
      obtain ⟨u', hu', hr⟩ := hin j _ hg
      obtain rfl := Option.some.inj (hu.symm.trans hu')
      have := holds101_any (hE.below hb') u x.frm[j] S (hr.below hb') (hcs _ (List.getElem_mem hj))
      rw [show x.frm.getD j [] = x.frm[j] from by simp [List.getD, hg]]
      exact this)
  rw [hlen, anyIdx_any [] (fun c => c.all (cOk xs m k))] at this
  exact this
end
end Go.Proofs.Ytlanephpmoajiaa

namespace Go.Proofs.Ytlanephpmoajiaa
open Go.RowKit Go.Shelf
set_option linter.unusedVariables false
/-- What holds at the head of a round of holds. -/
structure HoRel (w : World) (bb k n g mv : Nat) (m : List Bool) (wr : World) : Prop where
  bel : Below w.heap.size w wr
  sz : mv < wr.heap.size
  hmv : w.heap.size + 3 ≤ mv
  h0 : wr.heap[w.heap.size]? = some (.cells #[.pointer (some ⟨bb, 0, none⟩)] 49)
  h1 : wr.heap[w.heap.size + 1]? = some (.cells #[.int .i64 k] 3)
  h4 : wr.heap[mv]? = some (.cells #[.slice (some ⟨g, 0, none⟩) n n] 122)
  own : wr.ownsRow w.heap.size 4 1 (.slice (some ⟨g, 0, none⟩) n n) n (m.map Value.bool)
theorem HoRel.step {w wr w2 : World} {bb k n g mv : Nat} {m : List Bool} (h : HoRel w bb k n g mv m wr) (hg : g = w.heap.size + 2) (hb : Below wr.heap.size wr w2) (i : Nat) (v : Bool) :
    HoRel w bb k n g mv (m.set i v) (w2.setCell ⟨g, i, none⟩ (.bool v)) := by
  have hs := h.sz
  have hmv := h.hmv
  have k1 : Keep (fun b => b < wr.heap.size ∧ b ≠ g) wr (w2.setCell ⟨g, i, none⟩ (.bool v)) := ((Keep.of_below hb).mono (fun b hb => hb.1)).setCell (fun h => h.2 rfl) _
  have gr : wr.grownBy w2 none := ⟨hb.os, hb.tape, hb.output, hb.size, fun b hb' _ => hb.block b hb'⟩
  refine ⟨h.bel.trans (Keep.below (k1.mono (S' := (· < w.heap.size)) fun b hb => ⟨by omega, by omega⟩)), by have := k1.size; omega, hmv, (k1.block _ ⟨by omega, by omega⟩).trans h.h0, (k1.block _ ⟨by omega, by omega⟩).trans h.h1, (k1.block _ ⟨by omega, by omega⟩).trans h.h4, ?_⟩
  rw [List.map_set]
  exact ((h.own.kept gr (.inr (by simp [Value.ownBlock]))).stored i (.bool v)).1
theorem HoRel.cm {w wr : World} {bb k n g mv : Nat} {m : List Bool} (h : HoRel w bb k n g mv m wr) : ∀ j v, m[j]? = some v → wr.cell? ⟨g, j, none⟩ = some (.bool v) := fun j v hj => by
  have hl := h.own.1
  have hjl := (List.getElem?_eq_some_iff.1 hj).1
  rw [h.own.cellAt j (by simp at hl; omega), List.getElem?_map, hj]; rfl
theorem ho_made {w w1 : World} {c1 c2 : Array Value} {t1 t2 : TypeId} (hg : ((w.alloc (.cells c1 t1)).alloc (.cells c2 t2)).grownBy w1 none) :
    w1.heap[w.heap.size]? = some (.cells c1 t1) ∧ w1.heap[w.heap.size + 1]? = some (.cells c2 t2) ∧ Below w.heap.size w w1 ∧ w.heap.size + 1 < w1.heap.size := by
  have hsz := hg.size
  simp only [World.size_alloc] at hsz
  have b : ∀ k, k < w.heap.size + 2 → w1.heap[k]? = ((w.alloc (.cells c1 t1)).alloc (.cells c2 t2)).heap[k]? := fun k hk => hg.block k (by simp; omega) (by simp)
  refine ⟨?_, ?_, (((Below.refl _ w).alloc (Nat.le_refl _) _).alloc (by simp) _).grown hg (by simp; omega) (fun _ h => by cases h), by omega⟩
  · rw [b _ (by omega), Below.heap_alloc _ _ _ (by simp)]; exact heap_alloc_new w _
  · rw [b _ (by omega)]; have := heap_alloc_new (w.alloc (.cells c1 t1)) (.cells c2 t2); simpa using this
set_option maxRecDepth 100000 in
set_option maxHeartbeats 2000000 in
theorem holds_any (p : Value) (B : Nat) (F : Nat → Prop) (xs : List ItemD) (k last : Nat) (hkl : k < last) (hin : last < xs.length) (hxl : xs.length ≤ 1024) (w : World)
    (hb : Bk w B p F xs) (hfd : Found xs) (hu : BookUq xs) :
    Calls Try.prog 73 #[p, .int .i64 k, .int .i64 last] w fun e w' => (∃ v, e = .returned v ∧ w'.ownsRow w.heap.size 4 1 v (last + 1) ((cGo xs k (last + 1) (last - k)).map Value.bool)) ∧ Below w.heap.size w w' := by
  obtain ⟨i0, hi, hz0, hz1, hz2⟩ := info_parts info4
  obtain ⟨bb, vi, r, fs, rfl, hbk⟩ := hb
  obtain ⟨A, ci, rfl⟩ := ownsRow_slice hbk.own
  have hbb := (Array.getElem?_eq_some_iff.1 hbk.blk).1
  obtain ⟨n, hn⟩ : ∃ n, n = last + 1 := ⟨_, rfl⟩
  obtain ⟨nn, hnn⟩ : ∃ nn, nn = xs.length := ⟨_, rfl⟩
  rw [← hn]
  have hL : (last : Int) + 1 = (n : Int) := by omega
  have hn1 : n ≤ 1024 := by omega
  have hln : last < n := by omega
  rw [← hnn] at hbk hin
  have HN := Lib.hid hn
  have HNN := Lib.hid hnn
  have HFD := Lib.hid hfd
  have HBK := Lib.hid hbk
  have hk64 : (k : Int) ≤ 1024 := by omega
  clear hn hnn hfd hbk
  go_enter Try.func73, Try.ntmps73
  go_wp2_with (at_make; refine wpList_make_full _ rfl _ _ 122 rfl w.heap.size 4 i0 (.bool false) 1 Try.underlying122 hi hz0 hz1 .i64 .i64 (n : Int) (n : Int) n rfl rfl rfl rfl (by rw [hz2]; omega) (by unfold maxLen; omega) (by simp; omega) ?_; intro w1 hown hgrow; obtain ⟨m0, m1, hbl1, hs1⟩ := ho_made hgrow; have hI1 := cell_of_row w1 _ 0 _ _ _ m1)
  have hst : HoRel w bb k n (w.heap.size + 1 + 1) w1.heap.size (cGo xs k n 0) (w1.alloc (Obj.cells #[Value.slice (some ⟨w.heap.size + 1 + 1, 0, none⟩) n n] 122)) := by
    have ho := hown
    simp only [World.size_alloc] at ho
    refine ⟨hbl1.alloc (by omega) _, by simp, by have := (ho.lt (w.heap.size + 1 + 1) rfl).2; omega, ?_, ?_, heap_alloc_new w1 _, ?_⟩
    · rw [Below.heap_alloc _ _ _ (by omega)]; exact m0
    · rw [Below.heap_alloc _ _ _ (by omega)]; exact m1
    · have := ho.alloc (Obj.cells #[Value.slice (some ⟨w.heap.size + 1 + 1, 0, none⟩) n n] 122)
      rw [made_false] at this
      exact this
  have HST := Lib.hid hst
  obtain ⟨mv, hmv⟩ : ∃ mv, mv = w1.heap.size := ⟨_, rfl⟩
  rw [← hmv] at HST ⊢
  clear hst hmv m0 m1 hbl1 hs1 hI1 hown hgrow hbb
  go_loopw [8] (fun iv wr => ∃ d : Nat, k + 1 + d ≤ n ∧ iv = .int .i64 ((k + 1 + d : Nat) : Int) ∧ HoRel w bb k n (w.heap.size + 1 + 1) mv (cGo xs k n d) wr) (fun iv _ => n - (intOf iv).toNat)
  case atStart => exact ⟨0, by omega, by go_num, HST.out⟩
  case round =>
    clear HST
    obtain ⟨d, hd, rfl, hrel⟩ := hrel
    have HR := Lib.hid hrel
    obtain ⟨i, hk⟩ : ∃ i, i = k + 1 + d := ⟨_, rfl⟩
    rw [← hk] at hd ⊢
    have HK := Lib.hid hk
    have hbk := HBK.out.below hrel.bel
    have e0 := hbk.cell0
    have cp := cell_of_row wr _ 0 _ _ _ hrel.h0
    have cm := cell_of_row wr _ 0 _ _ _ hrel.h4
    have hmvl := hrel.sz
    have hNm := hrel.hmv
    have hbbl := (Array.getElem?_eq_some_iff.1 hbk.blk).1
    clear hk
    by_cases hlt : i < n
    · have hil : (i : Int) ≤ (last : Int) := by omega
      obtain ⟨x, hx⟩ : ∃ x, xs[i]? = some x := ⟨xs[i]'(by have := HNN.out; omega), List.getElem?_eq_getElem (by have := HNN.out; omega)⟩
      obtain ⟨g', cap', f, he, hcap', hg1, hg2, i0', i1', i2', i3', hrf⟩ := hbk.item hx
      simp only [Value.slice.injEq] at he
      obtain ⟨rfl, -, rfl⟩ := he
      have hmem := mem_of_get? hx
      have hlen : (cGo xs k n d).length = n := cGo_len _ _ _ _
      obtain ⟨u0, hu0⟩ : ∃ u0, (cGo xs k n d)[i]? = some u0 := ⟨_, List.getElem?_eq_getElem (by omega)⟩
      have hcm := hrel.cm i u0 hu0
      have hfm : wr.frozen? ⟨w.heap.size + 1 + 1, i, none⟩ = false := hrel.own.frozenAt i
      have hgl : w.heap.size + 1 + 1 < wr.heap.size := by omega
      have hrf0 := hrf
      obtain ⟨vsf, hvsf, -⟩ := hrf
      obtain ⟨Af, cf, rfl, -⟩ := hvsf
      have hE : HoEnv wr B bb (.slice (some ⟨g', 0, none⟩) nn ci) r fs F xs w.heap.size (w.heap.size + 1) mv (w.heap.size + 1 + 1) (cGo xs k n d) k :=
        ⟨cp, cell_of_row wr _ 0 _ _ _ hrel.h1, by rw [hlen]; exact cm, fun j v hj => hrel.cm j v hj, hbk⟩
      have hcall := fun w' (h : Below wr.heap.size wr w') => holds92 (hE.below h) x (.slice Af vsf.length cf) _ (hrf0.below h) (fun c hc nm hnm => ⟨(HFD.out x hmem c hc nm hnm).1, by
        obtain ⟨j, hj, hji⟩ := hu.ord i x hx c hc nm hnm
        exact ⟨j, hj, by rw [hlen]; omega⟩⟩)
      have hmk : cMark xs k (cGo xs k n d) i = x.frm.any (fun c => c.all (cOk xs (cGo xs k n d) k)) := by unfold cMark; simp only [hx]
      rw [← hmk] at hcall
      obtain ⟨mk, hmk'⟩ : ∃ mk, mk = cMark xs k (cGo xs k n d) i := ⟨_, rfl⟩
      rw [← hmk'] at hcall
      have HMK := Lib.hid hmk'
      have HCALL := Lib.hid hcall
      have hwl : w.heap.size < wr.heap.size := by omega
      have i1 : (0 : Int) ≤ (i : Int) := by omega
      have i2 : (i : Int) < (n : Int) := by omega
      have i3 : (i : Int) < (nn : Int) := by omega
      obtain ⟨xn, xk, xa, xf⟩ := x
      simp only at *
      clear hmk hmk' hcall hE hbk hrel hlen hu0 hx hmem hrf0
      go_wp2_with fail
      go_region_with (go_at_call 92; refine (HCALL.out _ ((Below.refl _ _).drew)).mono ?_; rintro e w2 ⟨rfl, hb2⟩; have cm2 : w2.cell? ⟨mv, 0, none⟩ = some (.slice (some ⟨w.heap.size + 1 + 1, 0, none⟩) n n) := (hb2.cell (p := ⟨mv, 0, none⟩) hmvl).trans cm; have hcm2 : w2.cell? ⟨w.heap.size + 1 + 1, i, none⟩ = some (.bool u0) := (hb2.cell (p := ⟨w.heap.size + 1 + 1, i, none⟩) hgl).trans hcm; have hfm2 : w2.frozen? ⟨w.heap.size + 1 + 1, i, none⟩ = false := (hb2.frozen (p := ⟨w.heap.size + 1 + 1, i, none⟩) hgl).trans hfm; have cp2 : w2.cell? ⟨w.heap.size, 0, none⟩ = some (.pointer (some ⟨bb, 0, none⟩)) := (hb2.cell (p := ⟨w.heap.size, 0, none⟩) hwl).trans cp)
      all_goals
        have hstep := HR.out.step rfl ((((Below.refl _ _).drew).trans (hb2.mono (by simp)))) i mk
        have HSTEP := Lib.hid hstep
        clear hstep
        go_wp2_with fail
        go_roundw
        case rel => exact ⟨d + 1, by have := HK.out; omega, by rw [HK.out]; go_num, by
          have h1 := HSTEP.out
          rw [show cGo xs k n (d + 1) = (cGo xs k n d).set i mk from by rw [HMK.out, HK.out]; rfl]
          exact h1⟩
        case measure => simp [intOf]; omega
    · have hkn : i = n := by omega
      have hnl : (last : Int) < (i : Int) := by omega
      have HRES : Hid (cGo xs k n d = cGo xs k (last + 1) (last - k)) := by
        unfold Hid
        rw [← HN.out, show last - k = d from by have := HN.out; have := HK.out; omega]
      clear hbk
      go_wp2_with fail
      go_ret
      exact ⟨⟨_, rfl, by have := HR.out.own; rw [HRES.out] at this; rw [HN.out] at this ⊢; exact this⟩, HR.out.bel⟩
end Go.Proofs.Ytlanephpmoajiaa

namespace Go.Proofs.Ytlanephpmoajiaa
open Go.RowKit
set_option linter.unusedVariables false
/-- Is place k in item i for certain? -/
def certB (xs : List ItemD) (i k : Nat) : Bool := (cGo xs k (i + 1) (i - k)).getD i false
/-- The marks while the first j places have been looked at. -/
def certUp (xs : List ItemD) (i j : Nat) : List Bool := (ancMs xs i).mapIdx (fun t b => if t < j then b && certB xs i t else b)
theorem certUp_len (xs : List ItemD) (i j : Nat) : (certUp xs i j).length = xs.length := by unfold certUp; rw [List.length_mapIdx, ancMs_len]
theorem certUp_get (xs : List ItemD) (i j t : Nat) : (certUp xs i j)[t]? = (ancMs xs i)[t]?.map (fun b => if t < j then b && certB xs i t else b) := by unfold certUp; rw [List.getElem?_mapIdx]
theorem certUp_zero (xs : List ItemD) (i : Nat) : certUp xs i 0 = ancMs xs i := by
  refine List.ext_getElem? fun t => ?_
  rw [certUp_get]
  cases (ancMs xs i)[t]? <;> simp
theorem certUp_at {xs : List ItemD} {i j : Nat} (hj : j < xs.length) : (certUp xs i j).getD j false = (ancMs xs i).getD j false := by
  rw [List.getD_eq_getElem?_getD, certUp_get, List.getD_eq_getElem?_getD]
  rw [List.getElem?_eq_getElem (by rw [ancMs_len]; exact hj)]
  simp
theorem certUp_succ {xs : List ItemD} {i j : Nat} (hj : j < xs.length) {v : Bool} (hv : v = ((ancMs xs i).getD j false && certB xs i j)) : (certUp xs i j).set j v = certUp xs i (j + 1) := by
  refine List.ext_getElem? fun t => ?_
  rw [List.getElem?_set, certUp_get, certUp_get, certUp_len]
  by_cases h : j = t
  · subst h
    rw [if_pos rfl, if_pos hj, List.getElem?_eq_getElem (by rw [ancMs_len]; exact hj)]
    rw [hv, List.getD_eq_getElem?_getD, List.getElem?_eq_getElem (by rw [ancMs_len]; exact hj)]
    simp
  · rw [if_neg h]
    cases (ancMs xs i)[t]? with
    | none => rfl
    | some b =>
      simp only [Option.map_some]
      by_cases h2 : t < j
      · rw [if_pos h2, if_pos (by omega)]
      · rw [if_neg h2, if_neg (by omega)]
/-- The marks of what is in an item for certain. -/
def certMs (xs : List ItemD) (nm : ByteArray) : List Bool := match idx xs nm with | some i => certUp xs i xs.length | none => []
/-- What Certain leaves. -/
def CertainNames (w : World) (xs : List ItemD) (nm : ByteArray) (e : Ending) (w' : World) : Prop :=
  (∃ v, e = .returned (.tuple #[v, .int .i64 (findErr xs nm)]) ∧ Rd .string w' (w.heap.size ≤ ·) v (if findErr xs nm = 0 then namesOf xs (certMs xs nm) else [])) ∧ Below w.heap.size w w'
theorem Marks.put {w0 wr : World} {g n cap : Nat} {m : List Bool} (h : Marks w0 g n cap m wr) (hg : w0.heap.size ≤ g) (k : Nat) (v : Bool) : Marks w0 g n cap (m.set k v) (wr.setCell ⟨g, k, none⟩ (.bool v)) :=
  ⟨by have := (h.own.stored k (.bool v)).1; rw [List.map_set]; exact this, h.bel.setCell hg _⟩
theorem Marks.later {w0 wr w2 : World} {g n cap : Nat} {m : List Bool} (h : Marks w0 g n cap m wr) (hb : Below wr.heap.size wr w2) : Marks w0 g n cap m w2 :=
  ⟨h.own.kept (row := none) ⟨hb.os, hb.tape, hb.output, hb.size, fun k hk _ => hb.block k hk⟩ (Classical.em _), h.bel.trans (hb.mono h.bel.size)⟩
set_option maxRecDepth 100000 in
set_option maxHeartbeats 2000000 in
theorem Certain_any (p : Value) (B : Nat) (F : Nat → Prop) (xs : List ItemD) (nm : ByteArray) (w : World) (hb : Bk w B p F xs) (hfd : Found xs) (hu : BookUq xs) (hxl : xs.length ≤ 1024) (hnm : nm.size ≤ maxLen) :
    Calls Try.prog 37 #[p, .string nm] w (CertainNames w xs nm) := by
  obtain ⟨i0, hi0, hz0, hz1, hz2⟩ := info_parts info4
  have HFI := Lib.hid (find_any p B F xs nm w hb hnm)
  have HB := Lib.hid hb
  obtain ⟨bb, vi, r, fs, rfl, hbk⟩ := hb
  have hna := fun w' v ms (h : Below w.heap.size w w') (hr : Rd .bool w' (w.heap.size ≤ ·) v ms) (hl : ms.length = xs.length) => names_any (.pointer (some ⟨bb, 0, none⟩)) B F xs v ms _ w' (HB.out.below h) hr hl hxl
  have HNA := Lib.hid hna
  clear hna
  cases hi : idx xs nm with
  | none =>
    have hf : findErr xs nm = 5 := by simp [findErr, hi]
    have hx : idxI xs nm = 0 := by simp [idxI, hi]
    rw [hf, hx] at HFI
    have HF := Lib.hid hf
    clear hi hf hx hbk
    go_enter Try.func37, Try.ntmps37
    go_wp2_with (go_at_call 56; refine HFI.out.mono ?_; rintro e w' ⟨rfl, rfl⟩)
    go_ret2
    refine ⟨⟨_, by rw [HF.out]; rfl, ?_⟩, Below.refl _ _⟩
    rw [HF.out, if_neg (by decide)]
    exact Rd.none_ _ _ _
  | some i =>
    have hf : findErr xs nm = 0 := by simp [findErr, hi]
    have hx : idxI xs nm = i := by simp [idxI, hi]
    have hil := idx_lt hi
    rw [hf, hx] at HFI
    have HF := Lib.hid hf
    have HMS : Hid (certMs xs nm = certUp xs i xs.length) := by unfold certMs Hid; simp only [hi]
    obtain ⟨A, cp, rfl⟩ := ownsRow_slice hbk.own
    have e0 := hbk.cell0
    obtain ⟨n, hn⟩ : ∃ n, n = xs.length := ⟨_, rfl⟩
    rw [← hn] at e0 hil HMS
    have hn1024 : n ≤ 1024 := by omega
    have HN := Lib.hid hn
    have HGA := Lib.hid (fun (w1 : World) (hM : Marks w w.heap.size n n (List.replicate n false) w1) => gather_any (.pointer (some ⟨bb, 0, none⟩)) B F xs w HB.out hfd hu hxl w.heap.size n n (Nat.le_refl _) hn i (List.replicate n false) w1 hil (by simp) (by rw [hn]; exact clB_none xs i) hM)
    have hi1 : (0 : Int) ≤ (i : Int) := by omega
    have hi2 : (i : Int) < (i : Int) + 1 := by omega
    clear hi hf hx hbk hn
    go_enter Try.func37, Try.ntmps37
    go_wp2_with (first | (go_at_call 56; refine HFI.out.mono ?_; rintro e w' ⟨rfl, rfl⟩) | (at_make; refine wpList_make_full _ rfl _ _ 122 rfl w.heap.size 4 i0 (.bool false) 1 Try.underlying122 hi0 hz0 hz1 .i64 .i64 (n : Int) (n : Int) n rfl rfl rfl rfl (by rw [hz2]; omega) (by unfold maxLen; omega) (by simp) ?_; intro w1 hown hgrow; have hb1 : Below w.heap.size w w1 := (Below.refl _ w).grown hgrow (Nat.le_refl _) (fun k hk => by simp at hk); have HM1 := Lib.hid (Marks.new hown hb1); clear hown hgrow hb1))
    refine (HGA.out w1 HM1.out).mono ?_
    rintro e w2 ⟨⟨v, rfl⟩, m', hg, ho, hb2⟩
    have hma : m' = ancMs xs i := gath_all hu (by have := HN.out; omega) (by rw [← HN.out]; exact hg)
    subst hma
    have HM2 : Hid (Marks w w.heap.size n n (certUp xs i 0) w2) := by rw [certUp_zero]; exact ⟨ho, hb2⟩
    clear hg ho hb2
    go_wp2_with fail
    go_loopw [32] (fun iv wr => ∃ j : Nat, j ≤ n ∧ iv = .int .i64 j ∧ Marks w w.heap.size n n (certUp xs i j) wr) (fun iv _ => n - (intOf iv).toNat)
    case atStart => exact ⟨0, Nat.zero_le _, rfl, HM2.out⟩
    case round =>
      clear HM2
      obtain ⟨j, hj, rfl, hM⟩ := hrel
      by_cases hlt : j < n
      · obtain ⟨c0, f0⟩ := hM.at_ hlt
        rw [certUp_at (by have := HN.out; omega)] at c0
        have hnext := fun v (hv : v = ((ancMs xs i).getD j false && certB xs i j)) => certUp_succ (xs := xs) (i := i) (j := j) (by have := HN.out; omega) hv
        have hjn : j < xs.length := by have := HN.out; omega
        have hanc := ancMs_iff hu (i := i) (j := j) (by have := HN.out; omega) hjn
        obtain ⟨mk, hmk⟩ : ∃ mk, mk = (ancMs xs i).getD j false := ⟨_, rfl⟩
        rw [← hmk] at c0 hnext hanc
        have HNX := Lib.hid hnext
        have HANC := Lib.hid hanc
        have HM := Lib.hid hM
        have hj1 : (0 : Int) ≤ (j : Int) := by omega
        have hj2 : (j : Int) < (n : Int) := by omega
        clear hmk hnext hanc hM hjn
        cases mk with
        | false =>
          go_wp2_with fail
          go_roundw
          case rel => exact ⟨j + 1, by omega, by go_num, by
            have := HM.out.put (Nat.le_refl _) j false
            rw [HNX.out false rfl] at this
            exact this⟩
          case measure => simp [intOf]; omega
        | true =>
          have hji : j < i := (HANC.out.1 rfl).lt hu
          have HHO := Lib.hid (holds_any (.pointer (some ⟨bb, 0, none⟩)) B F xs j i hji (by have := HN.out; omega) hxl wr (HB.out.below HM.out.bel) hfd hu)
          go_wp2_with fail
          refine HHO.out.mono ?_
          rintro e w5 ⟨⟨v5, rfl, ho5⟩, hb5⟩
          obtain ⟨A5, c5, rfl⟩ := ownsRow_slice ho5
          obtain ⟨g5, hA5, -, -, hc5, -⟩ := FromW.at_ (w := wr) ⟨ho5, hb5⟩ (k := i) (by omega)
          subst hA5
          obtain ⟨q, hq⟩ : ∃ q, q = certB xs i j := ⟨_, rfl⟩
          rw [show (cGo xs j (i + 1) (i - j)).getD i false = q from hq.symm] at hc5
          have HM5 := Lib.hid (HM.out.later hb5)
          obtain ⟨c6, f6⟩ := HM5.out.at_ hlt
          have HQ := Lib.hid hq
          have hi3 : (i : Int) < ((i + 1 : Nat) : Int) := by omega
          clear ho5 hb5 hq c0 f0
          go_wp2_with fail
          go_roundw
          case rel => exact ⟨j + 1, by omega, by go_num, by
            have := HM5.out.put (Nat.le_refl _) j q
            rw [HNX.out q (by rw [HQ.out]; rfl)] at this
            exact this⟩
          case measure => simp [intOf]; omega
      · have hjn : j = n := by omega
        have HM := Lib.hid hM
        have HJ := Lib.hid hjn
        have hr : Rd .bool wr (w.heap.size ≤ ·) (.slice (some ⟨w.heap.size, 0, none⟩) n n) (certUp xs i n) := by
          have := HM.out.own
          rw [HJ.out] at this
          exact Rd.of_own this
        have HNM := Lib.hid (HNA.out wr _ (certUp xs i n) HM.out.bel hr (certUp_len xs i n))
        have HB2 := Lib.hid HM.out.bel
        clear hM hr hjn
        go_wp2_with fail
        refine HNM.out.mono ?_
        rintro e w3 ⟨⟨v3, rfl, hr3⟩, hb3⟩
        go_wp2_with fail
        go_ret2
        refine ⟨⟨_, by rw [HF.out]; rfl, ?_⟩, HB2.out.trans (hb3.mono HB2.out.size)⟩
        rw [HF.out, if_pos rfl, HMS.out]
        exact hr3.mono fun b hb => Nat.le_trans HB2.out.size hb
end Go.Proofs.Ytlanephpmoajiaa

