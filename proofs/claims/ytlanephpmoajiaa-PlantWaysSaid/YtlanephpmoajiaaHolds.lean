/- The walk of Book.holds. -/
import Derived.Test.YtlanephpmoajiaaHoldsA
import Derived.Test.YtlanephpmoajiaaRefSrc
namespace Go.Proofs.Ytlanephpmoajiaa
open Go.RowKit Go.Shelf
set_option linter.unusedVariables false
/-- What holds at the head of a round of holds. -/
structure HoRel (w : World) (bb k n g mv : Nat) (m : List Bool) (wr : World) : Prop where
  bel : Below w.heap.size w wr
  sz : mv < wr.heap.size
  hmv : w.heap.size + 3 ≤ mv
  h0 : wr.heap[w.heap.size]? = some (.cells #[.pointer (some ⟨bb, 0, none⟩)] 49)
  h1 : wr.heap[w.heap.size + 1]? = some (.cells #[.int .i64 k] 3)
  h4 : wr.heap[mv]? = some (.cells #[.slice (some ⟨g, 0, none⟩) n n] 122)
  own : wr.ownsRow w.heap.size 4 1 (.slice (some ⟨g, 0, none⟩) n n) n (m.map Value.bool)
theorem HoRel.step {w wr w2 : World} {bb k n g mv : Nat} {m : List Bool} (h : HoRel w bb k n g mv m wr) (hg : g = w.heap.size + 2) (hb : Below wr.heap.size wr w2) (i : Nat) (v : Bool) :
    HoRel w bb k n g mv (m.set i v) (w2.setCell ⟨g, i, none⟩ (.bool v)) := by
  have hs := h.sz
  have hmv := h.hmv
  have k1 : Keep (fun b => b < wr.heap.size ∧ b ≠ g) wr (w2.setCell ⟨g, i, none⟩ (.bool v)) := ((Keep.of_below hb).mono (fun b hb => hb.1)).setCell (fun h => h.2 rfl) _
  have gr : wr.grownBy w2 none := ⟨hb.os, hb.tape, hb.output, hb.size, fun b hb' _ => hb.block b hb'⟩
  refine ⟨h.bel.trans (Keep.below (k1.mono (S' := (· < w.heap.size)) fun b hb => ⟨by omega, by omega⟩)), by have := k1.size; omega, hmv, (k1.block _ ⟨by omega, by omega⟩).trans h.h0, (k1.block _ ⟨by omega, by omega⟩).trans h.h1, (k1.block _ ⟨by omega, by omega⟩).trans h.h4, ?_⟩
  rw [List.map_set]
  exact ((h.own.kept gr (.inr (by simp [Value.ownBlock]))).stored i (.bool v)).1
theorem HoRel.cm {w wr : World} {bb k n g mv : Nat} {m : List Bool} (h : HoRel w bb k n g mv m wr) : ∀ j v, m[j]? = some v → wr.cell? ⟨g, j, none⟩ = some (.bool v) := fun j v hj => by
  have hl := h.own.1
  have hjl := (List.getElem?_eq_some_iff.1 hj).1
  rw [h.own.cellAt j (by simp at hl; omega), List.getElem?_map, hj]; rfl
theorem ho_made {w w1 : World} {c1 c2 : Array Value} {t1 t2 : TypeId} (hg : ((w.alloc (.cells c1 t1)).alloc (.cells c2 t2)).grownBy w1 none) :
    w1.heap[w.heap.size]? = some (.cells c1 t1) ∧ w1.heap[w.heap.size + 1]? = some (.cells c2 t2) ∧ Below w.heap.size w w1 ∧ w.heap.size + 1 < w1.heap.size := by
  have hsz := hg.size
  simp only [World.size_alloc] at hsz
  have b : ∀ k, k < w.heap.size + 2 → w1.heap[k]? = ((w.alloc (.cells c1 t1)).alloc (.cells c2 t2)).heap[k]? := fun k hk => hg.block k (by simp; omega) (by simp)
  refine ⟨?_, ?_, (((Below.refl _ w).alloc (Nat.le_refl _) _).alloc (by simp) _).grown hg (by simp; omega) (fun _ h => by cases h), by omega⟩
  · rw [b _ (by omega), Below.heap_alloc _ _ _ (by simp)]; exact heap_alloc_new w _
  · rw [b _ (by omega)]; have := heap_alloc_new (w.alloc (.cells c1 t1)) (.cells c2 t2); simpa using this
set_option maxRecDepth 100000 in
set_option maxHeartbeats 2000000 in
theorem holds_any (p : Value) (B : Nat) (F : Nat → Prop) (xs : List ItemD) (k last : Nat) (hkl : k < last) (hin : last < xs.length) (hxl : xs.length ≤ 1024) (w : World)
    (hb : Bk w B p F xs) (hfd : Found xs) (hu : BookUq xs) :
    Calls Try.prog 73 #[p, .int .i64 k, .int .i64 last] w fun e w' => (∃ v, e = .returned v ∧ w'.ownsRow w.heap.size 4 1 v (last + 1) ((cGo xs k (last + 1) (last - k)).map Value.bool)) ∧ Below w.heap.size w w' := by
  obtain ⟨i0, hi, hz0, hz1, hz2⟩ := info_parts info4
  obtain ⟨bb, vi, r, fs, rfl, hbk⟩ := hb
  obtain ⟨A, ci, rfl⟩ := ownsRow_slice hbk.own
  have hbb := (Array.getElem?_eq_some_iff.1 hbk.blk).1
  obtain ⟨n, hn⟩ : ∃ n, n = last + 1 := ⟨_, rfl⟩
  obtain ⟨nn, hnn⟩ : ∃ nn, nn = xs.length := ⟨_, rfl⟩
  rw [← hn]
  have hL : (last : Int) + 1 = (n : Int) := by omega
  have hn1 : n ≤ 1024 := by omega
  have hln : last < n := by omega
  rw [← hnn] at hbk hin
  have HN := Lib.hid hn
  have HNN := Lib.hid hnn
  have HFD := Lib.hid hfd
  have HBK := Lib.hid hbk
  have hk64 : (k : Int) ≤ 1024 := by omega
  clear hn hnn hfd hbk
  go_enter Try.func73, Try.ntmps73
  go_wp2_with (at_make; refine wpList_make_full _ rfl _ _ 122 rfl w.heap.size 4 i0 (.bool false) 1 Try.underlying122 hi hz0 hz1 .i64 .i64 (n : Int) (n : Int) n rfl rfl rfl rfl (by rw [hz2]; omega) (by unfold maxLen; omega) (by simp; omega) ?_; intro w1 hown hgrow; obtain ⟨m0, m1, hbl1, hs1⟩ := ho_made hgrow; have hI1 := cell_of_row w1 _ 0 _ _ _ m1)
  have hst : HoRel w bb k n (w.heap.size + 1 + 1) w1.heap.size (cGo xs k n 0) (w1.alloc (Obj.cells #[Value.slice (some ⟨w.heap.size + 1 + 1, 0, none⟩) n n] 122)) := by
    have ho := hown
    simp only [World.size_alloc] at ho
    refine ⟨hbl1.alloc (by omega) _, by simp, by have := (ho.lt (w.heap.size + 1 + 1) rfl).2; omega, ?_, ?_, heap_alloc_new w1 _, ?_⟩
    · rw [Below.heap_alloc _ _ _ (by omega)]; exact m0
    · rw [Below.heap_alloc _ _ _ (by omega)]; exact m1
    · have := ho.alloc (Obj.cells #[Value.slice (some ⟨w.heap.size + 1 + 1, 0, none⟩) n n] 122)
      rw [made_false] at this
      exact this
  have HST := Lib.hid hst
  obtain ⟨mv, hmv⟩ : ∃ mv, mv = w1.heap.size := ⟨_, rfl⟩
  rw [← hmv] at HST ⊢
  clear hst hmv m0 m1 hbl1 hs1 hI1 hown hgrow hbb
  go_loopw [8] (fun iv wr => ∃ d : Nat, k + 1 + d ≤ n ∧ iv = .int .i64 ((k + 1 + d : Nat) : Int) ∧ HoRel w bb k n (w.heap.size + 1 + 1) mv (cGo xs k n d) wr) (fun iv _ => n - (intOf iv).toNat)
  case atStart => exact ⟨0, by omega, by go_num, HST.out⟩
  case round =>
    clear HST
    obtain ⟨d, hd, rfl, hrel⟩ := hrel
    have HR := Lib.hid hrel
    obtain ⟨i, hk⟩ : ∃ i, i = k + 1 + d := ⟨_, rfl⟩
    rw [← hk] at hd ⊢
    have HK := Lib.hid hk
    have hbk := HBK.out.below hrel.bel
    have e0 := hbk.cell0
    have cp := cell_of_row wr _ 0 _ _ _ hrel.h0
    have cm := cell_of_row wr _ 0 _ _ _ hrel.h4
    have hmvl := hrel.sz
    have hNm := hrel.hmv
    have hbbl := (Array.getElem?_eq_some_iff.1 hbk.blk).1
    clear hk
    by_cases hlt : i < n
    · have hil : (i : Int) ≤ (last : Int) := by omega
      obtain ⟨x, hx⟩ : ∃ x, xs[i]? = some x := ⟨xs[i]'(by have := HNN.out; omega), List.getElem?_eq_getElem (by have := HNN.out; omega)⟩
      obtain ⟨g', cap', f, he, hcap', hg1, hg2, i0', i1', i2', i3', hrf⟩ := hbk.item hx
      simp only [Value.slice.injEq] at he
      obtain ⟨rfl, -, rfl⟩ := he
      have hmem := mem_of_get? hx
      have hlen : (cGo xs k n d).length = n := cGo_len _ _ _ _
      obtain ⟨u0, hu0⟩ : ∃ u0, (cGo xs k n d)[i]? = some u0 := ⟨_, List.getElem?_eq_getElem (by omega)⟩
      have hcm := hrel.cm i u0 hu0
      have hfm : wr.frozen? ⟨w.heap.size + 1 + 1, i, none⟩ = false := hrel.own.frozenAt i
      have hgl : w.heap.size + 1 + 1 < wr.heap.size := by omega
      have hrf0 := hrf
      obtain ⟨vsf, hvsf, -⟩ := hrf
      obtain ⟨Af, cf, rfl, -⟩ := hvsf
      have hE : HoEnv wr B bb (.slice (some ⟨g', 0, none⟩) nn ci) r fs F xs w.heap.size (w.heap.size + 1) mv (w.heap.size + 1 + 1) (cGo xs k n d) k :=
        ⟨cp, cell_of_row wr _ 0 _ _ _ hrel.h1, by rw [hlen]; exact cm, fun j v hj => hrel.cm j v hj, hbk⟩
      have hcall := fun w' (h : Below wr.heap.size wr w') => holds92 (hE.below h) x (.slice Af vsf.length cf) _ (hrf0.below h) (fun c hc nm hnm => ⟨(HFD.out x hmem c hc nm hnm).1, by
        obtain ⟨j, hj, hji⟩ := hu.ord i x hx c hc nm hnm
        exact ⟨j, hj, by rw [hlen]; omega⟩⟩)
      have hmk : cMark xs k (cGo xs k n d) i = x.frm.any (fun c => c.all (cOk xs (cGo xs k n d) k)) := by unfold cMark; simp only [hx]
      rw [← hmk] at hcall
      obtain ⟨mk, hmk'⟩ : ∃ mk, mk = cMark xs k (cGo xs k n d) i := ⟨_, rfl⟩
      rw [← hmk'] at hcall
      have HMK := Lib.hid hmk'
      have HCALL := Lib.hid hcall
      have hwl : w.heap.size < wr.heap.size := by omega
      have i1 : (0 : Int) ≤ (i : Int) := by omega
      have i2 : (i : Int) < (n : Int) := by omega
      have i3 : (i : Int) < (nn : Int) := by omega
      obtain ⟨xn, xk, xa, xf⟩ := x
      simp only at *
      clear hmk hmk' hcall hE hbk hrel hlen hu0 hx hmem hrf0
      go_wp2_with fail
      go_region_with (go_at_call 92; refine (HCALL.out _ ((Below.refl _ _).drew)).mono ?_; rintro e w2 ⟨rfl, hb2⟩; have cm2 : w2.cell? ⟨mv, 0, none⟩ = some (.slice (some ⟨w.heap.size + 1 + 1, 0, none⟩) n n) := (hb2.cell (p := ⟨mv, 0, none⟩) hmvl).trans cm; have hcm2 : w2.cell? ⟨w.heap.size + 1 + 1, i, none⟩ = some (.bool u0) := (hb2.cell (p := ⟨w.heap.size + 1 + 1, i, none⟩) hgl).trans hcm; have hfm2 : w2.frozen? ⟨w.heap.size + 1 + 1, i, none⟩ = false := (hb2.frozen (p := ⟨w.heap.size + 1 + 1, i, none⟩) hgl).trans hfm; have cp2 : w2.cell? ⟨w.heap.size, 0, none⟩ = some (.pointer (some ⟨bb, 0, none⟩)) := (hb2.cell (p := ⟨w.heap.size, 0, none⟩) hwl).trans cp)
      all_goals
        have hstep := HR.out.step rfl ((((Below.refl _ _).drew).trans (hb2.mono (by simp)))) i mk
        have HSTEP := Lib.hid hstep
        clear hstep
        go_wp2_with fail
        go_roundw
        case rel => exact ⟨d + 1, by have := HK.out; omega, by rw [HK.out]; go_num, by
          have h1 := HSTEP.out
          rw [show cGo xs k n (d + 1) = (cGo xs k n d).set i mk from by rw [HMK.out, HK.out]; rfl]
          exact h1⟩
        case measure => simp [intOf]; omega
    · have hkn : i = n := by omega
      have hnl : (last : Int) < (i : Int) := by omega
      have HRES : Hid (cGo xs k n d = cGo xs k (last + 1) (last - k)) := by
        unfold Hid
        rw [← HN.out, show last - k = d from by have := HN.out; have := HK.out; omega]
      clear hbk
      go_wp2_with fail
      go_ret
      exact ⟨⟨_, rfl, by have := HR.out.own; rw [HRES.out] at this; rw [HN.out] at this ⊢; exact this⟩, HR.out.bel⟩
end Go.Proofs.Ytlanephpmoajiaa
