/- The walk of the statement PlantBothWays. -/
import Derived.Test.YtlanephpmoajiaaAllBox
import Derived.Test.YtlanephpmoajiaaBothPlain
import Derived.Maps.AppendAt
namespace Go.Proofs.Ytlanephpmoajiaa
open Go.RowKit Go.Shelf
set_option linter.unusedVariables false
attribute [local go_sem] Oper.semAt_some
/-- A list and no error. -/
def Ret0 (w : World) (L : List ByteArray) (e : Ending) (w' : World) : Prop := ∃ v, e = .returned (.tuple #[v, .int .i64 0]) ∧ Rd .string w' (fun _ => True) v L ∧ Below w.heap.size w w'
theorem src_ret {w w' : World} {xs : List ItemD} {i : Nat} {x : ItemD} {e : Ending} (hu : BookUq xs) (hx : xs[i]? = some x) (h : SourcesNames w xs x.name e w') : Ret0 w (srcN xs i) e w' := by
  obtain ⟨⟨v, he, hr⟩, hb⟩ := h
  have hi := hu.uniq i x hx
  have hf : findErr xs x.name = 0 := by simp [findErr, hi]
  rw [hf] at he hr
  rw [if_pos rfl] at hr
  unfold srcMs at hr
  simp only [hi] at hr
  exact ⟨v, he, hr.mono fun _ _ => trivial, hb⟩
theorem cert_ret {w w' : World} {xs : List ItemD} {i : Nat} {x : ItemD} {e : Ending} (hu : BookUq xs) (hx : xs[i]? = some x) (h : CertainNames w xs x.name e w') : Ret0 w (certN xs i) e w' := by
  obtain ⟨⟨v, he, hr⟩, hb⟩ := h
  have hi := hu.uniq i x hx
  have hf : findErr xs x.name = 0 := by simp [findErr, hi]
  rw [hf] at he hr
  rw [if_pos rfl] at hr
  unfold certMs at hr
  simp only [hi] at hr
  exact ⟨v, he, hr.mono fun _ _ => trivial, hb⟩
theorem use_ret {w w' : World} {xs : List ItemD} {i : Nat} {x : ItemD} {e : Ending} (hu : BookUq xs) (hx : xs[i]? = some x) (h : UsesNames w xs x.name e w') : Ret0 w (useN xs i) e w' := by
  obtain ⟨⟨v, he, hr⟩, hb⟩ := h
  have hi := hu.uniq i x hx
  have hf : findErr xs x.name = 0 := by simp [findErr, hi]
  rw [hf] at he hr
  rw [if_pos rfl] at hr
  unfold usesMs at hr
  simp only [hi] at hr
  exact ⟨v, he, hr.mono fun _ _ => trivial, hb⟩
theorem leaveT0 {fn : Func} {R : Ending → World → Prop} {a : Act} {w : World} {v : Value} (hr : (results fn a.tmps).run Try.prog w = .ok v w) (hd : a.defers = []) (hR : R (.returned v) w) : bodyPostM Fence.wide 3 Try.prog fn R .ret a w := by
  show LeavesInM Fence.wide 3 Try.prog fn a.tmps R a.defers .returning w
  rw [hd]
  exact ⟨v, hr, hR⟩
/-- The way out behind one loop over a function: the result lies in a slot. -/
theorem leaveT1 {fn : Func} {a : Act} {w W : World} {D : Nat} {v : Value} (hK : W.heap[D]? = some (.deferred (some []))) (hD : w.heap.size ≤ D) (hb : Below w.heap.size w W) {k : Nat} (hr : fn.results = #[.tmp k]) (hv : a.tmps.getD k undef = v)
    (hd : a.defers = [{ target := .collected D, args := #[] }]) : bodyPostM Fence.wide 3 Try.prog fn (fun e w' => e = .returned v ∧ Below w.heap.size w w') .ret a W := by
  show LeavesInM Fence.wide 3 Try.prog fn a.tmps _ a.defers .returning W
  rw [hd]
  subst hv
  exact ⟨by simp, .inl ⟨_, _, rfl, run_takeDeferred hK, _, results_tmp hr _ _ _, rfl, hb.trans (belowK_b (w := w) (Nat.le_refl _) W D _ _ hD hK rfl rfl)⟩⟩
/-- What the loop over All leaves in the two boxes. -/
def BothI (w3 : World) (b : Nat) (pre : List ItemD) (W : World) : Prop :=
  Boxed W b 4 (.bool (oneB pre)) ∧ (∃ v, Boxed W (b + 1) 52 v ∧ W.ownsRow b 9 1 v (pre.map (·.name)).length ((pre.map (·.name)).map Value.string) ∧ True) ∧ Below b w3 W
theorem bothI_own (w3 : World) (b B : Nat) (hb : b ≤ w3.heap.size) (hB : b ≤ B) : OwnFrom B (BothI w3 b) :=
  OwnFrom.and (Own.from (boxed_own _ _ _) _) (OwnFrom.and (Own.from (holdsRow_own _ _ _ _ _ (fun pre : List ItemD => (pre.map (·.name)).length) _ (fun _ _ => True)) _) (ownFrom_below hb hB))
theorem ownsRow_ck {W W' : World} {base : Nat} {e : TypeId} {size : Nat} {v : Value} {k : Nat} {xs : List Value} (h : W.ownsRow base e size v k xs) (hk : CellsKept W W') : W'.ownsRow base e size v k xs := by
  refine ⟨h.1, h.2.imp id ?_⟩
  rintro ⟨g, cap, cur, e1, e2, e3, e4⟩
  exact ⟨g, cap, cur, e1, e2, hk.same _ _ e3 rfl, e4⟩
theorem row_ne {W : World} {base : Nat} {e t : TypeId} {size : Nat} {v : Value} {k : Nat} {xs : List Value} {B : Nat} {C : Array Value} {m : Nat × Nat} (h : W.ownsRow base e size v k xs) (hB : W.heap[B]? = some (.cells C t m)) (hte : t ≠ e) : some B ≠ v.ownBlock := by
  rcases h.2 with ⟨rfl, _⟩ | ⟨g, cap, cur, rfl, _, hg, _⟩
  · simp [Value.ownBlock]
  · intro hq
    have hq' : B = g := by simpa [Value.ownBlock] using hq
    subst hq'
    rw [hg] at hB
    cases hB
    exact hte rfl
theorem oneB_snoc {xs : List ItemD} {k : Nat} {x : ItemD} (hx : xs[k]? = some x) : oneB (xs.take (k + 1)) = (oneB (xs.take k) && x.frm.all (fun c => decide (c.length = 1))) := by
  unfold oneB
  rw [take_snoc? hx, List.all_append]
  simp
theorem allOne_snoc {fs : List (List ByteArray)} {k : Nat} {c : List ByteArray} (hx : fs[k]? = some c) : (fs.take (k + 1)).all (fun c => decide (c.length = 1)) = ((fs.take k).all (fun c => decide (c.length = 1)) && decide (c.length = 1)) := by
  rw [take_snoc? hx, List.all_append]
  simp
set_option maxRecDepth 100000 in
set_option maxHeartbeats 4000000 in
theorem both_any (v0 : Value) (xs : List ItemD) (w : World) (hv : RdI w (fun _ => True) v0 xs) (hw : ∀ x ∈ xs, ItemWf x) :
    Calls Try.prog 11 #[v0] w fun e w' => e = .returned (.bool true) ∧ Below w.heap.size w w' := by
  obtain ⟨j0, hj0, hy0, hy1, hy2⟩ := info_parts info9
  have HV := Lib.hid hv
  have HW := Lib.hid hw
  obtain ⟨A, n, cap, rfl, -⟩ := hv.open_
  clear hv hw
  refine callsIn_wide.1 (callsIn_of_wp_marks (n := 3) Try.func11 rfl trivial (wpIn_wide.2 ?_) rfl)
  simp only [Try.ntmps11, List.size_toArray, List.length_cons, List.length_nil, Nat.reduceAdd, Nat.reduceSub, Array.replicate_succ, Array.replicate_zero, List.push_toArray, List.append_toArray, List.nil_append, List.cons_append]
  go_wp2_with fail
  refine (few_any _ xs _ w HV.out).mono ?_
  rintro e w2 ⟨b, rfl, hfew, hb2⟩
  have HB2 := Lib.hid hb2
  clear hb2
  cases b with
  | false =>
    clear hfew
    go_wp2_with (go_at_call 16; refine (awake_any _).mono ?_; rintro e w3 ⟨rfl, hb3⟩)
    refine leaveT0 (results_tmp rfl _ _ _) rfl ⟨rfl, HB2.out.trans (hb3.mono HB2.out.size)⟩
  | true =>
    have HF := Lib.hid (hfew rfl)
    clear hfew
    go_wp2_with fail
    refine (books_any _ xs _ w2 (HV.out.below HB2.out) HF.out).mono ?_
    rintro e w3 ⟨p, bv, rfl, F, hbk, hrd, hb3⟩
    have hok := entAll_ok HF.out.each HW.out
    have huq := entAll_uq xs
    have hlen : (entAll xs).length ≤ 24 := by have := entAll_len xs; have := HF.out.len; omega
    obtain ⟨acc, hacc⟩ : ∃ acc, acc = entAll xs := ⟨_, rfl⟩
    rw [← hacc] at hbk hrd hok huq hlen
    have HB3 := Lib.hid (HB2.out.trans (hb3.mono HB2.out.size))
    have hlen2 : acc.length ≤ 1024 := by omega
    have C1 : Hid (∀ i x, acc[i]? = some x → ∀ w', Below w3.heap.size w3 w' → Calls Try.prog 35 #[p, .string x.name] w' (Ret0 w' (srcN acc i))) := fun i x hx w' h => (Sources_any p _ F acc x.name w' (hbk.below h) hok.found huq hlen2 (by have := (hok.small x (mem_of_get? hx)).name; unfold maxLen; omega)).mono fun _ _ h => src_ret huq hx h
    have C2 : Hid (∀ i x, acc[i]? = some x → ∀ w', Below w3.heap.size w3 w' → Calls Try.prog 37 #[p, .string x.name] w' (Ret0 w' (certN acc i))) := fun i x hx w' h => (Certain_any p _ F acc x.name w' (hbk.below h) hok.found huq hlen2 (by have := (hok.small x (mem_of_get? hx)).name; unfold maxLen; omega)).mono fun _ _ h => cert_ret huq hx h
    have C3 : Hid (∀ i x, acc[i]? = some x → ∀ w', Below w3.heap.size w3 w' → Calls Try.prog 23 #[p, .string x.name] w' (Ret0 w' (useN acc i))) := fun i x hx w' h => (Uses_any p _ F acc x.name w' (hbk.below h) hok.found hlen2 (by have := (hok.small x (mem_of_get? hx)).name; unfold maxLen; omega)).mono fun _ _ h => use_ret huq hx h
    have HUQ := Lib.hid huq
    have HBK := Lib.hid hbk
    have HOK := Lib.hid hok
    obtain ⟨bb, vi, r, fs, rfl, -⟩ := hbk
    clear hrd hok huq hacc hb3
    go_wp2_with fail
    refine (all_any _ _ ⟨_, rfl⟩).mono ?_
    rintro e w6 ⟨rfl, hw6⟩
    have hI0 : BothI w3 w3.heap.size [] w6 := by
      rw [← hw6]
      have h2 := Boxed.new (w3.alloc (.cells #[.bool true] 4)) 52 (.slice none 0 0)
      rw [World.size_alloc] at h2
      exact ⟨((Boxed.new w3 4 (.bool true)).alloc _).alloc _, ⟨_, h2.alloc _, World.ownsRow_nil _ _ _ _, trivial⟩, (((Below.refl _ w3).alloc (Nat.le_refl _) _).alloc (by simp) _).alloc (by simp; omega) _⟩
    have hs6 : w6.heap.size = w3.heap.size + 3 := by rw [← hw6]; simp
    have hc6 : w6.cell? ⟨w3.heap.size + 1 + 1, 0, none⟩ = some (.pointer (some ⟨bb, 0, none⟩)) := by
      rw [← hw6]
      have := Boxed.cell (Boxed.new ((w3.alloc (.cells #[.bool true] 4)).alloc (.cells #[.slice none 0 0] 52)) 49 (.pointer (some ⟨bb, 0, none⟩)))
      simpa using this
    have hsm : ∀ x ∈ acc, x.frm.length ≤ 1000 ∧ ∀ c ∈ x.frm, c.length ≤ 1000 := fun x hx => ⟨by have := (HOK.out.small x hx).frm; omega, fun c hc => by have := (HOK.out.small x hx).cs c hc; omega⟩
    clear hw6
    go_wp2_with fail
    refine wp_all_boxed (tb := 8) (p := .pointer (some ⟨bb, 0, none⟩)) (w0 := w3) rfl HBK.out hsm hlen2 hI0.2.2 (by omega) (by simpa using hc6) (BothI w3 w3.heap.size) (fun _ _ _ => False) (bothI_own _ _ _ (Nat.le_refl _) (by omega)) (fun _ _ _ _ _ h _ _ => h) hI0 ?assign ?body ?done ?stop
    case stop => intro D c k W _ _ h; exact h.elim
    case assign =>
      intro l x A n cp W K hK
      simp only [itemCells] at hK ⊢
      gi_wp2
      simpa using hK
    case body =>
      intro l k x A5 n5 c5 Bx W0 W hx hi0 hck hi hrd hBx hBxs
      obtain ⟨p1, ⟨v, p2, prow, -⟩, -⟩ := hi0
      have h1 : Boxed W w3.heap.size 4 _ := hck.same _ _ p1 rfl
      have h2 : Boxed W (w3.heap.size + 1) 52 _ := hck.same _ _ p2 rfl
      have hrow := ownsRow_ck prow hck
      have hvb : ∀ q, v.ownBlock = some q → w3.heap.size ≤ q ∧ q < W0.heap.size := fun q hq => prow.lt q hq
      obtain ⟨A7, c7, rfl⟩ := ownsRow_slice hrow
      have hW0 : w3.heap.size + 1 < W0.heap.size := (Array.getElem?_eq_some_iff.1 p2).1
      have hW : w3.heap.size + 1 < W.heap.size := h2.lt
      obtain ⟨L, hL⟩ : ∃ L, L = (acc.take k).map (·.name) := ⟨_, rfl⟩
      rw [← hL] at hrow h2 hvb
      have hLl : L.length ≤ 24 := by rw [hL]; simp; omega
      have hnext : (acc.take (k + 1)).map (·.name) = L ++ [x.name] := by rw [take_snoc? hx, List.map_append, hL]; rfl
      have hone := oneB_snoc hx
      obtain ⟨q0, hq0⟩ : ∃ q, q = oneB (acc.take k) := ⟨_, rfl⟩
      rw [← hq0] at hone h1
      obtain ⟨xn, xk, xa, xf⟩ := x
      simp only [itemCells] at hBx hrd
      simp only [itemCells, List.setIfInBounds_toArray, List.set_cons_zero, List.set_cons_succ]
      have c0 : W.cell? ⟨Bx, 0, none⟩ = some (.string xn) := cell_of_row W _ 0 _ _ _ hBx
      have c3 : W.cell? ⟨Bx, 3, none⟩ = some (.slice A5 n5 c5) := cell_of_row W _ 3 _ _ _ hBx
      have hc1 := h2.cell
      have hf1 := h2.frozen
      have hcb := h1.cell
      have hfb := h1.frozen
      have hbel := hi.2.2
      have hrl := hrd
      obtain ⟨vs, hvs, hvl, hvin⟩ := hrd.lt
      obtain ⟨A6, n6, cap6, hA6, hn6, hcap6, hmax6, hcc⟩ := hvs.open_
      simp only [Value.slice.injEq] at hA6
      obtain ⟨rfl, rfl, rfl⟩ := hA6
      have HCC := Lib.hid hcc
      have HVIN := Lib.hid hvin
      have HROW := Lib.hid hrow
      have H1 := Lib.hid h1
      have H2 := Lib.hid h2
      have HBX := Lib.hid hBx
      have HBEL := Lib.hid hbel
      have HNX := Lib.hid hnext
      have HONE := Lib.hid hone
      have HVB := Lib.hid hvb
      have HRD := Lib.hid hrd
      have HN6 : Hid (xf.length = n5) := by show _ = _; omega
      have hn5 : n5 ≤ 1000 := by have := (hsm _ (mem_of_get? hx)).1; simp only at this; have := HN6.out; omega
      have HSZ := Lib.hid hck.size
      have hbw : w3.heap.size < w3.heap.size + 1 := by omega
      have hnx1 : Bx ≠ w3.heap.size + 1 := by omega
      have hnx2 : w3.heap.size + 1 ≠ Bx := by omega
      clear hi p1 p2 prow hvs hcc hvin hrow h1 h2 hBx hbel hnext hone hvb hrd hrl hL hq0
      gi_wp2_with (gi_at_builtin; refine wpListIn_append_own _ rfl _ _ 52 rfl w3.heap.size 9 j0 (.string ⟨#[]⟩) 1 16 Try.underlying52 hj0 hy0 hy1 hy2 rfl (by decide) _ L.length (L.map Value.string) rfl (HROW.out.alloc _) ⟨W.heap.size, 0, none⟩ 1 1 [.string xn] rfl rfl (cell_one_new _ _ _) (fun u hu => by simp at hu; subst hu; rfl) (by unfold maxLen; omega) (by omega) (by simp; omega) ?_; intro v' w7 hown' hgrow _; obtain ⟨hv1, hv2, hr2, hk2, hb2'⟩ := H2.out.appended (by decide) HROW.out (by omega) (by omega) hown' hgrow; obtain ⟨A9, c9, rfl⟩ := ownsRow_slice hown'; have hc7 := hv1.cell; have hf7 := hv1.frozen; have hB7 : w7.heap[Bx]? = _ := (hgrow.block Bx (by have := (Array.getElem?_eq_some_iff.1 HBX.out).1; simp; omega) (row_ne HROW.out HBX.out (by decide))).trans ((Below.heap_alloc _ _ _ (Array.getElem?_eq_some_iff.1 HBX.out).1).trans HBX.out); have d3 : w7.cell? ⟨Bx, 3, none⟩ = some (.slice A5 n5 c5) := cell_of_row w7 _ 3 _ _ _ hB7; have HX7 := Lib.hid (And.intro hown' hgrow); have HV7 := Lib.hid (And.intro hv2 (And.intro hr2 (And.intro hk2 hb2'))); clear hown' hgrow hv1 hv2 hr2 hk2 hb2')
      obtain ⟨hv2, hr2, hk2, hb2'⟩ := HV7.out
      have hb8 : Boxed (w7.setCell ⟨w3.heap.size + 1, 0, none⟩ (.slice A9 (L.length + 1) c9)) w3.heap.size 4 (.bool q0) :=
        (Below.heap_setCell _ _ _ _ (by show w3.heap.size ≠ w3.heap.size + 1; omega)).trans ((H1.out.alloc _).kept HX7.out.2 (row_ne HROW.out H1.out (by decide)))
      have hk8 : Keep (fun q => W0.heap.size ≤ q ∧ q < W.heap.size) W (w7.setCell ⟨w3.heap.size + 1, 0, none⟩ (.slice A9 (L.length + 1) c9)) :=
        ⟨hb2'.os, hb2'.tape, hb2'.output, hb2'.size, fun q hq => (Below.heap_setCell _ _ _ _ (by show q ≠ w3.heap.size + 1; omega)).trans ((HX7.out.2.block q (by simp; omega) (fun e => by have := (HVB.out q e.symm).2; omega)).trans (Below.heap_alloc _ _ _ hq.2))⟩
      generalize hw8 : w7.setCell ⟨w3.heap.size + 1, 0, none⟩ (.slice A9 (L.length + 1) c9) = w8 at hv2 hr2 hk2 hb2' hb8 hk8 ⊢
      have HB8 := Lib.hid hb8
      have HK8 := Lib.hid hk8
      have HR8 := Lib.hid (And.intro hv2 (And.intro hr2 (And.intro hk2 hb2')))
      clear hv2 hr2 hk2 hb2' hb8 hk8 hw8 HV7 HX7 hc7 hf7 d3 hB7 c0 c3 hc1 hf1 hcb hfb
      gi_loopw [48] (fun iv wr => ∃ j : Nat, j ≤ n5 ∧ iv = .int .i64 j ∧ Boxed wr w3.heap.size 4 (.bool (q0 && (xf.take j).all (fun c => decide (c.length = 1)))) ∧ Keep (fun q => q ≠ w3.heap.size) w8 wr) (fun iv _ => n5 - (intOf iv).toNat)
      case atStart => exact ⟨0, Nat.zero_le _, rfl, by simpa using HB8.out, Keep.refl _ _⟩
      case round =>
        obtain ⟨j, hj, rfl, hbx, hkr⟩ := hrel
        by_cases hlt : j < n5
        · obtain ⟨bq, oq, u, rfl, ⟨hq1, hq2⟩, hu, hcu⟩ := HCC.out j hlt
          obtain ⟨c, hc⟩ : ∃ c, xf[j]? = some c := ⟨xf[j]'(by have := HN6.out; omega), List.getElem?_eq_getElem _⟩
          obtain ⟨u', hu', hru⟩ := HVIN.out j c hc
          rw [hu] at hu'
          obtain rfl := Option.some.inj hu'
          obtain ⟨Au, nu, cu, rfl, hnu, -⟩ := hru.open_
          have d5 : wr.cell? ⟨bq, oq + j, none⟩ = some (.slice Au nu cu) := (hkr.cell (p := ⟨bq, _, none⟩) (by show bq ≠ _; omega)).trans ((HK8.out.cell (p := ⟨bq, _, none⟩) ⟨hq1, hq2⟩).trans hcu)
          have hsn := allOne_snoc hc
          obtain ⟨q1, hq1'⟩ : ∃ q1, q1 = (xf.take j).all (fun c => decide (c.length = 1)) := ⟨_, rfl⟩
          rw [← hq1'] at hsn hbx
          have hcb := hbx.cell
          have hfb := hbx.frozen
          have hone : (((nu : Int) == 1) = true ∧ (nu : Int) = 1 ∧ decide (c.length = 1) = true) ∨ (((nu : Int) == 1) = false ∧ ¬ (nu : Int) = 1 ∧ decide (c.length = 1) = false) := by
            by_cases h : nu = 1
            · exact .inl ⟨by simp [h], by omega, by simp; omega⟩
            · exact .inr ⟨by simp; omega, by omega, by simp; omega⟩
          have HSN := Lib.hid hsn
          have HBXR := Lib.hid hbx
          have HKR := Lib.hid hkr
          have hnu2 : nu ≤ 9223372036854775807 := by have := HRD.out; have := (HOK.out.small _ (mem_of_get? hx)).cs c (mem_of_get? hc); omega
          have HNU := Lib.hid hnu
          clear hbx hkr hsn hc hu hcu hru hnu
          have hfin : Hid (∀ v, v = (q0 && (q1 && decide (c.length = 1))) → Boxed (wr.setCell ⟨w3.heap.size, 0, none⟩ (.bool v)) w3.heap.size 4 (.bool (q0 && (xf.take (j + 1)).all (fun c => decide (c.length = 1)))) ∧ Keep (fun q => q ≠ w3.heap.size) w8 (wr.setCell ⟨w3.heap.size, 0, none⟩ (.bool v))) := fun v hv => by
            rw [HSN.out, ← hv]
            exact ⟨HBXR.out.set _, HKR.out.setCell (fun h => h rfl) _⟩
          cases hqq : (q0 && q1) with
          | false =>
            rw [hqq] at hcb
            have HV1 : Hid (false = (q0 && (q1 && decide (c.length = 1)))) := by show _ = _; rw [← Bool.and_assoc, hqq]; rfl
            clear hqq hq1' HSN
            gi_wp2
            go_roundw
            case rel => exact ⟨j + 1, by omega, by go_num, hfin.out _ HV1.out⟩
            case measure => simp [intOf]; omega
          | true =>
            rw [hqq] at hcb
            rcases hone with ⟨h1, h2, h3⟩ | ⟨h1, h2, h3⟩
            · have HV1 : Hid (true = (q0 && (q1 && decide (c.length = 1)))) := by show _ = _; rw [← Bool.and_assoc, hqq, h3]; rfl
              clear hqq hq1' HSN h3
              gi_wp2
              go_roundw
              case rel => exact ⟨j + 1, by omega, by go_num, hfin.out _ HV1.out⟩
              case measure => simp [intOf]; omega
            · have HV1 : Hid (false = (q0 && (q1 && decide (c.length = 1)))) := by show _ = _; rw [← Bool.and_assoc, hqq, h3]; rfl
              clear hqq hq1' HSN h3
              gi_wp2
              go_roundw
              case rel => exact ⟨j + 1, by omega, by go_num, hfin.out _ HV1.out⟩
              case measure => simp [intOf]; omega
        · have hjn : xf.take j = xf := List.take_of_length_le (by have := HN6.out; omega)
          rw [hjn] at hbx
          have HBXR := Lib.hid hbx
          have HKR := Lib.hid hkr
          clear hbx hkr hjn
          gi_wp2
          obtain ⟨hv2, hr2, hk2, hb2'⟩ := HR8.out
          have hlt8 : w3.heap.size + 1 < w8.heap.size := hv2.lt
          have hkf : KeepsFrom w6.heap.size w8 wr := ⟨HKR.out.size, fun q o hq ho _ => (HKR.out.block q (by show q ≠ _; omega)).trans ho⟩
          have hbr : Below w3.heap.size w8 wr := Keep.below (HKR.out.mono fun q hq => by show q ≠ _; omega)
          refine ⟨(hk2.from _).trans hkf, hb2'.trans hbr, ?_, ⟨_, (HKR.out.block _ (by show w3.heap.size + 1 ≠ _; omega)).trans hv2, ?_, trivial⟩, (HBEL.out.trans hb2').trans hbr⟩
          · rw [HONE.out]; exact HBXR.out
          · rw [HNX.out, List.map_append, List.length_append]
            have hg : w8.grownBy wr (some w3.heap.size) := ⟨HKR.out.os, HKR.out.tape, HKR.out.output, HKR.out.size, fun q _ hne => HKR.out.block q (fun e => hne (by rw [e]))⟩
            exact hr2.kept hg (.inr (fun e => row_ne hr2 HB8.out (by decide) e.symm))
    case done =>
      have HS6 := Lib.hid hs6
      clear hI0 hs6 hc6 hsm
      intro D w9 hD hI hK
      obtain ⟨hb1, ⟨v, hb2, hrow, -⟩, hbel⟩ := hI
      obtain ⟨A9, c9, rfl⟩ := ownsRow_slice hrow
      have hlN : (acc.map (·.name)).length = acc.length := by simp
      obtain ⟨n9, hn9⟩ : ∃ n9, n9 = acc.length := ⟨_, rfl⟩
      have hrn : Rd .string w9 (fun q => w3.heap.size ≤ q ∧ q < w9.heap.size) _ (acc.map (·.name)) := (Rd.of_own hrow).lt
      rw [hlN, ← hn9] at hrn hb2
      obtain ⟨A8, n8, cap8, hA8, hn8, hcap8, hmax8, hc8⟩ := hrn.open_
      simp only [Value.slice.injEq] at hA8
      obtain ⟨rfl, rfl, rfl⟩ := hA8
      have HNM : Hid (∀ i, i < n9 → ∃ b off y, A9 = some ⟨b, off, none⟩ ∧ b < w9.heap.size ∧ acc[i]? = some y ∧ w9.cell? ⟨b, off + i, none⟩ = some (.string y.name)) := fun i hi => by
        obtain ⟨b, off, x, e, ⟨_, hb⟩, hx, hcell⟩ := hc8 i hi
        rw [List.getElem?_map] at hx
        cases hy : acc[i]? with
        | none => rw [hy] at hx; cases hx
        | some y => rw [hy] at hx; cases hx; exact ⟨b, off, y, e, hb, rfl, hcell⟩
      have HK := Lib.hid hK
      have HB1 := Lib.hid hb1
      have HB2B := Lib.hid hb2
      have HBEL := Lib.hid hbel
      have HD := Lib.hid hD
      have HN9 := Lib.hid hn9
      have hc1 := hb2.cell
      obtain ⟨q0, hq0⟩ : ∃ q, q = oneB acc := ⟨_, rfl⟩
      rw [← hq0] at HB1
      have HQ0 := Lib.hid hq0
      have hn24 : n9 ≤ 24 := by omega
      clear hrn hc8 hn8 hK hb1 hb2 hbel hD hrow hlN hn9 hq0
      go_wp2_with fail
      go_loopw [61] (fun iv wr => ∃ i : Nat, i ≤ n9 ∧ iv = .int .i64 i ∧ Below w9.heap.size w9 wr) (fun iv _ => n9 - (intOf iv).toNat)
      case atStart => exact ⟨0, Nat.zero_le _, rfl, Below.refl _ _⟩
      case round =>
        clear hc1
        obtain ⟨i, hi, rfl, hbr⟩ := hrel
        have HBR := Lib.hid hbr
        have H3R : Hid (Below w3.heap.size w3 wr) := HBEL.out.trans (hbr.mono HBEL.out.size)
        clear hbr
        by_cases hlt : i < n9
        · obtain ⟨b9, off9, y, rfl, hbw9, hy, hcell9⟩ := HNM.out i hlt
          have d0 : wr.cell? ⟨b9, off9 + i, none⟩ = some (.string y.name) := (HBR.out.cell (p := ⟨b9, _, none⟩) hbw9).trans hcell9
          have HY := Lib.hid hy
          obtain ⟨yn, hyn⟩ : ∃ yn, yn = y.name := ⟨_, rfl⟩
          have D1 := Lib.hid (C1.out i y hy)
          have D2 := Lib.hid (C2.out i y hy)
          rw [← hyn] at D1 D2 d0
          have HYN := Lib.hid hyn
          clear hy hyn hcell9
          go_wp2_with fail
          refine (D1.out wr H3R.out).mono ?_
          rintro e u1 ⟨v1, rfl, r1, g1⟩
          have R1 := Lib.hid r1
          have G1 := Lib.hid (HBR.out.trans (g1.mono HBR.out.size))
          clear r1 d0
          go_wp2_with fail
          refine (D2.out u1 (HBEL.out.trans (G1.out.mono HBEL.out.size))).mono ?_
          rintro e u2 ⟨v2, rfl, r2, g2⟩
          have R2 := Lib.hid r2
          have R12 := Lib.hid (R1.out.below g2)
          have G2 := Lib.hid (G1.out.trans (g2.mono G1.out.size))
          have hcb : u2.cell? ⟨w3.heap.size, 0, none⟩ = some (.bool q0) := (G2.out.cell (p := ⟨_, _, none⟩) HB1.out.lt).trans HB1.out.cell
          obtain ⟨A1, n1, c1, rfl, hn1, hcap1, hmax1, hc1'⟩ := R12.out.lt.open_
          obtain ⟨A2, n2, c2, rfl, hn2, hcap2, hmax2, hc2'⟩ := R2.out.lt.open_
          have HC2 := Lib.hid hc2'
          have HAL : Hid (q0 = true → ∀ u, Below u2.heap.size u2 u → Calls Try.prog 24 #[.slice A1 n1 c1, .slice A2 n2 c2] u fun e w' => e = .returned (.bool true) ∧ Below u.heap.size u w') := fun h u hu => by
            have := alike_any _ _ (srcN acc i) (certN acc i) _ _ u (R12.out.below hu) (R2.out.below hu)
            rw [decide_eq_true (one_cert HUQ.out (by rw [← HQ0.out]; exact h) (List.getElem?_eq_some_iff.1 HY.out).1).symm] at this
            exact this
          have HAS : Hid (∀ s u, Below u2.heap.size u2 u → Calls Try.prog 25 #[.slice A1 n1 c1, .string s] u fun e w' => e = .returned (.bool (hasN (srcN acc i) s)) ∧ u = w') := fun s u hu => has_any _ _ _ s u (R12.out.below hu)
          clear r2 g1 g2 hc1' hc2' hn1 hn2
          have HPOST : Hid (∀ u, Below u2.heap.size u2 u → Below w9.heap.size w9 u) := fun u hu => G2.out.trans (hu.mono G2.out.size)
          have h1s : u2.cell? ⟨w3.heap.size + 1, 0, none⟩ = some (.slice (some ⟨b9, off9, none⟩) n9 c9) := (G2.out.cell (p := ⟨_, _, none⟩) HB2B.out.lt).trans HB2B.out.cell
          have HGO : Hid (∀ b : Bool, b = q0 → ∃ u3, Below u2.heap.size u2 u3) := fun b _ => ⟨u2, Below.refl _ _⟩
          clear HGO
          cases q0
          · obtain ⟨u3, hu3⟩ : ∃ u3, u3 = u2 := ⟨_, rfl⟩
            have g3 : Below u2.heap.size u2 u3 := by rw [hu3]; exact Below.refl _ _
            have HG3 := Lib.hid g3
            have HU3 := Lib.hid hu3
            clear g3 hu3
            go_wp2_with fail
            rw [← HU3.out]
            have H1S : Hid (u3.cell? ⟨w3.heap.size + 1, 0, none⟩ = some (.slice (some ⟨b9, off9, none⟩) n9 c9)) := (HG3.out.cell (p := ⟨_, _, none⟩) (Nat.lt_of_lt_of_le HB2B.out.lt G2.out.size)).trans h1s
            have HU : Hid (Below w9.heap.size w9 u3) := G2.out.trans (HG3.out.mono G2.out.size)
            have HWI : Hid (Below w3.heap.size w3 wr) := H3R.out
            obtain ⟨wi, hwi⟩ : ∃ wi : World, wi = wr := ⟨_, rfl⟩
            clear hcb h1s hwi
            go_loop [94] (fun iv => ∃ k : Nat, k ≤ n2 ∧ iv = .int .i64 k) (fun iv => n2 - (intOf iv).toNat)
            case atStart => exact ⟨0, Nat.zero_le _, rfl⟩
            case round =>
              obtain ⟨k, hk, rfl⟩ := hrel
              by_cases hlt2 : k < n2
              · obtain ⟨bq, oq, s, rfl, ⟨_, hbq⟩, hs, hcell⟩ := HC2.out k hlt2
                have d1 : u3.cell? ⟨bq, oq + k, none⟩ = some (.string s) := (HG3.out.cell (p := ⟨bq, _, none⟩) hbq).trans hcell
                have HH := Lib.hid (HAS.out s u3 HG3.out)
                rw [cert_src (mem_of_get? hs)] at HH
                clear hs hcell
                go_wp2_with (go_at_call 25; refine HH.out.mono ?_; rintro e w' ⟨rfl, rfl⟩)
                go_round
                case rel => exact ⟨k + 1, by omega, by go_num⟩
                case measure => simp [intOf]; omega
              · have h1s := H1S.out
                clear HC2 HAL
                go_wp2_with fail
                clear h1s
                go_loopw [105] (fun iv wr => ∃ j : Nat, j ≤ n9 ∧ iv = .int .i64 j ∧ Below u3.heap.size u3 wr) (fun iv _ => n9 - (intOf iv).toNat)
                case atStart => exact ⟨0, Nat.zero_le _, rfl, Below.refl _ _⟩
                case round =>
                  obtain ⟨j, hj, rfl, hbj⟩ := hrel
                  have HBJ := Lib.hid hbj
                  have H9 := Lib.hid (HU.out.trans (hbj.mono HU.out.size))
                  have H3 := Lib.hid (HBEL.out.trans (H9.out.mono HBEL.out.size))
                  have H2 := Lib.hid (HG3.out.trans (hbj.mono HG3.out.size))
                  clear hbj
                  by_cases hlt3 : j < n9
                  · obtain ⟨b8, off8, x, he8, hbw8, hx, hcell8⟩ := HNM.out j hlt3
                    simp only [Option.some.injEq, Addr.mk.injEq, and_true] at he8
                    obtain ⟨rfl, rfl⟩ := he8
                    have d2 : wr.cell? ⟨b9, off9 + j, none⟩ = some (.string x.name) := (H9.out.cell (p := ⟨b9, _, none⟩) hbw8).trans hcell8
                    have HX := Lib.hid hx
                    have D3 := Lib.hid (C3.out j x hx)
                    have D4 := Lib.hid (C1.out j x hx)
                    have hbo := both_ways HUQ.out hx HY.out
                    obtain ⟨xn, hxn⟩ : ∃ xn, xn = x.name := ⟨_, rfl⟩
                    rw [← hxn] at d2 D3 D4 hbo
                    rw [← HYN.out] at hbo
                    obtain ⟨q, hq⟩ : ∃ q, q = hasN (srcN acc i) xn := ⟨_, rfl⟩
                    rw [← hq] at hbo
                    have HA2 := Lib.hid (HAS.out xn)
                    rw [← hq] at HA2
                    have HQ := Lib.hid hq
                    have HXN := Lib.hid hxn
                    have HBO := Lib.hid hbo
                    clear hx hcell8 hq hxn hbo
                    go_wp2_with fail
                    refine (D3.out wr H3.out).mono ?_
                    rintro e u4 ⟨v4, rfl, r4, g4⟩
                    have HH1 := Lib.hid (has_any v4 _ _ yn u4 r4)
                    rw [HBO.out] at HH1
                    have HH2 := Lib.hid (HA2.out u4 (H2.out.trans (g4.mono H2.out.size)))
                    have G4 := Lib.hid (HBJ.out.trans (g4.mono HBJ.out.size))
                    have H34 := Lib.hid (H3.out.trans (g4.mono H3.out.size))
                    have H24 := Lib.hid (H2.out.trans (g4.mono H2.out.size))
                    clear r4 g4 d2
                    cases q with
                    | false =>
                      go_wp2_with (first | (go_at_call_of 25 v4; refine HH1.out.mono ?_; rintro e w' ⟨rfl, rfl⟩) | (go_at_call 25; refine HH2.out.mono ?_; rintro e w' ⟨rfl, rfl⟩))
                      go_roundw
                      case rel => exact ⟨j + 1, by omega, by go_num, G4.out⟩
                      case measure => simp [intOf]; omega
                    | true =>
                      go_wp2_with (first | (go_at_call_of 25 v4; refine HH1.out.mono ?_; rintro e w' ⟨rfl, rfl⟩) | (go_at_call 25; refine HH2.out.mono ?_; rintro e w' ⟨rfl, rfl⟩))
                      refine (D4.out u4 H34.out).mono ?_
                      rintro e u5 ⟨v5, rfl, r5, g5⟩
                      obtain ⟨A5, n5, c5, rfl, hn5, hcap5, hmax5, hc5⟩ := r5.lt.open_
                      have HC5 := Lib.hid hc5
                      have HA5 : Hid (∀ s, Calls Try.prog 25 #[.slice A1 n1 c1, .string s] u5 fun e w' => e = .returned (.bool (hasN (srcN acc i) s)) ∧ u5 = w') := fun s => HAS.out s u5 (H24.out.trans (g5.mono H24.out.size))
                      have G5 := Lib.hid (G4.out.trans (g5.mono G4.out.size))
                      have HIN : Hid (∀ s ∈ srcN acc j, hasN (srcN acc i) s = true) := fun s hs => src_src HUQ.out (List.getElem?_eq_some_iff.1 HY.out).1 HX.out (by rw [← HXN.out]; exact HQ.out.symm) hs
                      clear r5 hc5 hn5 g5
                      go_wp2_with fail
                      go_loop [139] (fun iv => ∃ t : Nat, t ≤ n5 ∧ iv = .int .i64 t) (fun iv => n5 - (intOf iv).toNat)
                      case atStart => exact ⟨0, Nat.zero_le _, rfl⟩
                      case round =>
                        obtain ⟨t, ht, rfl⟩ := hrel
                        by_cases hlt5 : t < n5
                        · obtain ⟨bq, oq, s, rfl, _, hs, hcell⟩ := HC5.out t hlt5
                          have HH := Lib.hid (HA5.out s)
                          rw [HIN.out s (mem_of_get? hs)] at HH
                          clear hs
                          go_wp2_with (go_at_call 25; refine HH.out.mono ?_; rintro e w' ⟨rfl, rfl⟩)
                          go_round
                          case rel => exact ⟨t + 1, by omega, by go_num⟩
                          case measure => simp [intOf]; omega
                        · go_wp2_with fail
                          go_roundw
                          case rel => exact ⟨j + 1, by omega, by go_num, G5.out⟩
                          case measure => simp [intOf]; omega
                  · go_wp2_with fail
                    go_roundw
                    case rel => exact ⟨i + 1, by omega, by go_num, H9.out⟩
                    case measure => simp [intOf]; omega
          · go_wp2_with fail
            refine (HAL.out (by first | rfl | trivial) u2 (Below.refl _ _)).mono ?_
            rintro e u3 ⟨rfl, g3⟩
            have HG3 := Lib.hid g3
            clear g3
            go_wp2_with fail
            have H1S : Hid (u3.cell? ⟨w3.heap.size + 1, 0, none⟩ = some (.slice (some ⟨b9, off9, none⟩) n9 c9)) := (HG3.out.cell (p := ⟨_, _, none⟩) (Nat.lt_of_lt_of_le HB2B.out.lt G2.out.size)).trans h1s
            have HU : Hid (Below w9.heap.size w9 u3) := G2.out.trans (HG3.out.mono G2.out.size)
            have HWI : Hid (Below w3.heap.size w3 wr) := H3R.out
            obtain ⟨wi, hwi⟩ : ∃ wi : World, wi = wr := ⟨_, rfl⟩
            clear hcb h1s hwi
            go_loop [94] (fun iv => ∃ k : Nat, k ≤ n2 ∧ iv = .int .i64 k) (fun iv => n2 - (intOf iv).toNat)
            case atStart => exact ⟨0, Nat.zero_le _, rfl⟩
            case round =>
              obtain ⟨k, hk, rfl⟩ := hrel
              by_cases hlt2 : k < n2
              · obtain ⟨bq, oq, s, rfl, ⟨_, hbq⟩, hs, hcell⟩ := HC2.out k hlt2
                have d1 : u3.cell? ⟨bq, oq + k, none⟩ = some (.string s) := (HG3.out.cell (p := ⟨bq, _, none⟩) hbq).trans hcell
                have HH := Lib.hid (HAS.out s u3 HG3.out)
                rw [cert_src (mem_of_get? hs)] at HH
                clear hs hcell
                go_wp2_with (go_at_call 25; refine HH.out.mono ?_; rintro e w' ⟨rfl, rfl⟩)
                go_round
                case rel => exact ⟨k + 1, by omega, by go_num⟩
                case measure => simp [intOf]; omega
              · have h1s := H1S.out
                clear HC2 HAL
                go_wp2_with fail
                clear h1s
                go_loopw [105] (fun iv wr => ∃ j : Nat, j ≤ n9 ∧ iv = .int .i64 j ∧ Below u3.heap.size u3 wr) (fun iv _ => n9 - (intOf iv).toNat)
                case atStart => exact ⟨0, Nat.zero_le _, rfl, Below.refl _ _⟩
                case round =>
                  obtain ⟨j, hj, rfl, hbj⟩ := hrel
                  have HBJ := Lib.hid hbj
                  have H9 := Lib.hid (HU.out.trans (hbj.mono HU.out.size))
                  have H3 := Lib.hid (HBEL.out.trans (H9.out.mono HBEL.out.size))
                  have H2 := Lib.hid (HG3.out.trans (hbj.mono HG3.out.size))
                  clear hbj
                  by_cases hlt3 : j < n9
                  · obtain ⟨b8, off8, x, he8, hbw8, hx, hcell8⟩ := HNM.out j hlt3
                    simp only [Option.some.injEq, Addr.mk.injEq, and_true] at he8
                    obtain ⟨rfl, rfl⟩ := he8
                    have d2 : wr.cell? ⟨b9, off9 + j, none⟩ = some (.string x.name) := (H9.out.cell (p := ⟨b9, _, none⟩) hbw8).trans hcell8
                    have HX := Lib.hid hx
                    have D3 := Lib.hid (C3.out j x hx)
                    have D4 := Lib.hid (C1.out j x hx)
                    have hbo := both_ways HUQ.out hx HY.out
                    obtain ⟨xn, hxn⟩ : ∃ xn, xn = x.name := ⟨_, rfl⟩
                    rw [← hxn] at d2 D3 D4 hbo
                    rw [← HYN.out] at hbo
                    obtain ⟨q, hq⟩ : ∃ q, q = hasN (srcN acc i) xn := ⟨_, rfl⟩
                    rw [← hq] at hbo
                    have HA2 := Lib.hid (HAS.out xn)
                    rw [← hq] at HA2
                    have HQ := Lib.hid hq
                    have HXN := Lib.hid hxn
                    have HBO := Lib.hid hbo
                    clear hx hcell8 hq hxn hbo
                    go_wp2_with fail
                    refine (D3.out wr H3.out).mono ?_
                    rintro e u4 ⟨v4, rfl, r4, g4⟩
                    have HH1 := Lib.hid (has_any v4 _ _ yn u4 r4)
                    rw [HBO.out] at HH1
                    have HH2 := Lib.hid (HA2.out u4 (H2.out.trans (g4.mono H2.out.size)))
                    have G4 := Lib.hid (HBJ.out.trans (g4.mono HBJ.out.size))
                    have H34 := Lib.hid (H3.out.trans (g4.mono H3.out.size))
                    have H24 := Lib.hid (H2.out.trans (g4.mono H2.out.size))
                    clear r4 g4 d2
                    cases q with
                    | false =>
                      go_wp2_with (first | (go_at_call_of 25 v4; refine HH1.out.mono ?_; rintro e w' ⟨rfl, rfl⟩) | (go_at_call 25; refine HH2.out.mono ?_; rintro e w' ⟨rfl, rfl⟩))
                      go_roundw
                      case rel => exact ⟨j + 1, by omega, by go_num, G4.out⟩
                      case measure => simp [intOf]; omega
                    | true =>
                      go_wp2_with (first | (go_at_call_of 25 v4; refine HH1.out.mono ?_; rintro e w' ⟨rfl, rfl⟩) | (go_at_call 25; refine HH2.out.mono ?_; rintro e w' ⟨rfl, rfl⟩))
                      refine (D4.out u4 H34.out).mono ?_
                      rintro e u5 ⟨v5, rfl, r5, g5⟩
                      obtain ⟨A5, n5, c5, rfl, hn5, hcap5, hmax5, hc5⟩ := r5.lt.open_
                      have HC5 := Lib.hid hc5
                      have HA5 : Hid (∀ s, Calls Try.prog 25 #[.slice A1 n1 c1, .string s] u5 fun e w' => e = .returned (.bool (hasN (srcN acc i) s)) ∧ u5 = w') := fun s => HAS.out s u5 (H24.out.trans (g5.mono H24.out.size))
                      have G5 := Lib.hid (G4.out.trans (g5.mono G4.out.size))
                      have HIN : Hid (∀ s ∈ srcN acc j, hasN (srcN acc i) s = true) := fun s hs => src_src HUQ.out (List.getElem?_eq_some_iff.1 HY.out).1 HX.out (by rw [← HXN.out]; exact HQ.out.symm) hs
                      clear r5 hc5 hn5 g5
                      go_wp2_with fail
                      go_loop [139] (fun iv => ∃ t : Nat, t ≤ n5 ∧ iv = .int .i64 t) (fun iv => n5 - (intOf iv).toNat)
                      case atStart => exact ⟨0, Nat.zero_le _, rfl⟩
                      case round =>
                        obtain ⟨t, ht, rfl⟩ := hrel
                        by_cases hlt5 : t < n5
                        · obtain ⟨bq, oq, s, rfl, _, hs, hcell⟩ := HC5.out t hlt5
                          have HH := Lib.hid (HA5.out s)
                          rw [HIN.out s (mem_of_get? hs)] at HH
                          clear hs
                          go_wp2_with (go_at_call 25; refine HH.out.mono ?_; rintro e w' ⟨rfl, rfl⟩)
                          go_round
                          case rel => exact ⟨t + 1, by omega, by go_num⟩
                          case measure => simp [intOf]; omega
                        · go_wp2_with fail
                          go_roundw
                          case rel => exact ⟨j + 1, by omega, by go_num, G5.out⟩
                          case measure => simp [intOf]; omega
                  · go_wp2_with fail
                    go_roundw
                    case rel => exact ⟨i + 1, by omega, by go_num, H9.out⟩
                    case measure => simp [intOf]; omega
        · have HFIN := Lib.hid (HB3.out.trans (H3R.out.mono HB3.out.size))
          have HKR := Lib.hid ((HBR.out.block D (Array.getElem?_eq_some_iff.1 HK.out).1).trans HK.out)
          go_wp2_with (go_at_call 16; refine (awake_any _).mono ?_; rintro e w10 ⟨rfl, hb10⟩; have HKQ := Lib.hid ((hb10.block D (Array.getElem?_eq_some_iff.1 HKR.out).1).trans HKR.out))
          refine leaveT1 HKQ.out (by have := HD.out; have := HB3.out.size; have := HS6.out; omega) (HFIN.out.trans (hb10.mono HFIN.out.size)) rfl rfl rfl
end Go.Proofs.Ytlanephpmoajiaa
