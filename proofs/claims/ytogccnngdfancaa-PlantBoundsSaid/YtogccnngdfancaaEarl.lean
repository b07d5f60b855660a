/- The walk of earliest. -/
import Derived.Test.YtogccnngdfancaaEar1
import Derived.Test.YtogccnngdfancaaPlanP
namespace Go.Proofs.Ytogccnngdfancaa
open Go.RowKit
set_option linter.unusedVariables false
set_option linter.unusedSimpArgs false
theorem frm_bd {d : WorksD} (hg : WGood d) {press kind : Int} : ∀ {l : List JobD}, JobsOk d l → 0 ≤ frmP d l press kind ∧ frmP d l press kind ≤ 1002000 := by
  intro l
  unfold frmP
  have key : ∀ (l : List JobD) (f : Int), JobsOk d l → 0 ≤ f ∧ f ≤ 1002000 → 0 ≤ l.foldl (frmS d press kind) f ∧ l.foldl (frmS d press kind) f ≤ 1002000 := by
    intro l
    induction l with
    | nil => intro f _ h; exact h
    | cons x l ih =>
      intro f hl hf
      refine ih _ ⟨fun y hy => hl.kind y (List.mem_cons_of_mem _ hy), fun y hy => hl.start y (List.mem_cons_of_mem _ hy)⟩ ?_
      unfold frmS
      split
      · have h1 := hl.kind x (List.mem_cons_self ..)
        have h2 := hl.start x (List.mem_cons_self ..)
        have h3 := hg.ok.cure x.kind.toNat (by omega)
        rw [show ((x.kind.toNat : Nat) : Int) = x.kind by omega] at h3
        have h4 := hg.ok.c0
        have h5 := hg.ok.c1
        unfold endJ
        split <;> omega
      · exact hf
  exact fun hl => key l 0 hl (by omega)
theorem JobsOk.take {d : WorksD} {l : List JobD} (h : JobsOk d l) (i : Nat) : JobsOk d (l.take i) := ⟨fun y hy => h.kind y (List.mem_of_mem_take hy), fun y hy => h.start y (List.mem_of_mem_take hy)⟩
theorem cure_calm {d : WorksD} (hg : WGood d) {k : Int} (h0 : 0 ≤ k) (h1 : k < d.cure.length) : 1 ≤ cureOf d k ∧ cureOf d k ≤ 1000 := by
  have h3 := hg.ok.cure k.toNat (by omega)
  rwa [show ((k.toNat : Nat) : Int) = k by omega] at h3
set_option maxRecDepth 100000 in
set_option maxHeartbeats 4000000 in
theorem earliest_any (v vl : Value) (d : WorksD) (l : List JobD) (press kind : Int) (S T : Nat → Prop) (w : World) (hv : WkV w S v d) (hl : RdK 3 jobC w T vl l) (hg : WGood d) (hj : JobsOk d l) (h0 : 0 ≤ kind) (h1 : kind < d.cure.length) (hll : l.length ≤ 64) :
    Calls Try.prog 19 #[v, vl, .int .i64 press, .int .i64 kind] w fun e w' => e = .returned (.int .i64 (earlP d l press kind)) ∧ Below w.heap.size w w' := by
  obtain ⟨i0, hi, hz0, hz1, hz2⟩ := info_parts info3
  have HE := Lib.hid (fun (x : JobD) (hx : x ∈ l) w' (h : Below w.heap.size w w') => end_any v d x S w' (hv.below h) (hj.kind x hx).1 (hj.kind x hx).2 (by have := hj.start x hx; omega) (by have := cure_calm hg (hj.kind x hx).1 (hj.kind x hx).2; omega))
  have HEB := Lib.hid (fun (x : JobD) (hx : x ∈ l) => show 0 ≤ endJ d x ∧ endJ d x ≤ 1001000 by have := cure_calm hg (hj.kind x hx).1 (hj.kind x hx).2; have := hj.start x hx; unfold endJ; omega)
  have HFB := Lib.hid (fun i => frm_bd hg (press := press) (kind := kind) (hj.take i))
  have HG := Lib.hid hg
  have HJ := Lib.hid hj
  have HV := Lib.hid hv
  have HK1 := Lib.hid h1
  have HL := Lib.hid hl
  obtain ⟨vc, vn, vm, rfl, -, -, -⟩ := hv
  obtain ⟨A, n, cap, rfl, hn, hcap, hmax, hcc⟩ := (hl.lt jobC_0).open_
  have HN := Lib.hid hn
  have HC := Lib.hid hcc
  have hn64 : n ≤ 64 := by omega
  obtain ⟨W1, hW1⟩ : ∃ W1, W1 = (((w.alloc (.cells #[.int .i64 d.presses, .int .i64 d.change, vc, vn, vm] 31)).alloc (.cells #[.slice A n cap] 27)).alloc (.cells #[.int .i64 press] 3)).alloc (.cells #[.int .i64 kind] 3) := ⟨_, rfl⟩
  have hb1 : Below w.heap.size w W1 := by rw [hW1]; exact ((((Below.refl _ w).alloc (Nat.le_refl _) _).alloc (by simp) _).alloc (by simp; omega) _).alloc (by simp; omega) _
  have m0 : W1.heap[w.heap.size]? = some (.cells #[.int .i64 d.presses, .int .i64 d.change, vc, vn, vm] 31) := by rw [hW1, Below.heap_alloc _ _ _ (by simp; omega), Below.heap_alloc _ _ _ (by simp; omega), Below.heap_alloc _ _ _ (by simp)]; exact heap_alloc_new w _
  have m1 : W1.heap[w.heap.size + 1]? = some (.cells #[.slice A n cap] 27) := by rw [hW1, Below.heap_alloc _ _ _ (by simp), Below.heap_alloc _ _ _ (by simp)]; have := heap_alloc_new (w.alloc (.cells #[.int .i64 d.presses, .int .i64 d.change, vc, vn, vm] 31)) (.cells #[.slice A n cap] 27); simpa using this
  have m2 : W1.heap[w.heap.size + 1 + 1]? = some (.cells #[.int .i64 press] 3) := by rw [hW1, Below.heap_alloc _ _ _ (by simp)]; have := heap_alloc_new ((w.alloc (.cells #[.int .i64 d.presses, .int .i64 d.change, vc, vn, vm] 31)).alloc (.cells #[.slice A n cap] 27)) (.cells #[.int .i64 press] 3); simpa using this
  have m3 : W1.heap[w.heap.size + 1 + 1 + 1]? = some (.cells #[.int .i64 kind] 3) := by rw [hW1]; have := heap_alloc_new (((w.alloc (.cells #[.int .i64 d.presses, .int .i64 d.change, vc, vn, vm] 31)).alloc (.cells #[.slice A n cap] 27)).alloc (.cells #[.int .i64 press] 3)) (.cells #[.int .i64 kind] 3); simpa using this
  have HSZ : Hid (W1.heap.size = w.heap.size + 4) := by show _ = _; rw [hW1]; simp
  have HM : Hid (∀ w', Below W1.heap.size W1 w' → w'.heap[w.heap.size]? = some (.cells #[.int .i64 d.presses, .int .i64 d.change, vc, vn, vm] 31) ∧ w'.heap[w.heap.size + 1]? = some (.cells #[.slice A n cap] 27) ∧ w'.heap[w.heap.size + 1 + 1]? = some (.cells #[.int .i64 press] 3) ∧ w'.heap[w.heap.size + 1 + 1 + 1]? = some (.cells #[.int .i64 kind] 3)) := fun w' hb => by
    have := HSZ.out
    exact ⟨(hb.block _ (by omega)).trans m0, (hb.block _ (by omega)).trans m1, (hb.block _ (by omega)).trans m2, (hb.block _ (by omega)).trans m3⟩
  have HCELL : Hid (∀ w', Below W1.heap.size W1 w' → (w'.cell? ⟨w.heap.size, 0, none⟩ = some (.int .i64 d.presses) ∧ w'.cell? ⟨w.heap.size, 1, none⟩ = some (.int .i64 d.change) ∧ w'.cell? ⟨w.heap.size, 2, none⟩ = some vc ∧ w'.cell? ⟨w.heap.size, 3, none⟩ = some vn ∧ w'.cell? ⟨w.heap.size, 4, none⟩ = some vm) ∧
      w'.cell? ⟨w.heap.size + 1, 0, none⟩ = some (.slice A n cap) ∧ w'.cell? ⟨w.heap.size + 1 + 1, 0, none⟩ = some (.int .i64 press) ∧ w'.cell? ⟨w.heap.size + 1 + 1 + 1, 0, none⟩ = some (.int .i64 kind)) := fun w' hb => by
    obtain ⟨k0, k1, k2, k3⟩ := HM.out w' hb
    exact ⟨⟨cell_of_row w' _ 0 _ _ _ k0, cell_of_row w' _ 1 _ _ _ k0, cell_of_row w' _ 2 _ _ _ k0, cell_of_row w' _ 3 _ _ _ k0, cell_of_row w' _ 4 _ _ _ k0⟩, cell_of_row w' _ 0 _ _ _ k1, cell_of_row w' _ 0 _ _ _ k2, cell_of_row w' _ 0 _ _ _ k3⟩
  have HW1 := Lib.hid hW1
  have HB1 := Lib.hid hb1
  have hch0 := hg.ok.c0
  have hch1 := hg.ok.c1
  clear hl hn hcc hW1 hb1 m0 m1 m2 m3 hj hg h1 hll
  go_enter Try.func19, Try.ntmps19
  go_wp2_with fail
  rw [← HW1.out]
  go_loopw [9, 19] (fun fv iv wr => ∃ i : Nat, i ≤ n ∧ iv = .int .i64 (i : Int) ∧ fv = .int .i64 (frmP d (l.take i) press kind) ∧ Below W1.heap.size W1 wr) (fun _ iv _ => n - (intOf iv).toNat)
  case atStart => exact ⟨0, Nat.zero_le _, rfl, rfl, Below.refl _ _⟩
  case round =>
    obtain ⟨i, hi', rfl, rfl, hbel⟩ := hrel
    have HBEL := Lib.hid hbel
    have HBR := Lib.hid (HB1.out.trans (hbel.mono HB1.out.size))
    clear hbel
    by_cases hlt : i < n
    · obtain ⟨b, off, x, rfl, ⟨_, hbl⟩, hx, hcell⟩ := HC.out i hlt
      have d0 : wr.cell? ⟨b, off + i * 3, none⟩ = some (.int .i64 x.press) := (HBR.out.cell (p := ⟨b, _, none⟩) hbl).trans (hcell 0 _ rfl)
      have d1 : wr.cell? ⟨b, off + i * 3 + 1, none⟩ = some (.int .i64 x.kind) := (HBR.out.cell (p := ⟨b, _, none⟩) hbl).trans (hcell 1 _ rfl)
      have d2 : wr.cell? ⟨b, off + i * 3 + 2, none⟩ = some (.int .i64 x.start) := (HBR.out.cell (p := ⟨b, _, none⟩) hbl).trans (hcell 2 _ rfl)
      have hst := frmP_take (d := d) (press := press) (kind := kind) hx
      obtain ⟨f0, hf0⟩ : ∃ f0, f0 = frmP d (l.take i) press kind := ⟨_, rfl⟩
      rw [← hf0] at hst ⊢
      have HEX := Lib.hid (HE.out x (mem_of_get? hx))
      have heb := HEB.out x (mem_of_get? hx)
      obtain ⟨e, he⟩ : ∃ e, e = endJ d x := ⟨_, rfl⟩
      unfold frmS at hst
      rw [← he] at HEX heb hst
      obtain ⟨he0, he1⟩ := heb
      have HST := Lib.hid hst
      obtain ⟨xp, xk, xs⟩ := x
      simp only [JobV] at d0 d1 d2 HEX HST
      obtain ⟨wa, hwa⟩ : ∃ wa, wa = wr.alloc (.cells #[.int .i64 xp, .int .i64 xk, .int .i64 xs] 38) := ⟨_, rfl⟩
      have hma := heap_alloc_new wr (.cells #[.int .i64 xp, .int .i64 xk, .int .i64 xs] 38)
      have hba : Below wr.heap.size wr wa := by rw [hwa]; exact (Below.refl _ _).alloc (Nat.le_refl _) _
      rw [← hwa] at hma
      have HWA := Lib.hid hwa
      have HBA := Lib.hid (HBEL.out.trans (hba.mono HBEL.out.size))
      have HBA0 := Lib.hid (HBR.out.trans (hba.mono HBR.out.size))
      have x0 : (wr.alloc (.cells #[.int .i64 xp, .int .i64 xk, .int .i64 xs] 38)).cell? ⟨wr.heap.size, 0, none⟩ = some (.int .i64 xp) := by rw [← hwa]; exact cell_of_row wa _ 0 _ _ _ hma
      have x1 : (wr.alloc (.cells #[.int .i64 xp, .int .i64 xk, .int .i64 xs] 38)).cell? ⟨wr.heap.size, 1, none⟩ = some (.int .i64 xk) := by rw [← hwa]; exact cell_of_row wa _ 1 _ _ _ hma
      have x2 : (wr.alloc (.cells #[.int .i64 xp, .int .i64 xk, .int .i64 xs] 38)).cell? ⟨wr.heap.size, 2, none⟩ = some (.int .i64 xs) := by rw [← hwa]; exact cell_of_row wa _ 2 _ _ _ hma
      obtain ⟨⟨y0, y1, y2, y3, y4⟩, y5, y6, y7⟩ := HCELL.out wa HBA.out
      rw [hwa] at y0 y1 y2 y3 y4 y5 y6 y7
      have hli : (i : Int) < (n : Int) := by omega
      have HMA := Lib.hid hma
      clear hx hcell hst hwa hma hba he hf0
      by_cases k1 : xp = press
      · have k1b : (xp != press) = false := by simp [k1]
        have K1 := Lib.hid k1
        clear k1
        have HEX2 := Lib.hid (HEX.out wa HBA0.out)
        go_wp2_with fail
        rw [← HWA.out]
        refine HEX2.out.mono ?_
        rintro e' w5 ⟨rfl, hb5⟩
        have HB5 := Lib.hid (HBA.out.trans (hb5.mono HBA.out.size))
        have hma5 := (hb5.block _ (Array.getElem?_eq_some_iff.1 HMA.out).1).trans HMA.out
        have z1 : w5.cell? ⟨wr.heap.size, 1, none⟩ = some (.int .i64 xk) := cell_of_row w5 _ 1 _ _ _ hma5
        clear x0 x1 x2 y0 y1 y2 y3 y4 y5 y6 y7 hb5 d0 d1 d2 hma5
        obtain ⟨⟨y0, y1, y2, y3, y4⟩, y5, y6, y7⟩ := HCELL.out w5 HB5.out
        by_cases k2 : xk = kind
        · have k2b : (xk != kind) = false := by simp [k2]
          have K2 := Lib.hid k2
          have HR : Hid (frmP d (l.take (i + 1)) press kind = e) := by show _ = _; rw [HST.out, if_pos K1.out, if_pos k2, Int.add_zero]
          clear k2
          go_wp2_with fail
          go_roundw
          case rel => exact ⟨i + 1, by omega, by go_num, by rw [HR.out], HB5.out⟩
          case measure => simp [intOf]; omega
        · have k2b : (xk != kind) = true := by simp [k2]
          have HR : Hid (frmP d (l.take (i + 1)) press kind = e + d.change) := by show _ = _; rw [HST.out, if_pos K1.out, if_neg k2]
          clear k2
          go_wp2_with fail
          go_roundw
          case rel => exact ⟨i + 1, by omega, by go_num, by rw [HR.out], HB5.out⟩
          case measure => simp [intOf]; omega
      · have k1b : (xp != press) = true := by simp [k1]
        have HR : Hid (frmP d (l.take (i + 1)) press kind = f0) := by show _ = _; rw [HST.out, if_neg k1]
        clear k1
        go_wp2_with fail
        rw [← HWA.out]
        clear x0 x1 x2 y0 y1 y2 y3 y4 y5 y6 y7 d0 d1 d2
        go_roundw
        case rel => exact ⟨i + 1, by omega, by go_num, by rw [HR.out], HBA.out⟩
        case measure => simp [intOf]; omega
    · have hin : i = n := by omega
      have HF : Hid (frmP d (l.take i) press kind = frmP d l press kind) := by show _ = _; rw [hin, ← HN.out, List.take_length]
      have hfb := HFB.out n
      rw [← HN.out, List.take_length] at hfb
      obtain ⟨f, hf⟩ : ∃ f, f = frmP d l press kind := ⟨_, rfl⟩
      rw [← hf] at HF hfb
      obtain ⟨hf0, hf1⟩ := hfb
      rw [HF.out]
      have HFE := Lib.hid hf
      clear hin hf
      obtain ⟨wb, hwb⟩ : ∃ wb, wb = wr.alloc (.cells #[.int .i64 f] 3) := ⟨_, rfl⟩
      have hbb : Below W1.heap.size W1 wb := by rw [hwb]; exact HBEL.out.alloc HBEL.out.size _
      have hownb : wb.ownsRow W1.heap.size 3 1 (.slice (some ⟨wr.heap.size, 0, none⟩) 1 1) 1 [.int .i64 f] := by rw [hwb]; exact World.ownsRow_lit wr #[.int .i64 f] 1 HBEL.out.size (by decide) rfl
      obtain ⟨⟨y0, y1, y2, y3, y4⟩, y5, y6, y7⟩ := HCELL.out wb hbb
      rw [hwb] at y0 y1 y2 y3 y4 y5 y6 y7
      have HBB := Lib.hid hbb
      have HWB := Lib.hid hwb
      have HOWNB := Lib.hid hownb
      have hli : ¬ ((i : Int) < (n : Int)) := by omega
      clear hwb hbb hownb HBEL HBR
      go_wp2_with fail
      rw [← HWB.out]
      clear y0 y1 y2 y3 y4 y5 y6 y7
      go_loopw [13, 44] (fun tv iv wr => ∃ (k : Nat) (cs : List Int), k ≤ n ∧ iv = .int .i64 (k : Int) ∧ cs = cands d (l.take k) kind f ∧ wr.ownsRow W1.heap.size 3 1 tv cs.length (cs.map (Value.int .i64)) ∧ Below W1.heap.size W1 wr) (fun _ iv _ => n - (intOf iv).toNat)
      case atStart => exact ⟨0, [f], Nat.zero_le _, rfl, rfl, HOWNB.out, HBB.out⟩
      case round =>
        obtain ⟨k, cs, hk, rfl, hcs, hown, hbel⟩ := hrel
        obtain ⟨A2, c2, rfl⟩ := ownsRow_slice hown
        have HBEL := Lib.hid hbel
        have HBR := Lib.hid (HB1.out.trans (hbel.mono HB1.out.size))
        have hcl : cs.length ≤ 65 := by rw [hcs]; have := cands_len d (l.take k) kind f; rw [List.length_take] at this; omega
        have HOWN := Lib.hid hown
        clear hbel hown
        obtain ⟨q, hq⟩ : ∃ q, q = cs.length := ⟨_, rfl⟩
        rw [← hq] at HOWN hcl ⊢
        by_cases hlt : k < n
        · obtain ⟨b, off, x, rfl, ⟨_, hbl⟩, hx, hcell⟩ := HC.out k hlt
          have d0 : wr.cell? ⟨b, off + k * 3, none⟩ = some (.int .i64 x.press) := (HBR.out.cell (p := ⟨b, _, none⟩) hbl).trans (hcell 0 _ rfl)
          have d1 : wr.cell? ⟨b, off + k * 3 + 1, none⟩ = some (.int .i64 x.kind) := (HBR.out.cell (p := ⟨b, _, none⟩) hbl).trans (hcell 1 _ rfl)
          have d2 : wr.cell? ⟨b, off + k * 3 + 2, none⟩ = some (.int .i64 x.start) := (HBR.out.cell (p := ⟨b, _, none⟩) hbl).trans (hcell 2 _ rfl)
          have hst := cands_take (d := d) (kind := kind) (frm := f) hx
          rw [← hcs] at hst
          have HEX := Lib.hid (HE.out x (mem_of_get? hx))
          have heb := HEB.out x (mem_of_get? hx)
          obtain ⟨e, he⟩ : ∃ e, e = endJ d x := ⟨_, rfl⟩
          rw [← he] at HEX heb hst
          obtain ⟨he0, he1⟩ := heb
          have HST := Lib.hid hst
          obtain ⟨xp, xk, xs⟩ := x
          simp only [JobV] at d0 d1 d2 HEX HST
          obtain ⟨wa, hwa⟩ : ∃ wa, wa = wr.alloc (.cells #[.int .i64 xp, .int .i64 xk, .int .i64 xs] 38) := ⟨_, rfl⟩
          have hma := heap_alloc_new wr (.cells #[.int .i64 xp, .int .i64 xk, .int .i64 xs] 38)
          have hba : Below wr.heap.size wr wa := by rw [hwa]; exact (Below.refl _ _).alloc (Nat.le_refl _) _
          rw [← hwa] at hma
          have HWA := Lib.hid hwa
          have HBA := Lib.hid (HBEL.out.trans (hba.mono HBEL.out.size))
          have HBA0 := Lib.hid (HBR.out.trans (hba.mono HBR.out.size))
          have HOWA := Lib.hid (HOWN.out.alloc (.cells #[.int .i64 xp, .int .i64 xk, .int .i64 xs] 38))
          rw [← hwa] at HOWA
          have x0 : (wr.alloc (.cells #[.int .i64 xp, .int .i64 xk, .int .i64 xs] 38)).cell? ⟨wr.heap.size, 0, none⟩ = some (.int .i64 xp) := by rw [← hwa]; exact cell_of_row wa _ 0 _ _ _ hma
          have x1 : (wr.alloc (.cells #[.int .i64 xp, .int .i64 xk, .int .i64 xs] 38)).cell? ⟨wr.heap.size, 1, none⟩ = some (.int .i64 xk) := by rw [← hwa]; exact cell_of_row wa _ 1 _ _ _ hma
          have x2 : (wr.alloc (.cells #[.int .i64 xp, .int .i64 xk, .int .i64 xs] 38)).cell? ⟨wr.heap.size, 2, none⟩ = some (.int .i64 xs) := by rw [← hwa]; exact cell_of_row wa _ 2 _ _ _ hma
          obtain ⟨⟨y0, y1, y2, y3, y4⟩, y5, y6, y7⟩ := HCELL.out wa HBA.out
          rw [hwa] at y0 y1 y2 y3 y4 y5 y6 y7
          have hli2 : (k : Int) < (n : Int) := by omega
          have HMA := Lib.hid hma
          have HQ := Lib.hid hq
          have HCS := Lib.hid hcs
          clear hx hcell hst hwa hma hba he hq hcs
          by_cases k1 : xk = kind
          · have k1b : (xk == kind) = true := by simp [k1]
            have K1 := Lib.hid k1
            clear k1
            have HEX2 := Lib.hid (HEX.out wa HBA0.out)
            go_wp2_with fail
            rw [← HWA.out]
            refine HEX2.out.mono ?_
            rintro e' w5 ⟨rfl, hb5⟩
            have HB5 := Lib.hid (HBA.out.trans (hb5.mono HBA.out.size))
            have HB50 := Lib.hid (HBA0.out.trans (hb5.mono HBA0.out.size))
            have hma5 := (hb5.block _ (Array.getElem?_eq_some_iff.1 HMA.out).1).trans HMA.out
            have HOW5 := Lib.hid (HOWA.out.kept (row := none) ⟨hb5.os, hb5.tape, hb5.output, hb5.size, fun k hk _ => hb5.block k hk⟩ (Classical.em _))
            have z0 : w5.cell? ⟨wr.heap.size, 0, none⟩ = some (.int .i64 xp) := cell_of_row w5 _ 0 _ _ _ hma5
            have z1 : w5.cell? ⟨wr.heap.size, 1, none⟩ = some (.int .i64 xk) := cell_of_row w5 _ 1 _ _ _ hma5
            have z2 : w5.cell? ⟨wr.heap.size, 2, none⟩ = some (.int .i64 xs) := cell_of_row w5 _ 2 _ _ _ hma5
            clear x0 x1 x2 y0 y1 y2 y3 y4 y5 y6 y7 hb5 d0 d1 d2 hma5
            obtain ⟨⟨y0, y1, y2, y3, y4⟩, y5, y6, y7⟩ := HCELL.out w5 HB5.out
            by_cases k2 : f < e
            · have HR : Hid (cands d (l.take (k + 1)) kind f = cs ++ [e]) := by show _ = _; rw [HST.out, if_pos ⟨K1.out, k2⟩]
              have HEX3 := Lib.hid (HEX.out w5 HB50.out)
              go_wp2_with (first | (go_at_call 23; refine HEX3.out.mono ?_; rintro e' w6 ⟨rfl, hb6⟩; have HB6 := Lib.hid (HB5.out.trans (hb6.mono HB5.out.size)); have HOW6 := Lib.hid (HOW5.out.kept (row := none) ⟨hb6.os, hb6.tape, hb6.output, hb6.size, fun k hk _ => hb6.block k hk⟩ (Classical.em _)); clear hb6 z0 z1 z2 y0 y1 y2 y3 y4 y5 y6 y7) | (at_builtin; refine wpList_append_own _ rfl _ _ 22 rfl W1.heap.size 3 i0 (.int .i64 0) 1 8 Try.underlying22 hi hz0 hz1 hz2 rfl (by decide) _ _ _ rfl (HOW6.out.alloc _) ⟨w6.heap.size, 0, none⟩ 1 1 [.int .i64 e] rfl rfl (cell_one_new _ _ _) (fun u hu => by simp at hu; subst hu; rfl) (by unfold maxLen; omega) (by omega) (by have := HB6.out.size; simp; omega) ?_; intro v' w7 hown7 hg7 _))
              obtain ⟨A7, c7, rfl⟩ := ownsRow_slice hown7
              have hb7 : Below W1.heap.size W1 w7 := (HB6.out.alloc HB6.out.size _).grown hg7 (by have := HB6.out.size; simp; omega) (fun k hk => (HOW6.out.lt k hk).1)
              have HB7 := Lib.hid hb7
              have HOW7 : Hid (w7.ownsRow W1.heap.size 3 1 (.slice A7 (q + 1) c7) (cs ++ [e]).length ((cs ++ [e]).map (Value.int .i64))) := by show World.ownsRow _ _ _ _ _ _ _; rw [List.length_append, ← HQ.out, List.map_append]; exact hown7
              clear hb7 hown7 hg7
              go_wp2_with fail
              go_roundw
              case rel => exact ⟨k + 1, cs ++ [e], by omega, by go_num, HR.out.symm, HOW7.out, HB7.out⟩
              case measure => simp [intOf]; omega
            · have HR : Hid (cands d (l.take (k + 1)) kind f = cs) := by show _ = _; rw [HST.out, if_neg (fun h => k2 h.2)]
              go_wp2_with fail
              go_roundw
              case rel => exact ⟨k + 1, cs, by omega, by go_num, HR.out.symm, by rw [← HQ.out]; exact HOW5.out, HB5.out⟩
              case measure => simp [intOf]; omega
          · have k1b : (xk == kind) = false := by simp [k1]
            have HR : Hid (cands d (l.take (k + 1)) kind f = cs) := by show _ = _; rw [HST.out, if_neg (fun h => k1 h.1)]
            clear k1
            go_wp2_with fail
            rw [← HWA.out]
            clear x0 x1 x2 y0 y1 y2 y3 y4 y5 y6 y7 d0 d1 d2
            go_roundw
            case rel => exact ⟨k + 1, cs, by omega, by go_num, HR.out.symm, by rw [← HQ.out]; exact HOWA.out, HBA.out⟩
            case measure => simp [intOf]; omega
        · have hkn : k = n := by omega
          have hcs' : cs = cands d l kind f := by rw [hcs, hkn, ← HN.out, List.take_length]
          have hne : cs ≠ [] := by rw [hcs']; simp [cands]
          have hq1 : 1 ≤ q := by rw [hq]; exact List.length_pos_iff.2 hne
          obtain ⟨g, u, hA, hg1, hg2, _, _, _⟩ := ownsRow_at HOWN.out 0 (by omega)
          subst hA
          have HSO := Lib.hid (sortI_own (.slice (some ⟨g, 0, none⟩) q c2) W1.heap.size cs wr (by rw [← hq]; exact HOWN.out) hne (by omega))
          obtain ⟨zs, hzs⟩ : ∃ zs, zs = sortZ cs := ⟨_, rfl⟩
          have hzl : zs.length = q := by rw [hzs, (sortZ_perm cs).length_eq, hq]
          have hmem : ∀ x ∈ zs, Calm x := fun x hx => by
            rw [hzs] at hx
            have h2 := (sortZ_perm cs).mem_iff.1 hx
            rw [hcs'] at h2
            rcases mem_cands.1 h2 with h3 | ⟨h3, y, hy, hyk, h4⟩
            · unfold Calm; omega
            · have := HEB.out y hy; unfold Calm; omega
          obtain ⟨fi, hfi⟩ : ∃ fi, fi = firstIdx (atB (fun t => fitsP d l ⟨press, kind, t⟩) zs) zs.length := ⟨_, rfl⟩
          have hfib := firstIdx_lt (atB (fun t => fitsP d l ⟨press, kind, t⟩) zs) zs.length
          have HIX : Hid (∀ w3, w3.ownsRow W1.heap.size 3 1 (.slice (some ⟨g, 0, none⟩) q c2) q (zs.map (Value.int .i64)) → Below W1.heap.size W1 w3 →
              Calls Try.prog 37 #[.slice (some ⟨g, 0, none⟩) q c2, .func (.func 38) #[] #[.pointer (some ⟨w.heap.size, 0, none⟩), .pointer (some ⟨w.heap.size + 1, 0, none⟩), .pointer (some ⟨w.heap.size + 1 + 1, 0, none⟩), .pointer (some ⟨w.heap.size + 1 + 1 + 1, 0, none⟩)]] w3 fun e w' => e = .returned (.int .i64 fi) ∧ Below w3.heap.size w3 w') := fun w3 ho3 hb3 => by
            rw [hfi]
            refine indexFuncI_any _ zs (W1.heap.size ≤ ·) 38 _ (fun args w => rfl) (fun t => fitsP d l ⟨press, kind, t⟩) w3 (Rd.of_own ho3) (fun x hx w' hb' => ?_)
            have hbw : Below W1.heap.size W1 w' := hb3.trans (hb'.mono hb3.size)
            have hbw0 : Below w.heap.size w w' := HB1.out.trans (hbw.mono HB1.out.size)
            obtain ⟨k0, k1, k2, k3⟩ := HM.out w' hbw
            exact ear1_any x press kind _ _ _ _ _ _ _ _ d l _ vc vn vm S T w' k0 k1 k2 k3 (HV.out.below hbw0) (HL.out.below jobC_0 hbw0) h0 HK1.out HG.out.ok.n2 (hmem x hx)
              (fun y hy _ => by have := HJ.out.start y hy; unfold Calm; omega) (by have := cure_calm HG.out h0 HK1.out; unfold Calm; omega) (by have := HN.out; omega)
          rw [← hfi, hzl] at hfib
          obtain ⟨fb0, fb1⟩ := hfib
          obtain ⟨mm, hmm⟩ : ∃ mm : Nat, (mm : Int) = max fi 0 := ⟨(max fi 0).toNat, by omega⟩
          have hmaxE : max fi 0 = (mm : Int) := hmm.symm
          have hmq : mm < q := by omega
          have hzm : zs[mm]? = some (zs.getD mm 0) := by rw [List.getD_eq_getElem?_getD, List.getElem?_eq_getElem (by omega)]; rfl
          have HRES : Hid (earlP d l press kind = zs.getD mm 0) := by
            show _ = _
            unfold earlP earI
            rw [← HFE.out, ← hcs', ← hzs, ← hq, ← hzl, ← hfi, ← hmm, Int.toNat_natCast]
          obtain ⟨z, hz⟩ : ∃ z, z = zs.getD mm 0 := ⟨_, rfl⟩
          rw [← hz] at hzm HRES
          rw [← hq, ← hzs] at HSO
          have HZM := Lib.hid hzm
          have hmqi : (mm : Int) < (q : Int) := by omega
          have hmm0 : (0 : Int) ≤ (mm : Int) := by omega
          have hlti : ¬ ((k : Int) < (n : Int)) := by omega
          clear hkn hcs' hne hzs hzl hmem hfi hmm hz hzm hcs hq
          go_wp2_with (first
            | (go_at_call 36; refine HSO.out.mono ?_; rintro e w3 ⟨rfl, ho3, hg3⟩; have HO3 := Lib.hid ho3; have HB3 : Hid (Below W1.heap.size W1 w3) := HBEL.out.grown hg3 HBEL.out.size (fun k hk => (HOWN.out.lt k hk).1); clear ho3 hg3)
            | (go_at_call 37; refine (HIX.out _ HO3.out HB3.out).mono ?_; rintro e w4 ⟨rfl, hb4⟩; have HO4 := HO3.out.kept (row := none) ⟨hb4.os, hb4.tape, hb4.output, hb4.size, fun k hk _ => hb4.block k hk⟩ (Classical.em _); have HB4 := Lib.hid (HB3.out.trans (hb4.mono HB3.out.size)); have cz := (HO4.cellAt mm (by omega)).trans (by rw [List.getElem?_map, HZM.out]; rfl : _ = some (.int .i64 z)); clear hb4 HO4))
          go_ret
          exact ⟨by rw [HRES.out]; rfl, HB1.out.trans (HB4.out.mono HB1.out.size)⟩
end Go.Proofs.Ytogccnngdfancaa
