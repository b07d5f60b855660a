/- The walk of running. -/
import Derived.Test.YtogccnngdfancaaWk
import Derived.Test.YtogccnngdfancaaRdK
namespace Go.Proofs.Ytogccnngdfancaa
open Go.RowKit
set_option linter.unusedVariables false
set_option linter.unusedSimpArgs false
def jobC (j : JobD) : List Value := [.int .i64 j.press, .int .i64 j.kind, .int .i64 j.start]
theorem jobC_0 (x : JobD) : ∃ u, (jobC x)[0]? = some u := ⟨_, rfl⟩
theorem jobC_len (x : JobD) : (jobC x).length = 3 := rfl
theorem runN_take {d : WorksD} {l : List JobD} {kind t : Int} {i : Nat} {x : JobD} (h : l[i]? = some x) : runN d (l.take (i + 1)) kind t = runN d (l.take i) kind t + if runB d kind t x = true then 1 else 0 := by
  rw [take_snoc? h, runN_snoc]
theorem runN_le (d : WorksD) (l : List JobD) (kind t : Int) : runN d l kind t ≤ l.length := List.countP_le_length
/-- Small numbers: sums do not wrap. -/
def Calm (z : Int) : Prop := -1000000000000 ≤ z ∧ z ≤ 1000000000000
set_option maxRecDepth 100000 in
set_option maxHeartbeats 1000000 in
theorem running_any (v vl : Value) (d : WorksD) (l : List JobD) (kind t : Int) (S T : Nat → Prop) (w : World) (hv : WkV w S v d) (hl : RdK 3 jobC w T vl l) (h0 : 0 ≤ kind) (h1 : kind < d.cure.length) (hs : ∀ j ∈ l, j.kind = kind → Calm j.start) (hc : Calm (cureOf d kind)) (hll : l.length ≤ 1000) :
    Calls Try.prog 26 #[v, vl, .int .i64 kind, .int .i64 t] w fun e w' => e = .returned (.int .i64 (runN d l kind t : Nat)) ∧ Below w.heap.size w w' := by
  have HE := Lib.hid (fun (j : JobD) (hj : j ∈ l) (hk : j.kind = kind) w' (h : Below w.heap.size w w') => end_any v d j S w' (hv.below h) (by rw [hk]; exact h0) (by rw [hk]; exact h1) (hs j hj hk) (by rw [hk]; exact hc))
  obtain ⟨vc, vn, vm, rfl, -, -, -⟩ := hv
  obtain ⟨A, n, cap, rfl, hn, hcap, hmax, hcc⟩ := (hl.lt jobC_0).open_
  have HN := Lib.hid hn
  have HC := Lib.hid hcc
  have hn1000 : n ≤ 1000 := by omega
  obtain ⟨W1, hW1⟩ : ∃ W1, W1 = w.alloc (.cells #[.int .i64 d.presses, .int .i64 d.change, vc, vn, vm] 31) := ⟨_, rfl⟩
  have hm1 := heap_alloc_new w (.cells #[.int .i64 d.presses, .int .i64 d.change, vc, vn, vm] 31)
  have hb1 : Below w.heap.size w W1 := by rw [hW1]; exact (Below.refl _ w).alloc (Nat.le_refl _) _
  rw [← hW1] at hm1
  have HW1 := Lib.hid hW1
  have HB1 := Lib.hid hb1
  have HM1 := Lib.hid hm1
  clear hl hn hcc hW1 hm1 hb1 hs hc h0 h1 hll
  go_enter Try.func26, Try.ntmps26
  go_wp2_with fail
  rw [← HW1.out]
  go_loopw [9, 14] (fun cv iv wr => ∃ i : Nat, i ≤ n ∧ iv = .int .i64 (i : Int) ∧ cv = .int .i64 (runN d (l.take i) kind t : Nat) ∧ Below W1.heap.size W1 wr) (fun _ iv _ => n - (intOf iv).toNat)
  case atStart => exact ⟨0, Nat.zero_le _, rfl, rfl, Below.refl _ _⟩
  case round =>
    obtain ⟨i, hi, rfl, rfl, hbel⟩ := hrel
    have HBR := Lib.hid (HB1.out.trans (hbel.mono HB1.out.size))
    have HBEL := Lib.hid hbel
    have HMR : Hid (wr.heap[w.heap.size]? = _) := (hbel.block _ (Array.getElem?_eq_some_iff.1 HM1.out).1).trans HM1.out
    clear hbel
    by_cases hlt : i < n
    · obtain ⟨b, off, x, rfl, ⟨_, hbl⟩, hx, hcell⟩ := HC.out i hlt
      have d0 : wr.cell? ⟨b, off + i * 3, none⟩ = some (.int .i64 x.press) := (HBR.out.cell (p := ⟨b, _, none⟩) hbl).trans (hcell 0 _ rfl)
      have d1 : wr.cell? ⟨b, off + i * 3 + 1, none⟩ = some (.int .i64 x.kind) := (HBR.out.cell (p := ⟨b, _, none⟩) hbl).trans (hcell 1 _ rfl)
      have d2 : wr.cell? ⟨b, off + i * 3 + 2, none⟩ = some (.int .i64 x.start) := (HBR.out.cell (p := ⟨b, _, none⟩) hbl).trans (hcell 2 _ rfl)
      have hst := runN_take (d := d) (kind := kind) (t := t) hx
      obtain ⟨c0, hc0⟩ : ∃ c0, c0 = runN d (l.take i) kind t := ⟨_, rfl⟩
      have hc0l : c0 ≤ i := by rw [hc0]; have := runN_le d (l.take i) kind t; rw [List.length_take] at this; omega
      rw [← hc0] at hst ⊢
      have HST := Lib.hid hst
      have HEX := Lib.hid (HE.out x (mem_of_get? hx))
      have hrb : Hid (runB d kind t x = (decide (x.kind = kind) && (decide (x.start ≤ t) && decide (t < endJ d x)))) := rfl
      obtain ⟨e, he⟩ : ∃ e, e = endJ d x := ⟨_, rfl⟩
      rw [← he] at HEX hrb
      obtain ⟨xp, xk, xs⟩ := x
      simp only [JobV] at d0 d1 d2 HEX hrb
      obtain ⟨wa, hwa⟩ : ∃ wa, wa = wr.alloc (.cells #[.int .i64 xp, .int .i64 xk, .int .i64 xs] 38) := ⟨_, rfl⟩
      have hma := heap_alloc_new wr (.cells #[.int .i64 xp, .int .i64 xk, .int .i64 xs] 38)
      have hba : Below wr.heap.size wr wa := by rw [hwa]; exact (Below.refl _ _).alloc (Nat.le_refl _) _
      rw [← hwa] at hma
      have HWA := Lib.hid hwa
      have HBA := Lib.hid (HBEL.out.trans (hba.mono HBEL.out.size))
      have HBA0 := Lib.hid (HBR.out.trans (hba.mono HBR.out.size))
      have x0 : (wr.alloc (.cells #[.int .i64 xp, .int .i64 xk, .int .i64 xs] 38)).cell? ⟨wr.heap.size, 0, none⟩ = some (.int .i64 xp) := by rw [← hwa]; exact cell_of_row wa _ 0 _ _ _ hma
      have x1 : (wr.alloc (.cells #[.int .i64 xp, .int .i64 xk, .int .i64 xs] 38)).cell? ⟨wr.heap.size, 1, none⟩ = some (.int .i64 xk) := by rw [← hwa]; exact cell_of_row wa _ 1 _ _ _ hma
      have x2 : (wr.alloc (.cells #[.int .i64 xp, .int .i64 xk, .int .i64 xs] 38)).cell? ⟨wr.heap.size, 2, none⟩ = some (.int .i64 xs) := by rw [← hwa]; exact cell_of_row wa _ 2 _ _ _ hma
      have hmw : wa.heap[w.heap.size]? = _ := (hba.block _ (Array.getElem?_eq_some_iff.1 HMR.out).1).trans HMR.out
      have y0 : (wr.alloc (.cells #[.int .i64 xp, .int .i64 xk, .int .i64 xs] 38)).cell? ⟨w.heap.size, 0, none⟩ = some (.int .i64 d.presses) := by rw [← hwa]; exact cell_of_row wa _ 0 _ _ _ hmw
      have y1 : (wr.alloc (.cells #[.int .i64 xp, .int .i64 xk, .int .i64 xs] 38)).cell? ⟨w.heap.size, 1, none⟩ = some (.int .i64 d.change) := by rw [← hwa]; exact cell_of_row wa _ 1 _ _ _ hmw
      have y2 : (wr.alloc (.cells #[.int .i64 xp, .int .i64 xk, .int .i64 xs] 38)).cell? ⟨w.heap.size, 2, none⟩ = some vc := by rw [← hwa]; exact cell_of_row wa _ 2 _ _ _ hmw
      have y3 : (wr.alloc (.cells #[.int .i64 xp, .int .i64 xk, .int .i64 xs] 38)).cell? ⟨w.heap.size, 3, none⟩ = some vn := by rw [← hwa]; exact cell_of_row wa _ 3 _ _ _ hmw
      have y4 : (wr.alloc (.cells #[.int .i64 xp, .int .i64 xk, .int .i64 xs] 38)).cell? ⟨w.heap.size, 4, none⟩ = some vm := by rw [← hwa]; exact cell_of_row wa _ 4 _ _ _ hmw
      have hli : (i : Int) < (n : Int) := by omega
      clear hx hcell hst hwa hma hba hmw he hc0
      by_cases k1 : xk = kind
      · have k1b : (xk == kind) = true := by simpa using k1
        by_cases k2 : xs ≤ t
        · have HEX2 := Lib.hid (HEX.out k1 wa HBA0.out)
          clear k1
          go_wp2_with fail
          rw [← HWA.out]
          refine HEX2.out.mono ?_
          rintro e' w5 ⟨rfl, hb5⟩
          have HB5 := Lib.hid (HBA.out.trans (hb5.mono HBA.out.size))
          clear x0 x1 x2 y0 y1 y2 y3 y4 hb5 d0 d1 d2
          by_cases k3 : t < e
          · have hbv : runB d kind t ⟨xp, xk, xs⟩ = true := by rw [hrb.out]; simp [k2, k3, eq_of_beq k1b]
            have HR : Hid (runN d (l.take (i + 1)) kind t = c0 + 1) := by show _ = _; rw [HST.out, if_pos hbv]
            clear hbv
            go_wp2_with fail
            go_roundw
            case rel => exact ⟨i + 1, by omega, by go_num, by rw [HR.out]; go_num, HB5.out⟩
            case measure => simp [intOf]; omega
          · have HR : Hid (runN d (l.take (i + 1)) kind t = c0) := by show _ = _; rw [HST.out, if_neg (by rw [hrb.out, decide_eq_false k3]; simp), Nat.add_zero]
            go_wp2_with fail
            go_roundw
            case rel => exact ⟨i + 1, by omega, by go_num, by rw [HR.out], HB5.out⟩
            case measure => simp [intOf]; omega
        · have HR : Hid (runN d (l.take (i + 1)) kind t = c0) := by show _ = _; rw [HST.out, if_neg (by rw [hrb.out, decide_eq_false k2]; simp), Nat.add_zero]
          have HB5 := HBA
          clear HE HEX k1
          go_wp2_with fail
          rw [← HWA.out]
          clear x0 x1 x2 y0 y1 y2 y3 y4 d0 d1 d2
          go_roundw
          case rel => exact ⟨i + 1, by omega, by go_num, by rw [HR.out], HB5.out⟩
          case measure => simp [intOf]; omega
      · have k1b : (xk == kind) = false := by simpa using k1
        have HR : Hid (runN d (l.take (i + 1)) kind t = c0) := by show _ = _; rw [HST.out, if_neg (by rw [hrb.out, decide_eq_false k1]; simp), Nat.add_zero]
        have HB5 := HBA
        clear HE HEX k1
        go_wp2_with fail
        rw [← HWA.out]
        clear x0 x1 x2 y0 y1 y2 y3 y4 d0 d1 d2
        go_roundw
        case rel => exact ⟨i + 1, by omega, by go_num, by rw [HR.out], HB5.out⟩
        case measure => simp [intOf]; omega
    · have hin : i = n := by omega
      have HR : Hid (runN d (l.take i) kind t = runN d l kind t) := by show _ = _; rw [hin, ← HN.out, List.take_length]
      clear hin
      go_wp2_with fail
      go_ret
      exact ⟨by rw [HR.out]; rfl, HBR.out⟩
end Go.Proofs.Ytogccnngdfancaa
