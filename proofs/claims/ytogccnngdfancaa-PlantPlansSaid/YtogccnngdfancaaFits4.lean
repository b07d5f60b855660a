/- The reference's fits. -/
import Derived.Test.YtogccnngdfancaaRun2
namespace Go.Proofs.Ytogccnngdfancaa
open Go.RowKit
set_option linter.unusedVariables false
set_option linter.unusedSimpArgs false
def rfitN (d : WorksD) (l : List JobD) (kind t : Int) (n : Nat) : Bool := (List.range n).all fun i => decide ((runN d l kind (t + i) : Int) < mouldOf d kind)
theorem rfitN_succ (d : WorksD) (l : List JobD) (kind t : Int) (n : Nat) : rfitN d l kind t (n + 1) = (rfitN d l kind t n && decide ((runN d l kind (t + n) : Int) < mouldOf d kind)) := by
  unfold rfitN; rw [List.range_succ, List.all_append]; simp
theorem rfitN_no {d : WorksD} {l : List JobD} {kind t : Int} {i : Nat} (h : ¬ ((runN d l kind (t + i) : Int) < mouldOf d kind)) : ∀ {n : Nat}, i < n → rfitN d l kind t n = false
  | 0, hk => absurd hk (by omega)
  | n + 1, hk => by
    rw [rfitN_succ]
    by_cases e : i = n
    · subst e; rw [decide_eq_false h]; simp
    · rw [rfitN_no h (by omega)]; rfl
def rfits (d : WorksD) (l : List JobD) (kind t : Int) : Bool := rfitN d l kind t (cureOf d kind).toNat
theorem rfits_iff {d : WorksD} {l : List JobD} {kind t : Int} : rfits d l kind t = true ↔ FitsR d l kind t := by
  unfold rfits rfitN
  rw [List.all_eq_true]
  constructor
  · intro h s h1 h2
    have := h (s - t).toNat (List.mem_range.2 (by omega))
    rw [show t + ((s - t).toNat : Int) = s by omega] at this
    simpa using this
  · intro h i hi
    rw [List.mem_range] at hi
    simpa using h (t + i) (by omega) (by omega)
set_option maxRecDepth 100000 in
set_option maxHeartbeats 2000000 in
theorem rfits_any (v vl : Value) (d : WorksD) (l : List JobD) (kind t : Int) (S T : Nat → Prop) (w : World) (hv : WkV w S v d) (hl : RdK 3 jobC w T vl l) (hg : WGood d) (hj : JobsOk d l) (h0 : 0 ≤ kind) (h1 : kind < d.cure.length) (hll : l.length ≤ 64) (ht0 : 0 ≤ t) (ht1 : t ≤ 1000000) :
    Calls Try.prog 22 #[v, vl, .int .i64 kind, .int .i64 t] w fun e w' => e = .returned (.bool (rfits d l kind t)) ∧ Below w.heap.size w w' := by
  have HE := Lib.hid (fun (s : Int) w' (h : Below w.heap.size w w') => rrunning_any v vl d l kind s S T w' (hv.below h) (hl.below jobC_0 h) h0 h1 (fun y hy _ => by have := hj.start y hy; unfold Calm; omega) (by have := cure_calm hg h0 h1; unfold Calm; omega) (by omega))
  have hcb := cure_calm hg h0 h1
  have hmb := hg.ok.mould kind.toNat (by omega)
  have hml := hg.ok.n2
  obtain ⟨vc, vn, vm, rfl, q1, q2, q3⟩ := hv.lt
  obtain ⟨Ac, nc, cc, rfl, hnc, -, hmc, hcc⟩ := q1.open_
  obtain ⟨Am, nm, cm, rfl, hnm, -, hmm, hcm⟩ := q3.open_
  obtain ⟨b1, f1, c, rfl, ⟨_, hl1⟩, hcx, hcl1⟩ := hcc kind.toNat (by omega)
  obtain ⟨b3, f3, m, rfl, ⟨_, hl3⟩, hmx, hcl3⟩ := hcm kind.toNat (by omega)
  have hcv : cureOf d kind = c := at_of hcx
  have hmv : mouldOf d kind = m := at_of hmx
  obtain ⟨kn, hkn⟩ : ∃ kn : Nat, kind = (kn : Int) := ⟨kind.toNat, by omega⟩
  subst hkn
  rw [Int.toNat_natCast] at hcl1 hcl3
  have HRF : Hid (rfits d l kn t = rfitN d l kn t c.toNat) := by show _ = _; unfold rfits; rw [hcv]
  have HSU := Lib.hid (fun n => rfitN_succ d l kn t n)
  have HNO := Lib.hid (fun (i : Nat) (h : ¬ ((runN d l kn (t + i) : Int) < mouldOf d kn)) (n : Nat) (hi : i < n) => rfitN_no h hi)
  rw [hmv] at HSU HNO
  rw [hcv] at hcb
  obtain ⟨hc0, hc1⟩ := hcb
  obtain ⟨W1, hW1⟩ : ∃ W1, W1 = w.alloc (.cells #[.int .i64 d.presses, .int .i64 d.change, .slice (some ⟨b1, f1, none⟩) nc cc, vn, .slice (some ⟨b3, f3, none⟩) nm cm] 35) := ⟨_, rfl⟩
  have hm1 := heap_alloc_new w (.cells #[.int .i64 d.presses, .int .i64 d.change, .slice (some ⟨b1, f1, none⟩) nc cc, vn, .slice (some ⟨b3, f3, none⟩) nm cm] 35)
  have hb1 : Below w.heap.size w W1 := by rw [hW1]; exact (Below.refl _ w).alloc (Nat.le_refl _) _
  have hsz : w.heap.size < W1.heap.size := by rw [hW1]; simp
  rw [← hW1] at hm1
  have HB1 := Lib.hid hb1
  have HCW : Hid (∀ w', Below W1.heap.size W1 w' → (w'.cell? ⟨w.heap.size, 0, none⟩ = some (.int .i64 d.presses) ∧ w'.cell? ⟨w.heap.size, 1, none⟩ = some (.int .i64 d.change) ∧ w'.cell? ⟨w.heap.size, 2, none⟩ = some (.slice (some ⟨b1, f1, none⟩) nc cc) ∧ w'.cell? ⟨w.heap.size, 3, none⟩ = some vn ∧ w'.cell? ⟨w.heap.size, 4, none⟩ = some (.slice (some ⟨b3, f3, none⟩) nm cm)) ∧
      w'.cell? ⟨b1, f1 + kn, none⟩ = some (.int .i64 c) ∧ w'.cell? ⟨b3, f3 + kn, none⟩ = some (.int .i64 m)) := fun w' hb => by
    have k0 := (hb.block _ hsz).trans hm1
    have hb0 := HB1.out.trans (hb.mono HB1.out.size)
    exact ⟨⟨cell_of_row w' _ 0 _ _ _ k0, cell_of_row w' _ 1 _ _ _ k0, cell_of_row w' _ 2 _ _ _ k0, cell_of_row w' _ 3 _ _ _ k0, cell_of_row w' _ 4 _ _ _ k0⟩, (hb0.cell (p := ⟨b1, _, none⟩) hl1).trans hcl1, (hb0.cell (p := ⟨b3, _, none⟩) hl3).trans hcl3⟩
  have HW1 := Lib.hid hW1
  have hk1 : (kn : Int) < (nc : Int) := by omega
  have hk3 : (kn : Int) < (nm : Int) := by omega
  clear hl hv q1 q2 q3 hcc hcm hcx hmx hcl1 hcl3 hcv hmv hW1 hm1 hb1 hsz h1 hnc hnm hml hmb hj hg
  go_enter Try.func22, Try.ntmps22
  go_wp2_with fail
  rw [← HW1.out]
  go_loopw [9] (fun sv wr => ∃ i : Nat, (i : Int) ≤ c ∧ sv = .int .i64 (t + i) ∧ rfitN d l kn t i = true ∧ Below W1.heap.size W1 wr) (fun sv _ => (t + c - intOf sv).toNat)
  case atStart => exact ⟨0, by omega, by go_num, rfl, Below.refl _ _⟩
  case round =>
    obtain ⟨i, hi, rfl, hyes, hbel⟩ := hrel
    have HY := Lib.hid hyes
    have HBEL := Lib.hid hbel
    have HBR := Lib.hid (HB1.out.trans (hbel.mono HB1.out.size))
    clear hyes hbel
    obtain ⟨⟨x0, x1, x2, x3, x4⟩, x5, x6⟩ := HCW.out wr HBEL.out
    by_cases hlt : (i : Int) < c
    · have hcmp : t + (i : Int) < t + c := by omega
      have HEX := Lib.hid (HE.out (t + i) _ HBR.out.drew)
      have hno := HNO.out i
      have hsu := HSU.out i
      rw [HY.out] at hsu
      obtain ⟨r, hr⟩ : ∃ r, r = runN d l kn (t + i) := ⟨_, rfl⟩
      rw [← hr] at HEX hno hsu
      have HNOI := Lib.hid hno
      have HSUI := Lib.hid hsu
      clear hr hno hsu
      by_cases k1 : m ≤ (r : Int)
      · have HRES : Hid (rfits d l kn t = false) := by show _ = _; rw [HRF.out]; exact HNOI.out (by omega) _ (by omega)
        have k1b : decide (m ≤ (r : Int)) = true := decide_eq_true k1
        go_wp2_with fail
        refine seq_start (S := fun w' => (w'.cell? ⟨w.heap.size, 0, none⟩ = some (.int .i64 d.presses) ∧ w'.cell? ⟨w.heap.size, 1, none⟩ = some (.int .i64 d.change) ∧ w'.cell? ⟨w.heap.size, 2, none⟩ = some (.slice (some ⟨b1, f1, none⟩) nc cc) ∧ w'.cell? ⟨w.heap.size, 3, none⟩ = some vn ∧ w'.cell? ⟨w.heap.size, 4, none⟩ = some (.slice (some ⟨b3, f3, none⟩) nm cm)) ∧ w'.cell? ⟨b1, f1 + kn, none⟩ = some (.int .i64 c) ∧ w'.cell? ⟨b3, f3 + kn, none⟩ = some (.int .i64 m)) (by kernel_rfl) (by kernel_rfl) (by exact HCW.out _ HBEL.out.drew) ?_
        repeat (first
          | (refine seq_take0 (v := ?_) ?_ (fun _ _ _ h => h) (by kernel_rfl) ?_ ?_; rotate_left; (focus rfl); (focus (intro w' hSw; (try dsimp only at hSw); go_simp; (try with_reducible rfl); done)); (try simp only [Act.put, List.setIfInBounds_toArray, List.set_cons_zero, List.set_cons_succ]))
          | (refine seq_takeG (v := ?_) (g := ?_) (d := ?_) (b := ?_) (u := ?_) ?_ ?_ ?_ ?_ (fun _ _ _ h => h) (by kernel_rfl) ?_ ?_; rotate_left 5; (focus rfl); (focus rfl); (focus rfl); (focus (first | rfl | (go_simp; done))); (focus (intro w' hSw; (try dsimp only at hSw); go_simp; (try with_reducible rfl); done)); (try simp only [Act.put, List.setIfInBounds_toArray, List.set_cons_zero, List.set_cons_succ]))
          | (refine seq_skipG (g := ?_) (d := ?_) (b := ?_) (u := ?_) ?_ ?_ ?_ ?_ (fun _ _ _ h => h) (by kernel_rfl) ?_; rotate_left 4; (focus rfl); (focus rfl); (focus rfl); (focus (first | rfl | (go_simp; done))); (try simp only [Act.put, List.setIfInBounds_toArray, List.set_cons_zero, List.set_cons_succ])))
        repeat (refine seq_swap ?_; first
          | (refine seq_take0 (v := ?_) ?_ (fun _ _ _ h => h) (by kernel_rfl) ?_ ?_; rotate_left; (focus rfl); (focus (intro w' hSw; (try dsimp only at hSw); go_simp; (try with_reducible rfl); done)); (try simp only [Act.put, List.setIfInBounds_toArray, List.set_cons_zero, List.set_cons_succ]))
          | (refine seq_takeG (v := ?_) (g := ?_) (d := ?_) (b := ?_) (u := ?_) ?_ ?_ ?_ ?_ (fun _ _ _ h => h) (by kernel_rfl) ?_ ?_; rotate_left 5; (focus rfl); (focus rfl); (focus rfl); (focus (first | rfl | (go_simp; done))); (focus (intro w' hSw; (try dsimp only at hSw); go_simp; (try with_reducible rfl); done)); (try simp only [Act.put, List.setIfInBounds_toArray, List.set_cons_zero, List.set_cons_succ]))
          | (refine seq_skipG (g := ?_) (d := ?_) (b := ?_) (u := ?_) ?_ ?_ ?_ ?_ (fun _ _ _ h => h) (by kernel_rfl) ?_; rotate_left 4; (focus rfl); (focus rfl); (focus rfl); (focus (first | rfl | (go_simp; done))); (try simp only [Act.put, List.setIfInBounds_toArray, List.set_cons_zero, List.set_cons_succ])))
        refine seq_op (by kernel_rfl) (by rfl) (fun K hK => ?_)
        go_simp
        refine HEX.out.mono ?_
        rintro e' w5 ⟨rfl, hb5⟩
        have HB5 := Lib.hid (HBEL.out.drew.trans (hb5.mono HBEL.out.drew.size))
        clear hb5
        refine hK.out _ _ (HCW.out _ HB5.out) ?_
        clear hK K
        repeat (first
          | (refine seq_take0 (v := ?_) ?_ (fun _ _ _ h => h) (by kernel_rfl) ?_ ?_; rotate_left; (focus rfl); (focus (intro w' hSw; (try dsimp only at hSw); go_simp; (try with_reducible rfl); done)); (try simp only [Act.put, List.setIfInBounds_toArray, List.set_cons_zero, List.set_cons_succ]))
          | (refine seq_takeG (v := ?_) (g := ?_) (d := ?_) (b := ?_) (u := ?_) ?_ ?_ ?_ ?_ (fun _ _ _ h => h) (by kernel_rfl) ?_ ?_; rotate_left 5; (focus rfl); (focus rfl); (focus rfl); (focus (first | rfl | (go_simp; done))); (focus (intro w' hSw; (try dsimp only at hSw); go_simp; (try with_reducible rfl); done)); (try simp only [Act.put, List.setIfInBounds_toArray, List.set_cons_zero, List.set_cons_succ]))
          | (refine seq_skipG (g := ?_) (d := ?_) (b := ?_) (u := ?_) ?_ ?_ ?_ ?_ (fun _ _ _ h => h) (by kernel_rfl) ?_; rotate_left 4; (focus rfl); (focus rfl); (focus rfl); (focus (first | rfl | (go_simp; done))); (try simp only [Act.put, List.setIfInBounds_toArray, List.set_cons_zero, List.set_cons_succ])))
        refine seq_done (by kernel_rfl) ?_
        go_wp2_with fail
        go_ret
        exact ⟨by rw [HRES.out]; rfl, HB1.out.trans (HB5.out.mono HB1.out.size)⟩
      · have HRES : Hid (rfitN d l kn t (i + 1) = true) := by show _ = _; rw [HSUI.out, decide_eq_true (by omega)]; rfl
        have k1b : decide (m ≤ (r : Int)) = false := decide_eq_false k1
        go_wp2_with fail
        refine seq_start (S := fun w' => (w'.cell? ⟨w.heap.size, 0, none⟩ = some (.int .i64 d.presses) ∧ w'.cell? ⟨w.heap.size, 1, none⟩ = some (.int .i64 d.change) ∧ w'.cell? ⟨w.heap.size, 2, none⟩ = some (.slice (some ⟨b1, f1, none⟩) nc cc) ∧ w'.cell? ⟨w.heap.size, 3, none⟩ = some vn ∧ w'.cell? ⟨w.heap.size, 4, none⟩ = some (.slice (some ⟨b3, f3, none⟩) nm cm)) ∧ w'.cell? ⟨b1, f1 + kn, none⟩ = some (.int .i64 c) ∧ w'.cell? ⟨b3, f3 + kn, none⟩ = some (.int .i64 m)) (by kernel_rfl) (by kernel_rfl) (by exact HCW.out _ HBEL.out.drew) ?_
        repeat (first
          | (refine seq_take0 (v := ?_) ?_ (fun _ _ _ h => h) (by kernel_rfl) ?_ ?_; rotate_left; (focus rfl); (focus (intro w' hSw; (try dsimp only at hSw); go_simp; (try with_reducible rfl); done)); (try simp only [Act.put, List.setIfInBounds_toArray, List.set_cons_zero, List.set_cons_succ]))
          | (refine seq_takeG (v := ?_) (g := ?_) (d := ?_) (b := ?_) (u := ?_) ?_ ?_ ?_ ?_ (fun _ _ _ h => h) (by kernel_rfl) ?_ ?_; rotate_left 5; (focus rfl); (focus rfl); (focus rfl); (focus (first | rfl | (go_simp; done))); (focus (intro w' hSw; (try dsimp only at hSw); go_simp; (try with_reducible rfl); done)); (try simp only [Act.put, List.setIfInBounds_toArray, List.set_cons_zero, List.set_cons_succ]))
          | (refine seq_skipG (g := ?_) (d := ?_) (b := ?_) (u := ?_) ?_ ?_ ?_ ?_ (fun _ _ _ h => h) (by kernel_rfl) ?_; rotate_left 4; (focus rfl); (focus rfl); (focus rfl); (focus (first | rfl | (go_simp; done))); (try simp only [Act.put, List.setIfInBounds_toArray, List.set_cons_zero, List.set_cons_succ])))
        repeat (refine seq_swap ?_; first
          | (refine seq_take0 (v := ?_) ?_ (fun _ _ _ h => h) (by kernel_rfl) ?_ ?_; rotate_left; (focus rfl); (focus (intro w' hSw; (try dsimp only at hSw); go_simp; (try with_reducible rfl); done)); (try simp only [Act.put, List.setIfInBounds_toArray, List.set_cons_zero, List.set_cons_succ]))
          | (refine seq_takeG (v := ?_) (g := ?_) (d := ?_) (b := ?_) (u := ?_) ?_ ?_ ?_ ?_ (fun _ _ _ h => h) (by kernel_rfl) ?_ ?_; rotate_left 5; (focus rfl); (focus rfl); (focus rfl); (focus (first | rfl | (go_simp; done))); (focus (intro w' hSw; (try dsimp only at hSw); go_simp; (try with_reducible rfl); done)); (try simp only [Act.put, List.setIfInBounds_toArray, List.set_cons_zero, List.set_cons_succ]))
          | (refine seq_skipG (g := ?_) (d := ?_) (b := ?_) (u := ?_) ?_ ?_ ?_ ?_ (fun _ _ _ h => h) (by kernel_rfl) ?_; rotate_left 4; (focus rfl); (focus rfl); (focus rfl); (focus (first | rfl | (go_simp; done))); (try simp only [Act.put, List.setIfInBounds_toArray, List.set_cons_zero, List.set_cons_succ])))
        refine seq_op (by kernel_rfl) (by rfl) (fun K hK => ?_)
        go_simp
        refine HEX.out.mono ?_
        rintro e' w5 ⟨rfl, hb5⟩
        have HB5 := Lib.hid (HBEL.out.drew.trans (hb5.mono HBEL.out.drew.size))
        clear hb5
        refine hK.out _ _ (HCW.out _ HB5.out) ?_
        clear hK K
        repeat (first
          | (refine seq_take0 (v := ?_) ?_ (fun _ _ _ h => h) (by kernel_rfl) ?_ ?_; rotate_left; (focus rfl); (focus (intro w' hSw; (try dsimp only at hSw); go_simp; (try with_reducible rfl); done)); (try simp only [Act.put, List.setIfInBounds_toArray, List.set_cons_zero, List.set_cons_succ]))
          | (refine seq_takeG (v := ?_) (g := ?_) (d := ?_) (b := ?_) (u := ?_) ?_ ?_ ?_ ?_ (fun _ _ _ h => h) (by kernel_rfl) ?_ ?_; rotate_left 5; (focus rfl); (focus rfl); (focus rfl); (focus (first | rfl | (go_simp; done))); (focus (intro w' hSw; (try dsimp only at hSw); go_simp; (try with_reducible rfl); done)); (try simp only [Act.put, List.setIfInBounds_toArray, List.set_cons_zero, List.set_cons_succ]))
          | (refine seq_skipG (g := ?_) (d := ?_) (b := ?_) (u := ?_) ?_ ?_ ?_ ?_ (fun _ _ _ h => h) (by kernel_rfl) ?_; rotate_left 4; (focus rfl); (focus rfl); (focus rfl); (focus (first | rfl | (go_simp; done))); (try simp only [Act.put, List.setIfInBounds_toArray, List.set_cons_zero, List.set_cons_succ])))
        refine seq_done (by kernel_rfl) ?_
        go_wp2_with fail
        go_roundw
        case rel => exact ⟨i + 1, by omega, by go_num, HRES.out, HB5.out⟩
        case measure => simp [intOf]; omega
    · have hic : i = c.toNat := by omega
      have HRES : Hid (rfits d l kn t = true) := by show _ = _; rw [HRF.out, ← hic]; exact HY.out
      have hcmp : ¬ (t + (i : Int) < t + c) := by omega
      clear hic
      go_wp2_with fail
      go_ret
      exact ⟨by rw [HRES.out]; rfl, HBR.out⟩
end Go.Proofs.Ytogccnngdfancaa
