/- The reference's walks: end, running, fits. The reference's Plan in plain words: the last job of a press, the times it tries. -/
import Derived.Test.YtogccnngdfancaaGreatPart04
namespace Go.Proofs.YtogccnngdfancaaGreat
open Go.RowKit
set_option linter.unusedVariables false
set_option linter.unusedSimpArgs false
set_option maxRecDepth 100000 in
set_option maxHeartbeats 1000000 in
theorem rend_any (v : Value) (d : WorksD) (j : JobD) (S : Nat → Prop) (w : World) (hv : WkV w S v d) (h0 : 0 ≤ j.kind) (h1 : j.kind < d.cure.length) (hs : -1000000000000 ≤ j.start ∧ j.start ≤ 1000000000000) (hc : -1000000000000 ≤ cureOf d j.kind ∧ cureOf d j.kind ≤ 1000000000000) :
    Calls Tryz.prog 23 #[v, JobV j] w fun e w' => e = .returned (.int .i64 (endJ d j)) ∧ Below w.heap.size w w' := by
  have hca := cure_at h0 h1
  obtain ⟨vc, vn, vm, rfl, hcl, -, -⟩ := hv
  obtain ⟨A, n, cap, rfl, hn, hcap, hmax, hcc⟩ := hcl.lt.open_
  obtain ⟨b, off, x, rfl, ⟨_, hbl⟩, hx, hcell⟩ := hcc j.kind.toNat (by omega)
  obtain rfl := Option.some.inj (hx.symm.trans hca)
  obtain ⟨jp, jk, js⟩ := j
  simp only [JobV] at *
  obtain ⟨k, rfl⟩ : ∃ k : Nat, jk = (k : Int) := ⟨jk.toNat, by omega⟩
  rw [Int.toNat_natCast] at hcell
  have hE : Hid (endJ d ⟨jp, k, js⟩ = js + cureOf d k) := rfl
  obtain ⟨c, hcE⟩ : ∃ c, c = cureOf d k := ⟨_, rfl⟩
  rw [← hcE] at hE hc hcell
  obtain ⟨vn', hvn'⟩ : ∃ x, x = vn := ⟨_, rfl⟩
  obtain ⟨w1, hw1⟩ : ∃ w1, w1 = (w.alloc (.cells #[.int .i64 d.presses, .int .i64 d.change, .slice (some ⟨b, off, none⟩) n cap, vn, vm] 40)).alloc (.cells #[.int .i64 jp, .int .i64 k, .int .i64 js] 80) := ⟨_, rfl⟩
  have hb1 : Below w.heap.size w w1 := by rw [hw1]; exact ((Below.refl _ w).alloc (Nat.le_refl _) _).alloc (by simp) _
  have m0 : w1.heap[w.heap.size]? = some (.cells #[.int .i64 d.presses, .int .i64 d.change, .slice (some ⟨b, off, none⟩) n cap, vn, vm] 40) := by rw [hw1, Below.heap_alloc _ _ _ (by simp)]; exact heap_alloc_new w _
  have m1 : w1.heap[w.heap.size + 1]? = some (.cells #[.int .i64 jp, .int .i64 k, .int .i64 js] 80) := by rw [hw1]; have := heap_alloc_new (w.alloc (.cells #[.int .i64 d.presses, .int .i64 d.change, .slice (some ⟨b, off, none⟩) n cap, vn, vm] 40)) (.cells #[.int .i64 jp, .int .i64 k, .int .i64 js] 80); simpa using this
  have c2 : w1.cell? ⟨w.heap.size, 2, none⟩ = some (.slice (some ⟨b, off, none⟩) n cap) := cell_of_row w1 _ 2 _ _ _ m0
  have d1 : w1.cell? ⟨w.heap.size + 1, 1, none⟩ = some (.int .i64 k) := cell_of_row w1 _ 1 _ _ _ m1
  have d2 : w1.cell? ⟨w.heap.size + 1, 2, none⟩ = some (.int .i64 js) := cell_of_row w1 _ 2 _ _ _ m1
  have e0 : w1.cell? ⟨b, off + k, none⟩ = some (.int .i64 c) := (hb1.cell (p := ⟨b, _, none⟩) hbl).trans hcell
  have hk0 : (0 : Int) ≤ (k : Int) := by omega
  have hk1 : (k : Int) < (n : Int) := by omega
  have hwr : IntKind.i64.wrap (js + c) = js + c := IntWalk.i64_in _ (by omega)
  have HW1 := Lib.hid hw1
  have HB1 := Lib.hid hb1
  clear hw1 hb1 m0 m1 hcell hcc hx hca hcl hn hcE hvn'
  go_enter Tryz.func23, Tryz.ntmps23
  go_wp2_with fail
  rw [← HW1.out]
  refine seq_start (S := fun w' => w'.cell? ⟨w.heap.size, 2, none⟩ = some (.slice (some ⟨b, off, none⟩) n cap) ∧ w'.cell? ⟨w.heap.size + 1, 1, none⟩ = some (.int .i64 k) ∧ w'.cell? ⟨w.heap.size + 1, 2, none⟩ = some (.int .i64 js) ∧ w'.cell? ⟨b, off + k, none⟩ = some (.int .i64 c)) (by kernel_rfl) (by kernel_rfl) (by exact ⟨c2, d1, d2, e0⟩) ?_
  repeat (first
    | (refine seq_take0 (v := ?_) ?_ (fun _ _ _ h => h) (by kernel_rfl) ?_ ?_; rotate_left; (focus rfl); (focus (intro w' hSw; (try dsimp only at hSw); go_simp; (try with_reducible rfl); done)); (try simp only [Act.put, List.setIfInBounds_toArray, List.set_cons_zero, List.set_cons_succ]))
    | (refine seq_takeG (v := ?_) (g := ?_) (d := ?_) (b := ?_) (u := ?_) ?_ ?_ ?_ ?_ (fun _ _ _ h => h) (by kernel_rfl) ?_ ?_; rotate_left 5; (focus rfl); (focus rfl); (focus rfl); (focus (first | rfl | (go_simp; done))); (focus (intro w' hSw; (try dsimp only at hSw); go_simp; (try with_reducible rfl); done)); (try simp only [Act.put, List.setIfInBounds_toArray, List.set_cons_zero, List.set_cons_succ]))
    | (refine seq_skipG (g := ?_) (d := ?_) (b := ?_) (u := ?_) ?_ ?_ ?_ ?_ (fun _ _ _ h => h) (by kernel_rfl) ?_; rotate_left 4; (focus rfl); (focus rfl); (focus rfl); (focus (first | rfl | (go_simp; done))); (try simp only [Act.put, List.setIfInBounds_toArray, List.set_cons_zero, List.set_cons_succ])))
  refine seq_done (by kernel_rfl) ?_
  go_wp2_with fail
  go_ret
  exact ⟨by rw [hE.out]; rfl, HB1.out.drew⟩
set_option maxRecDepth 100000 in
set_option maxHeartbeats 2000000 in
theorem rrunning_any (v vl : Value) (d : WorksD) (l : List JobD) (kind t : Int) (S T : Nat → Prop) (w : World) (hv : WkV w S v d) (hl : RdK 3 jobC w T vl l) (h0 : 0 ≤ kind) (h1 : kind < d.cure.length) (hs : ∀ j ∈ l, j.kind = kind → Calm j.start) (hc : Calm (cureOf d kind)) (hll : l.length ≤ 1000) :
    Calls Tryz.prog 32 #[v, vl, .int .i64 kind, .int .i64 t] w fun e w' => e = .returned (.int .i64 (runN d l kind t : Nat)) ∧ Below w.heap.size w w' := by
  have HE := Lib.hid (fun (j : JobD) (hj : j ∈ l) (hk : j.kind = kind) w' (h : Below w.heap.size w w') => rend_any v d j S w' (hv.below h) (by rw [hk]; exact h0) (by rw [hk]; exact h1) (hs j hj hk) (by rw [hk]; exact hc))
  obtain ⟨vc, vn, vm, rfl, -, -, -⟩ := hv
  obtain ⟨A, n, cap, rfl, hn, hcap, hmax, hcc⟩ := (hl.lt jobC_0).open_
  have HN := Lib.hid hn
  have HC := Lib.hid hcc
  have hn1000 : n ≤ 1000 := by omega
  obtain ⟨W1, hW1⟩ : ∃ W1, W1 = w.alloc (.cells #[.int .i64 d.presses, .int .i64 d.change, vc, vn, vm] 40) := ⟨_, rfl⟩
  have hm1 := heap_alloc_new w (.cells #[.int .i64 d.presses, .int .i64 d.change, vc, vn, vm] 40)
  have hb1 : Below w.heap.size w W1 := by rw [hW1]; exact (Below.refl _ w).alloc (Nat.le_refl _) _
  have hsz : w.heap.size < W1.heap.size := by rw [hW1]; simp
  rw [← hW1] at hm1
  have HCW : Hid (∀ w', Below W1.heap.size W1 w' → (w'.cell? ⟨w.heap.size, 0, none⟩ = some (.int .i64 d.presses) ∧ w'.cell? ⟨w.heap.size, 1, none⟩ = some (.int .i64 d.change) ∧ w'.cell? ⟨w.heap.size, 2, none⟩ = some vc ∧ w'.cell? ⟨w.heap.size, 3, none⟩ = some vn ∧ w'.cell? ⟨w.heap.size, 4, none⟩ = some vm)) := fun w' hb => by
    have k0 := (hb.block _ hsz).trans hm1
    exact ⟨cell_of_row w' _ 0 _ _ _ k0, cell_of_row w' _ 1 _ _ _ k0, cell_of_row w' _ 2 _ _ _ k0, cell_of_row w' _ 3 _ _ _ k0, cell_of_row w' _ 4 _ _ _ k0⟩
  have HW1 := Lib.hid hW1
  have HB1 := Lib.hid hb1
  clear hl hn hcc hW1 hm1 hb1 hs hc h0 h1 hll hsz
  go_enter Tryz.func32, Tryz.ntmps32
  go_wp2_with fail
  rw [← HW1.out]
  go_loopw [9, 10] (fun cv iv wr => ∃ i : Nat, i ≤ n ∧ iv = .int .i64 (i : Int) ∧ cv = .int .i64 (runN d (l.take i) kind t : Nat) ∧ Below W1.heap.size W1 wr) (fun _ iv _ => n - (intOf iv).toNat)
  case atStart => exact ⟨0, Nat.zero_le _, rfl, rfl, Below.refl _ _⟩
  case round =>
    obtain ⟨i, hi, rfl, rfl, hbel⟩ := hrel
    have HBEL := Lib.hid hbel
    have HBR := Lib.hid (HB1.out.trans (hbel.mono HB1.out.size))
    clear hbel
    by_cases hlt : i < n
    · obtain ⟨b, off, x, rfl, ⟨_, hbl⟩, hx, hcell⟩ := HC.out i hlt
      have HD : Hid (∀ w', Below w.heap.size w w' → w'.cell? ⟨b, off + i * 3, none⟩ = some (.int .i64 x.press) ∧ w'.cell? ⟨b, off + i * 3 + 1, none⟩ = some (.int .i64 x.kind) ∧ w'.cell? ⟨b, off + i * 3 + 2, none⟩ = some (.int .i64 x.start)) := fun w' hb =>
        ⟨(hb.cell (p := ⟨b, _, none⟩) hbl).trans (hcell 0 _ rfl), (hb.cell (p := ⟨b, _, none⟩) hbl).trans (hcell 1 _ rfl), (hb.cell (p := ⟨b, _, none⟩) hbl).trans (hcell 2 _ rfl)⟩
      have hst := runN_take (d := d) (kind := kind) (t := t) hx
      obtain ⟨c0, hc0⟩ : ∃ c0, c0 = runN d (l.take i) kind t := ⟨_, rfl⟩
      have hc0l : c0 ≤ i := by rw [hc0]; have := runN_le d (l.take i) kind t; rw [List.length_take] at this; omega
      rw [← hc0] at hst ⊢
      have HST := Lib.hid hst
      have HEX := Lib.hid (HE.out x (mem_of_get? hx))
      have hrb : Hid (runB d kind t x = (decide (x.kind = kind) && (decide (x.start ≤ t) && decide (t < endJ d x)))) := rfl
      obtain ⟨e, he⟩ : ∃ e, e = endJ d x := ⟨_, rfl⟩
      rw [← he] at HEX hrb
      obtain ⟨xp, xk, xs⟩ := x
      simp only [JobV] at HD HEX hrb
      have hli : (i : Int) < (n : Int) := by omega
      have hi0 : (0 : Int) ≤ (i : Int) := by omega
      have HS0 : Hid (∀ w', Below W1.heap.size W1 w' → w'.cell? ⟨b, off + i * 3, none⟩ = some (.int .i64 xp) ∧ w'.cell? ⟨b, off + i * 3 + 1, none⟩ = some (.int .i64 xk) ∧ w'.cell? ⟨b, off + i * 3 + 2, none⟩ = some (.int .i64 xs) ∧ (w'.cell? ⟨w.heap.size, 0, none⟩ = some (.int .i64 d.presses) ∧ w'.cell? ⟨w.heap.size, 1, none⟩ = some (.int .i64 d.change) ∧ w'.cell? ⟨w.heap.size, 2, none⟩ = some vc ∧ w'.cell? ⟨w.heap.size, 3, none⟩ = some vn ∧ w'.cell? ⟨w.heap.size, 4, none⟩ = some vm)) := fun w' hb => by
        obtain ⟨k0, k1, k2⟩ := HD.out w' (HB1.out.trans (hb.mono HB1.out.size))
        exact ⟨k0, k1, k2, HCW.out w' hb⟩
      clear hx hcell hst he hc0
      by_cases k1 : xk = kind
      · have k1b : (xk == kind) = true := by simpa using k1
        by_cases k2 : xs ≤ t
        · have HEX2 := Lib.hid (HEX.out k1 _ (HBR.out.drew))
          have K1 := Lib.hid k1
          clear k1
          have k2b : decide (xs ≤ t) = true := decide_eq_true k2
          by_cases k3 : t < e
          · have hbv : runB d kind t ⟨xp, xk, xs⟩ = true := by rw [hrb.out]; simp [k2, k3, eq_of_beq k1b]
            have HR : Hid (runN d (l.take (i + 1)) kind t = c0 + 1) := by show _ = _; rw [HST.out, if_pos hbv]
            clear hbv
            go_wp2_with fail
            refine seq_start (S := fun w' => w'.cell? ⟨b, off + i * 3, none⟩ = some (.int .i64 xp) ∧ w'.cell? ⟨b, off + i * 3 + 1, none⟩ = some (.int .i64 xk) ∧ w'.cell? ⟨b, off + i * 3 + 2, none⟩ = some (.int .i64 xs) ∧ (w'.cell? ⟨w.heap.size, 0, none⟩ = some (.int .i64 d.presses) ∧ w'.cell? ⟨w.heap.size, 1, none⟩ = some (.int .i64 d.change) ∧ w'.cell? ⟨w.heap.size, 2, none⟩ = some vc ∧ w'.cell? ⟨w.heap.size, 3, none⟩ = some vn ∧ w'.cell? ⟨w.heap.size, 4, none⟩ = some vm)) (by kernel_rfl) (by kernel_rfl) (by exact HS0.out _ HBEL.out.drew) ?_
            repeat (first
              | (refine seq_take0 (v := ?_) ?_ (fun _ _ _ h => h) (by kernel_rfl) ?_ ?_; rotate_left; (focus rfl); (focus (intro w' hSw; (try dsimp only at hSw); go_simp; (try with_reducible rfl); done)); (try simp only [Act.put, List.setIfInBounds_toArray, List.set_cons_zero, List.set_cons_succ]))
              | (refine seq_takeG (v := ?_) (g := ?_) (d := ?_) (b := ?_) (u := ?_) ?_ ?_ ?_ ?_ (fun _ _ _ h => h) (by kernel_rfl) ?_ ?_; rotate_left 5; (focus rfl); (focus rfl); (focus rfl); (focus (first | rfl | (go_simp; done))); (focus (intro w' hSw; (try dsimp only at hSw); go_simp; (try with_reducible rfl); done)); (try simp only [Act.put, List.setIfInBounds_toArray, List.set_cons_zero, List.set_cons_succ]))
              | (refine seq_skipG (g := ?_) (d := ?_) (b := ?_) (u := ?_) ?_ ?_ ?_ ?_ (fun _ _ _ h => h) (by kernel_rfl) ?_; rotate_left 4; (focus rfl); (focus rfl); (focus rfl); (focus (first | rfl | (go_simp; done))); (try simp only [Act.put, List.setIfInBounds_toArray, List.set_cons_zero, List.set_cons_succ])))
            repeat (refine seq_swap ?_; first
              | (refine seq_take0 (v := ?_) ?_ (fun _ _ _ h => h) (by kernel_rfl) ?_ ?_; rotate_left; (focus rfl); (focus (intro w' hSw; (try dsimp only at hSw); go_simp; (try with_reducible rfl); done)); (try simp only [Act.put, List.setIfInBounds_toArray, List.set_cons_zero, List.set_cons_succ]))
              | (refine seq_takeG (v := ?_) (g := ?_) (d := ?_) (b := ?_) (u := ?_) ?_ ?_ ?_ ?_ (fun _ _ _ h => h) (by kernel_rfl) ?_ ?_; rotate_left 5; (focus rfl); (focus rfl); (focus rfl); (focus (first | rfl | (go_simp; done))); (focus (intro w' hSw; (try dsimp only at hSw); go_simp; (try with_reducible rfl); done)); (try simp only [Act.put, List.setIfInBounds_toArray, List.set_cons_zero, List.set_cons_succ]))
              | (refine seq_skipG (g := ?_) (d := ?_) (b := ?_) (u := ?_) ?_ ?_ ?_ ?_ (fun _ _ _ h => h) (by kernel_rfl) ?_; rotate_left 4; (focus rfl); (focus rfl); (focus rfl); (focus (first | rfl | (go_simp; done))); (try simp only [Act.put, List.setIfInBounds_toArray, List.set_cons_zero, List.set_cons_succ])))
            refine seq_op (by kernel_rfl) (by rfl) (fun K hK => ?_)
            go_simp
            refine HEX2.out.mono ?_
            rintro e' w5 ⟨rfl, hb5⟩
            have HB5 := Lib.hid (HBEL.out.drew.trans (hb5.mono HBEL.out.drew.size))
            clear hb5
            refine hK.out _ _ (HS0.out _ HB5.out) ?_
            clear hK K
            repeat (first
              | (refine seq_take0 (v := ?_) ?_ (fun _ _ _ h => h) (by kernel_rfl) ?_ ?_; rotate_left; (focus rfl); (focus (intro w' hSw; (try dsimp only at hSw); go_simp; (try with_reducible rfl); done)); (try simp only [Act.put, List.setIfInBounds_toArray, List.set_cons_zero, List.set_cons_succ]))
              | (refine seq_takeG (v := ?_) (g := ?_) (d := ?_) (b := ?_) (u := ?_) ?_ ?_ ?_ ?_ (fun _ _ _ h => h) (by kernel_rfl) ?_ ?_; rotate_left 5; (focus rfl); (focus rfl); (focus rfl); (focus (first | rfl | (go_simp; done))); (focus (intro w' hSw; (try dsimp only at hSw); go_simp; (try with_reducible rfl); done)); (try simp only [Act.put, List.setIfInBounds_toArray, List.set_cons_zero, List.set_cons_succ]))
              | (refine seq_skipG (g := ?_) (d := ?_) (b := ?_) (u := ?_) ?_ ?_ ?_ ?_ (fun _ _ _ h => h) (by kernel_rfl) ?_; rotate_left 4; (focus rfl); (focus rfl); (focus rfl); (focus (first | rfl | (go_simp; done))); (try simp only [Act.put, List.setIfInBounds_toArray, List.set_cons_zero, List.set_cons_succ])))
            refine seq_done (by kernel_rfl) ?_
            go_wp2_with fail
            go_roundw
            case rel => exact ⟨i + 1, by omega, by go_num, by rw [HR.out]; go_num, HB5.out⟩
            case measure => simp [intOf]; omega
          · have HR : Hid (runN d (l.take (i + 1)) kind t = c0) := by show _ = _; rw [HST.out, if_neg (by rw [hrb.out, decide_eq_false k3]; simp), Nat.add_zero]
            go_wp2_with fail
            refine seq_start (S := fun w' => w'.cell? ⟨b, off + i * 3, none⟩ = some (.int .i64 xp) ∧ w'.cell? ⟨b, off + i * 3 + 1, none⟩ = some (.int .i64 xk) ∧ w'.cell? ⟨b, off + i * 3 + 2, none⟩ = some (.int .i64 xs) ∧ (w'.cell? ⟨w.heap.size, 0, none⟩ = some (.int .i64 d.presses) ∧ w'.cell? ⟨w.heap.size, 1, none⟩ = some (.int .i64 d.change) ∧ w'.cell? ⟨w.heap.size, 2, none⟩ = some vc ∧ w'.cell? ⟨w.heap.size, 3, none⟩ = some vn ∧ w'.cell? ⟨w.heap.size, 4, none⟩ = some vm)) (by kernel_rfl) (by kernel_rfl) (by exact HS0.out _ HBEL.out.drew) ?_
            repeat (first
              | (refine seq_take0 (v := ?_) ?_ (fun _ _ _ h => h) (by kernel_rfl) ?_ ?_; rotate_left; (focus rfl); (focus (intro w' hSw; (try dsimp only at hSw); go_simp; (try with_reducible rfl); done)); (try simp only [Act.put, List.setIfInBounds_toArray, List.set_cons_zero, List.set_cons_succ]))
              | (refine seq_takeG (v := ?_) (g := ?_) (d := ?_) (b := ?_) (u := ?_) ?_ ?_ ?_ ?_ (fun _ _ _ h => h) (by kernel_rfl) ?_ ?_; rotate_left 5; (focus rfl); (focus rfl); (focus rfl); (focus (first | rfl | (go_simp; done))); (focus (intro w' hSw; (try dsimp only at hSw); go_simp; (try with_reducible rfl); done)); (try simp only [Act.put, List.setIfInBounds_toArray, List.set_cons_zero, List.set_cons_succ]))
              | (refine seq_skipG (g := ?_) (d := ?_) (b := ?_) (u := ?_) ?_ ?_ ?_ ?_ (fun _ _ _ h => h) (by kernel_rfl) ?_; rotate_left 4; (focus rfl); (focus rfl); (focus rfl); (focus (first | rfl | (go_simp; done))); (try simp only [Act.put, List.setIfInBounds_toArray, List.set_cons_zero, List.set_cons_succ])))
            repeat (refine seq_swap ?_; first
              | (refine seq_take0 (v := ?_) ?_ (fun _ _ _ h => h) (by kernel_rfl) ?_ ?_; rotate_left; (focus rfl); (focus (intro w' hSw; (try dsimp only at hSw); go_simp; (try with_reducible rfl); done)); (try simp only [Act.put, List.setIfInBounds_toArray, List.set_cons_zero, List.set_cons_succ]))
              | (refine seq_takeG (v := ?_) (g := ?_) (d := ?_) (b := ?_) (u := ?_) ?_ ?_ ?_ ?_ (fun _ _ _ h => h) (by kernel_rfl) ?_ ?_; rotate_left 5; (focus rfl); (focus rfl); (focus rfl); (focus (first | rfl | (go_simp; done))); (focus (intro w' hSw; (try dsimp only at hSw); go_simp; (try with_reducible rfl); done)); (try simp only [Act.put, List.setIfInBounds_toArray, List.set_cons_zero, List.set_cons_succ]))
              | (refine seq_skipG (g := ?_) (d := ?_) (b := ?_) (u := ?_) ?_ ?_ ?_ ?_ (fun _ _ _ h => h) (by kernel_rfl) ?_; rotate_left 4; (focus rfl); (focus rfl); (focus rfl); (focus (first | rfl | (go_simp; done))); (try simp only [Act.put, List.setIfInBounds_toArray, List.set_cons_zero, List.set_cons_succ])))
            refine seq_op (by kernel_rfl) (by rfl) (fun K hK => ?_)
            go_simp
            refine HEX2.out.mono ?_
            rintro e' w5 ⟨rfl, hb5⟩
            have HB5 := Lib.hid (HBEL.out.drew.trans (hb5.mono HBEL.out.drew.size))
            clear hb5
            refine hK.out _ _ (HS0.out _ HB5.out) ?_
            clear hK K
            repeat (first
              | (refine seq_take0 (v := ?_) ?_ (fun _ _ _ h => h) (by kernel_rfl) ?_ ?_; rotate_left; (focus rfl); (focus (intro w' hSw; (try dsimp only at hSw); go_simp; (try with_reducible rfl); done)); (try simp only [Act.put, List.setIfInBounds_toArray, List.set_cons_zero, List.set_cons_succ]))
              | (refine seq_takeG (v := ?_) (g := ?_) (d := ?_) (b := ?_) (u := ?_) ?_ ?_ ?_ ?_ (fun _ _ _ h => h) (by kernel_rfl) ?_ ?_; rotate_left 5; (focus rfl); (focus rfl); (focus rfl); (focus (first | rfl | (go_simp; done))); (focus (intro w' hSw; (try dsimp only at hSw); go_simp; (try with_reducible rfl); done)); (try simp only [Act.put, List.setIfInBounds_toArray, List.set_cons_zero, List.set_cons_succ]))
              | (refine seq_skipG (g := ?_) (d := ?_) (b := ?_) (u := ?_) ?_ ?_ ?_ ?_ (fun _ _ _ h => h) (by kernel_rfl) ?_; rotate_left 4; (focus rfl); (focus rfl); (focus rfl); (focus (first | rfl | (go_simp; done))); (try simp only [Act.put, List.setIfInBounds_toArray, List.set_cons_zero, List.set_cons_succ])))
            refine seq_done (by kernel_rfl) ?_
            go_wp2_with fail
            go_roundw
            case rel => exact ⟨i + 1, by omega, by go_num, by rw [HR.out], HB5.out⟩
            case measure => simp [intOf]; omega
        · have HR : Hid (runN d (l.take (i + 1)) kind t = c0) := by show _ = _; rw [HST.out, if_neg (by rw [hrb.out, decide_eq_false k2]; simp), Nat.add_zero]
          have k2b : decide (xs ≤ t) = false := decide_eq_false k2
          have HB5 := Lib.hid HBEL.out.drew
          clear HE HEX k1
          go_wp2_with fail
          refine seq_start (S := fun w' => w'.cell? ⟨b, off + i * 3, none⟩ = some (.int .i64 xp) ∧ w'.cell? ⟨b, off + i * 3 + 1, none⟩ = some (.int .i64 xk) ∧ w'.cell? ⟨b, off + i * 3 + 2, none⟩ = some (.int .i64 xs) ∧ (w'.cell? ⟨w.heap.size, 0, none⟩ = some (.int .i64 d.presses) ∧ w'.cell? ⟨w.heap.size, 1, none⟩ = some (.int .i64 d.change) ∧ w'.cell? ⟨w.heap.size, 2, none⟩ = some vc ∧ w'.cell? ⟨w.heap.size, 3, none⟩ = some vn ∧ w'.cell? ⟨w.heap.size, 4, none⟩ = some vm)) (by kernel_rfl) (by kernel_rfl) (by exact HS0.out _ HBEL.out.drew) ?_
          repeat (first
            | (refine seq_take0 (v := ?_) ?_ (fun _ _ _ h => h) (by kernel_rfl) ?_ ?_; rotate_left; (focus rfl); (focus (intro w' hSw; (try dsimp only at hSw); go_simp; (try with_reducible rfl); done)); (try simp only [Act.put, List.setIfInBounds_toArray, List.set_cons_zero, List.set_cons_succ]))
            | (refine seq_takeG (v := ?_) (g := ?_) (d := ?_) (b := ?_) (u := ?_) ?_ ?_ ?_ ?_ (fun _ _ _ h => h) (by kernel_rfl) ?_ ?_; rotate_left 5; (focus rfl); (focus rfl); (focus rfl); (focus (first | rfl | (go_simp; done))); (focus (intro w' hSw; (try dsimp only at hSw); go_simp; (try with_reducible rfl); done)); (try simp only [Act.put, List.setIfInBounds_toArray, List.set_cons_zero, List.set_cons_succ]))
            | (refine seq_skipG (g := ?_) (d := ?_) (b := ?_) (u := ?_) ?_ ?_ ?_ ?_ (fun _ _ _ h => h) (by kernel_rfl) ?_; rotate_left 4; (focus rfl); (focus rfl); (focus rfl); (focus (first | rfl | (go_simp; done))); (try simp only [Act.put, List.setIfInBounds_toArray, List.set_cons_zero, List.set_cons_succ])))
          refine seq_done (by kernel_rfl) ?_
          go_wp2_with fail
          go_roundw
          case rel => exact ⟨i + 1, by omega, by go_num, by rw [HR.out], HB5.out⟩
          case measure => simp [intOf]; omega
      · have k1b : (xk == kind) = false := by simpa using k1
        have HR : Hid (runN d (l.take (i + 1)) kind t = c0) := by show _ = _; rw [HST.out, if_neg (by rw [hrb.out, decide_eq_false k1]; simp), Nat.add_zero]
        have HB5 := Lib.hid HBEL.out.drew
        clear HE HEX k1
        go_wp2_with fail
        refine seq_start (S := fun w' => w'.cell? ⟨b, off + i * 3, none⟩ = some (.int .i64 xp) ∧ w'.cell? ⟨b, off + i * 3 + 1, none⟩ = some (.int .i64 xk) ∧ w'.cell? ⟨b, off + i * 3 + 2, none⟩ = some (.int .i64 xs) ∧ (w'.cell? ⟨w.heap.size, 0, none⟩ = some (.int .i64 d.presses) ∧ w'.cell? ⟨w.heap.size, 1, none⟩ = some (.int .i64 d.change) ∧ w'.cell? ⟨w.heap.size, 2, none⟩ = some vc ∧ w'.cell? ⟨w.heap.size, 3, none⟩ = some vn ∧ w'.cell? ⟨w.heap.size, 4, none⟩ = some vm)) (by kernel_rfl) (by kernel_rfl) (by exact HS0.out _ HBEL.out.drew) ?_
        repeat (first
          | (refine seq_take0 (v := ?_) ?_ (fun _ _ _ h => h) (by kernel_rfl) ?_ ?_; rotate_left; (focus rfl); (focus (intro w' hSw; (try dsimp only at hSw); go_simp; (try with_reducible rfl); done)); (try simp only [Act.put, List.setIfInBounds_toArray, List.set_cons_zero, List.set_cons_succ]))
          | (refine seq_takeG (v := ?_) (g := ?_) (d := ?_) (b := ?_) (u := ?_) ?_ ?_ ?_ ?_ (fun _ _ _ h => h) (by kernel_rfl) ?_ ?_; rotate_left 5; (focus rfl); (focus rfl); (focus rfl); (focus (first | rfl | (go_simp; done))); (focus (intro w' hSw; (try dsimp only at hSw); go_simp; (try with_reducible rfl); done)); (try simp only [Act.put, List.setIfInBounds_toArray, List.set_cons_zero, List.set_cons_succ]))
          | (refine seq_skipG (g := ?_) (d := ?_) (b := ?_) (u := ?_) ?_ ?_ ?_ ?_ (fun _ _ _ h => h) (by kernel_rfl) ?_; rotate_left 4; (focus rfl); (focus rfl); (focus rfl); (focus (first | rfl | (go_simp; done))); (try simp only [Act.put, List.setIfInBounds_toArray, List.set_cons_zero, List.set_cons_succ])))
        refine seq_done (by kernel_rfl) ?_
        go_wp2_with fail
        go_roundw
        case rel => exact ⟨i + 1, by omega, by go_num, by rw [HR.out], HB5.out⟩
        case measure => simp [intOf]; omega
    · have hin : i = n := by omega
      have HR : Hid (runN d (l.take i) kind t = runN d l kind t) := by show _ = _; rw [hin, ← HN.out, List.take_length]
      clear hin
      go_wp2_with fail
      go_ret
      exact ⟨by rw [HR.out]; rfl, HBR.out⟩
end Go.Proofs.YtogccnngdfancaaGreat
namespace Go.Proofs.YtogccnngdfancaaGreat
set_option linter.unusedVariables false
def jobAt (l : List JobD) (i : Int) : JobD := l.getD i.toNat ⟨0, 0, 0⟩
theorem jobAt_of {l : List JobD} {i : Nat} {x : JobD} (h : l[i]? = some x) : jobAt l i = x := by
  unfold jobAt
  rw [Int.toNat_natCast, List.getD_eq_getElem?_getD, h]; rfl
end Go.Proofs.YtogccnngdfancaaGreat
