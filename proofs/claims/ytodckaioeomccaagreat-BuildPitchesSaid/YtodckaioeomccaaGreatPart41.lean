/- The walk of the table of cosines. -/
import Derived.Test.YtodckaioeomccaaGreatPart03
import Derived.Test.YtodckaioeomccaaGreatPart25
import Derived.Test.YtodckaioeomccaaGreatPart28
import Derived.Test.YtodckaioeomccaaGreatPart34
namespace Go.Proofs.YtodckaioeomccaaGreat
open Go.RowKit Go.Proofs.Plc Go.Proofs.S4P
set_option linter.unusedVariables false
set_option linter.unusedSimpArgs false
def IB (w : World) (b : Nat) (l : List Int) : Prop := w.heap[b]? = some (.cells (l.map intV).toArray 184 (0, 0))
theorem IB.cell {w : World} {b : Nat} {l : List Int} (h : IB w b l) {i : Nat} {x : Int} (hi : l[i]? = some x) : w.cell? ⟨b, i, none⟩ = some (.int .i64 x) := by
 rw [blk_cell h]; simp [hi, intV]
theorem IB.set {w : World} {b : Nat} {l : List Int} (h : IB w b l) (i : Nat) (x : Int) : IB (w.setCell ⟨b, i, none⟩ (.int .i64 x)) b (l.set i x) := by
 have := blk_set (i := i) (.int .i64 x) h
 unfold IB
 rw [this, List.map_set]
 simp [List.setIfInBounds_toArray, intV]
def preL (k : Nat) : List Int := cosI.take (k * 4) ++ List.replicate (96 - k * 4) 0
theorem pre_step : ∀ k : Fin 24, ((((preL k.1).set (k.1 * 4) (cosT k.1).a).set (k.1 * 4 + 1) (cosT k.1).b).set (k.1 * 4 + 2) (cosT k.1).c).set (k.1 * 4 + 3) (cosT k.1).d = preL (k.1 + 1) := by decide +kernel
theorem pre_zero : ∀ k : Fin 24, (preL k.1)[k.1 * 4]? = some 0 ∧ (preL k.1)[k.1 * 4 + 1]? = some 0 ∧ (preL k.1)[k.1 * 4 + 2]? = some 0 ∧ (preL k.1)[k.1 * 4 + 3]? = some 0 := by decide +kernel
theorem pre_last : preL 24 = cosI := by decide +kernel
theorem zero_row : Tryz.zeroCells184 = ((preL 0).map intV).toArray := by kernel_rfl
theorem whole_int (v : Value) (n : Int) (w : World) (hv : RdQ w v (n : Rat)) (hn : n.natAbs ≤ 4) :
  Calls Tryz.prog 179 #[v] w fun e w' => e = .returned (.tuple #[.int .i64 n, .bool true]) ∧ Below w.heap.size w w' :=
 whole_is v n w hv (Rat.den_intCast n) (by rw [Rat.num_intCast]; omega)
set_option maxRecDepth 100000 in
set_option maxHeartbeats 4000000 in
theorem cosines_any (w : World) : Calls Tryz.prog 93 #[] w fun e w' => e = .returned (.agg (cosI.map intV).toArray) ∧ Below w.heap.size w w' := by
 obtain ⟨W1, hW1⟩ : ∃ W, W = w.alloc (.cells Tryz.zeroCells184 184) := ⟨_, rfl⟩
 obtain ⟨W2, hW2⟩ : ∃ W, W = W1.alloc (.cells Tryz.zeroCells184 184) := ⟨_, rfl⟩
 have hb1 : Below w.heap.size w W1 := by rw [hW1]; exact (Below.refl _ _).alloc (Nat.le_refl _) _
 have hb2 : Below W1.heap.size W1 W2 := by rw [hW2]; exact (Below.refl _ _).alloc (Nat.le_refl _) _
 have hs1 : W1.heap.size = w.heap.size + 1 := by rw [hW1]; simp
 have k1 := heap_alloc_new w (.cells Tryz.zeroCells184 184)
 have k2 := heap_alloc_new W1 (.cells Tryz.zeroCells184 184)
 rw [← hW1] at k1
 rw [← hW2, hs1] at k2
 have HZ1 : Hid (IB W2 w.heap.size (preL 0)) := by show IB _ _ _; unfold IB; rw [← zero_row]; exact blk_below k1 hb2
 have HL1 : Hid (IB W2 (w.heap.size + 1) (preL 0)) := by show IB _ _ _; unfold IB; rw [← zero_row]; exact k2
 have HB2 := h0d (hb1.trans (hb2.mono hb1.size))
 have HW1 := h0d hW1
 have HW2 := h0d hW2
 clear hW1 hW2 hb1 hb2 hs1 k1 k2
 go_enter Tryz.func93, Tryz.ntmps93
 go_wp2_with fail
 rw [← HW1.out, ← HW2.out]
 go_loopw [8] (fun kv wr => ∃ k : Nat, k ≤ 24 ∧ kv = .int .i64 (k : Int) ∧ Hid (Below w.heap.size w wr) ∧ Hid (IB wr w.heap.size (preL 0)) ∧ Hid (IB wr (w.heap.size + 1) (preL k))) (fun kv _ => 24 - (intOf kv).toNat)
 case atStart => exact ⟨0, by omega, rfl, HB2, HZ1, HL1⟩
 case round =>
  obtain ⟨k, hk, rfl, HBw, HZ, HL⟩ := hrel
  clear HB2 HZ1 HL1
  by_cases hlt : k < 24
  ·have hk24 : (k : Int) < 24 := by omega
   have HCK : Hid ((turn (k : Int)).re = cosN k) := by
    show _ = _
    unfold turn turnN
    rw [show ((k : Int) % 24).toNat = k by omega]
   have HCQ : Hid (((((cosN k).add (cosN k)).add (cosN k)).add (cosN k)).a = ((cosT k).a : Rat) ∧ ((((cosN k).add (cosN k)).add (cosN k)).add (cosN k)).b = ((cosT k).b : Rat) ∧ ((((cosN k).add (cosN k)).add (cosN k)).add (cosN k)).c = ((cosT k).c : Rat) ∧ ((((cosN k).add (cosN k)).add (cosN k)).add (cosN k)).e = ((cosT k).d : Rat)) := cos_four ⟨k, hlt⟩
   have HSM := h0d (cos_small ⟨k, hlt⟩)
   have HPZ := h0d (pre_zero ⟨k, hlt⟩)
   have HPS := h0d (pre_step ⟨k, hlt⟩)
   clear hk
   go_wp2_with fail
   refine (turn_any (k : Int) _ (by omega) (by omega)).mono ?_
   rintro e w1 ⟨⟨vx, rfl, hr⟩, hbx⟩
   obtain ⟨g1a, A1a, k1a, c1a, g1b, A1b, k1b, c1b, g1c, A1c, k1c, c1c, g1d, A1d, k1d, c1d, A1e, k1e, c1e, g1f, A1f, k1f, c1f, g1g, A1g, k1g, c1g, g1h, A1h, k1h, c1h, g1i, A1i, k1i, c1i, A1j, k1j, c1j, rfl, hr⟩ := hr.open
   replace HZ := kB HZ hbx
   replace HL := kB HL hbx
   replace HBw := kU HBw hbx
   have HR1 := h0d hr
   clear hr
   clear hbx
   go_wp2_with fail
   refine (re_any _ _ _ _ HR1.out).mono ?_
   rintro e w2 ⟨⟨vx, rfl, hr⟩, hbx⟩
   obtain ⟨g2a, A2a, k2a, c2a, g2b, A2b, k2b, c2b, g2c, A2c, k2c, c2c, g2d, A2d, k2d, c2d, A2e, k2e, c2e, rfl, hr⟩ := hr.open
   replace HZ := kB HZ hbx
   replace HL := kB HL hbx
   have hT := Wd.of_below hbx
   replace HR1 := kW hT HR1
   clear hT
   replace HBw := kU HBw hbx
   have HR2 := h0d hr
   clear hr
   rw [HCK.out] at HR2
   clear HR1
   clear hbx
   obtain ⟨W1, HW1, HB2, s1w, hbx⟩ := st_al0 w2 #[Value.bool g2a, Value.slice A2a k2a c2a, Value.bool g2b, Value.slice A2b k2b c2b, Value.bool g2c, Value.slice A2c k2c c2c, Value.bool g2d, Value.slice A2d k2d c2d, Value.slice A2e k2e c2e] 30
   have HNE_R0_B2 : Hid (w.heap.size ≠ w2.heap.size) := by show _ ≠ _; have hlt := blk_lt HZ.out; omega
   replace HZ := kB HZ hbx
   have HNE_R1_B2 : Hid ((w.heap.size + 1) ≠ w2.heap.size) := by show _ ≠ _; have hlt := blk_lt HL.out; omega
   replace HL := kB HL hbx
   have l2b : Hid (w.heap.size ≤ w2.heap.size) := by show _ ≤ _; have hlt := HBw.out.size; omega
   have hT := Wd.of_below hbx
   replace HR2 := kW hT HR2
   clear hT
   replace HBw := kU HBw hbx
   clear hbx
   go_wp2_with fail
   rw [← HW1.out]
   obtain ⟨W3, hW3⟩ : ∃ W, W = W1.drew := ⟨_, rfl⟩
   have hbx : Below W1.heap.size W1 W3 := by rw [hW3]; exact (Below.refl _ _).drew
   replace HZ := kB HZ hbx
   replace HL := kB HL hbx
   replace HB2 := kB HB2 hbx
   have hT := Wd.of_below hbx
   replace HR2 := kW hT HR2
   clear hT
   replace HBw := kU HBw hbx
   clear hbx
   refine seq_start (S := fun w' => w'.cell? ⟨w2.heap.size, 0, none⟩ = some (Value.bool g2a) ∧ w'.cell? ⟨w2.heap.size, 1, none⟩ = some (Value.slice A2a k2a c2a) ∧ w'.cell? ⟨w2.heap.size, 2, none⟩ = some (Value.bool g2b) ∧ w'.cell? ⟨w2.heap.size, 3, none⟩ = some (Value.slice A2b k2b c2b) ∧ w'.cell? ⟨w2.heap.size, 4, none⟩ = some (Value.bool g2c) ∧ w'.cell? ⟨w2.heap.size, 5, none⟩ = some (Value.slice A2c k2c c2c) ∧ w'.cell? ⟨w2.heap.size, 6, none⟩ = some (Value.bool g2d) ∧ w'.cell? ⟨w2.heap.size, 7, none⟩ = some (Value.slice A2d k2d c2d) ∧ w'.cell? ⟨w2.heap.size, 8, none⟩ = some (Value.slice A2e k2e c2e)) (by kernel_rfl) (by kernel_rfl) (by rw [← hW3]; exact ⟨kD HB2 0, kD HB2 1, kD HB2 2, kD HB2 3, kD HB2 4, kD HB2 5, kD HB2 6, kD HB2 7, kD HB2 8⟩) ?_
   rw [← hW3]
   clear hW3
   iterate 2 refine tk0 (h := ?_)
   (refine seq_pull 1 ?_; simp only [places, pull]; refine tk0 (h := ?_))
   (refine seq_pull 2 ?_; simp only [places, pull]; refine tk0 (h := ?_))
   (refine seq_pull 4 ?_; simp only [places, pull]; refine tk0 (h := ?_))
   refine sop (h := fun K9 hK9 => ?_)
   go_simp
   refine (saddS_any _ _ (cosN k) (cosN k) 3 3 _ HR2.out HR2.out (by omega) (by omega)).mono ?_
   rintro e w3 ⟨⟨vx, rfl, hr⟩, hbx⟩
   obtain ⟨g3a, A3a, k3a, c3a, g3b, A3b, k3b, c3b, g3c, A3c, k3c, c3c, g3d, A3d, k3d, c3d, A3e, k3e, c3e, rfl, hr⟩ := hr.open
   replace HZ := kB HZ hbx
   replace HL := kB HL hbx
   replace HB2 := kB HB2 hbx
   have hT := Wd.of_below hbx
   replace HR2 := kW hT HR2
   clear hT
   replace HBw := kU HBw hbx
   have HR3 := h0d hr
   clear hr
   clear hbx
   refine ckk hK9 (by exact ⟨kD HB2 0, kD HB2 1, kD HB2 2, kD HB2 3, kD HB2 4, kD HB2 5, kD HB2 6, kD HB2 7, kD HB2 8⟩) (h := ?_)
   clear hK9 K9
   refine sop (h := fun K9 hK9 => ?_)
   go_simp
   refine (saddS_any _ _ _ (cosN k) 7 3 _ HR3.out HR2.out (by omega) (by omega)).mono ?_
   rintro e w4 ⟨⟨vx, rfl, hr⟩, hbx⟩
   obtain ⟨g4a, A4a, k4a, c4a, g4b, A4b, k4b, c4b, g4c, A4c, k4c, c4c, g4d, A4d, k4d, c4d, A4e, k4e, c4e, rfl, hr⟩ := hr.open
   replace HZ := kB HZ hbx
   replace HL := kB HL hbx
   replace HB2 := kB HB2 hbx
   have hT := Wd.of_below hbx
   replace HR2 := kW hT HR2
   replace HR3 := kW hT HR3
   clear hT
   replace HBw := kU HBw hbx
   have HR4 := h0d hr
   clear hr
   clear HR3
   clear hbx
   refine ckk hK9 (by exact ⟨kD HB2 0, kD HB2 1, kD HB2 2, kD HB2 3, kD HB2 4, kD HB2 5, kD HB2 6, kD HB2 7, kD HB2 8⟩) (h := ?_)
   clear hK9 K9
   refine sop (h := fun K9 hK9 => ?_)
   go_simp
   refine (saddS_any _ _ _ (cosN k) 11 3 _ HR4.out HR2.out (by omega) (by omega)).mono ?_
   rintro e w5 ⟨⟨vx, rfl, hr⟩, hbx⟩
   obtain ⟨g5a, A5a, k5a, c5a, g5b, A5b, k5b, c5b, g5c, A5c, k5c, c5c, g5d, A5d, k5d, c5d, A5e, k5e, c5e, rfl, hr⟩ := hr.open
   replace HZ := kB HZ hbx
   replace HL := kB HL hbx
   replace HB2 := kB HB2 hbx
   have hT := Wd.of_below hbx
   replace HR2 := kW hT HR2
   replace HR4 := kW hT HR4
   clear hT
   replace HBw := kU HBw hbx
   have HR5 := h0d hr
   clear hr
   clear HR2
   clear HR4
   clear hbx
   refine ckk hK9 (by exact ⟨kD HB2 0, kD HB2 1, kD HB2 2, kD HB2 3, kD HB2 4, kD HB2 5, kD HB2 6, kD HB2 7, kD HB2 8⟩) (h := ?_)
   clear hK9 K9
   refine sop (h := fun K9 hK9 => ?_)
   go_simp
   refine (parts_any _ _ 15 _ HR5.out (by omega)).mono ?_
   rintro e w6 ⟨⟨vx, rfl, hr⟩, hbx⟩
   obtain ⟨g6a, A6a, k6a, c6a, A6b, k6b, c6b, g6c, A6c, k6c, c6c, A6d, k6d, c6d, g6e, A6e, k6e, c6e, A6f, k6f, c6f, g6g, A6g, k6g, c6g, A6h, k6h, c6h, rfl, hr⟩ := hr.open
   replace HZ := kB HZ hbx
   replace HL := kB HL hbx
   replace HB2 := kB HB2 hbx
   have hT := Wd.of_below hbx
   replace HR5 := kW hT HR5
   clear hT
   replace HBw := kU HBw hbx
   have HR6 := h0d hr
   clear hr
   rw [HCQ.out.1, HCQ.out.2.1, HCQ.out.2.2.1, HCQ.out.2.2.2] at HR6
   clear HR5
   clear hbx
   refine ckk hK9 (by exact ⟨kD HB2 0, kD HB2 1, kD HB2 2, kD HB2 3, kD HB2 4, kD HB2 5, kD HB2 6, kD HB2 7, kD HB2 8⟩) (h := ?_)
   clear hK9 K9
   refine seq_done (by kernel_rfl) ?_
   go_wp2_with fail
   refine wp_loop_rounds 5 ?_
   rw [rounds_succ]
   have ix : ∀ w, (Instr.index 255 (.agg #[Value.bool g6a, Value.slice A6a k6a c6a, Value.slice A6b k6b c6b, Value.bool g6c, Value.slice A6c k6c c6c, Value.slice A6d k6d c6d, Value.bool g6e, Value.slice A6e k6e c6e, Value.slice A6f k6f c6f, Value.bool g6g, Value.slice A6g k6g c6g, Value.slice A6h k6h c6h]) (.int .i64 0)).run Tryz.prog w = .ok (.agg #[Value.bool g6a, Value.slice A6a k6a c6a, Value.slice A6b k6b c6b]) w := fun _ => by kernel_rfl
   obtain ⟨W4, HW4, HB5, s4w, hbx⟩ := st_al0 w6 #[Value.bool g6a, Value.slice A6a k6a c6a, Value.slice A6b k6b c6b] 32
   have HNE_R0_B5 : Hid (w.heap.size ≠ w6.heap.size) := by show _ ≠ _; have hlt := blk_lt HZ.out; omega
   replace HZ := kB HZ hbx
   have HNE_R1_B5 : Hid ((w.heap.size + 1) ≠ w6.heap.size) := by show _ ≠ _; have hlt := blk_lt HL.out; omega
   replace HL := kB HL hbx
   have n2b5 : Hid (w2.heap.size ≠ w6.heap.size) := by show _ ≠ _; have hlt := blk_lt HB2.out; omega
   replace HB2 := kB HB2 hbx
   have l5b : Hid (w.heap.size ≤ w6.heap.size) := by show _ ≤ _; have hlt := HBw.out.size; omega
   have hT := Wd.of_below hbx
   replace HR6 := kW hT HR6
   clear hT
   replace HBw := kU HBw hbx
   clear hbx
   go_wp2_with fail
   rw [← HW4.out]
   refine (whole_int _ (cosT k).a _ HR6.out.q0 HSM.out.1.1).mono ?_
   rintro e w7 ⟨rfl, hbx⟩
   replace HZ := kB HZ hbx
   replace HL := kB HL hbx
   have hT := Wd.of_below hbx
   replace HR6 := kW hT HR6
   clear hT
   replace HBw := kU HBw hbx
   clear hbx ix
   have c0 : w7.cell? ⟨w.heap.size + 1, k * 4, none⟩ = some (.int .i64 0) := IB.cell (l := (preL k)) HL.out (by have := HPZ.out.1; simpa using this)
   have f0 : w7.frozen? ⟨w.heap.size + 1, k * 4, none⟩ = false := blk_free HL.out _
   obtain ⟨W6, HW6⟩ : ∃ W, Hid (W = w7.setCell ⟨w.heap.size + 1, k * 4, none⟩ (.int .i64 (cosT k).a)) := ⟨_, rfl⟩
   have hS := kM1 HW6
   have hT : Wd w7 W6 := by rw [hS]; exact sets_wd (NoW.of (cs := ((preL k).map intV).toArray) HL.out (by rw [List.toList_toArray, List.all_map]; exact List.all_eq_true.2 fun _ _ => rfl)) rfl
   replace HR6 := kW hT HR6
   have HL2 : Hid (IB W6 (w.heap.size + 1) ((preL k).set (k * 4) (cosT k).a)) := by show IB _ _ _; rw [HW6.out]; exact IB.set HL.out _ _
   replace HL := HL2
   replace HZ := kO hS HZ (by omega)
   replace HBw := kS hS (show Hid _ from Nat.le_add_right _ 1) HBw
   clear hT hS HL2
   go_wp2_with fail
   rw [← HW6.out]
   clear c0 f0
   rw [rounds_succ]
   have ix : ∀ w, (Instr.index 255 (.agg #[Value.bool g6a, Value.slice A6a k6a c6a, Value.slice A6b k6b c6b, Value.bool g6c, Value.slice A6c k6c c6c, Value.slice A6d k6d c6d, Value.bool g6e, Value.slice A6e k6e c6e, Value.slice A6f k6f c6f, Value.bool g6g, Value.slice A6g k6g c6g, Value.slice A6h k6h c6h]) (.int .i64 1)).run Tryz.prog w = .ok (.agg #[Value.bool g6c, Value.slice A6c k6c c6c, Value.slice A6d k6d c6d]) w := fun _ => by kernel_rfl
   obtain ⟨W7, HW7, HB8, s7w, hbx⟩ := st_al0 W6 #[Value.bool g6c, Value.slice A6c k6c c6c, Value.slice A6d k6d c6d] 32
   have HNE_R0_B8 : Hid (w.heap.size ≠ W6.heap.size) := by show _ ≠ _; have hlt := blk_lt HZ.out; omega
   replace HZ := kB HZ hbx
   have HNE_R1_B8 : Hid ((w.heap.size + 1) ≠ W6.heap.size) := by show _ ≠ _; have hlt := blk_lt HL.out; omega
   replace HL := kB HL hbx
   have l8b : Hid (w.heap.size ≤ W6.heap.size) := by show _ ≤ _; have hlt := HBw.out.size; omega
   have hT := Wd.of_below hbx
   replace HR6 := kW hT HR6
   clear hT
   replace HBw := kU HBw hbx
   clear hbx
   go_wp2_with fail
   rw [← HW7.out]
   refine (whole_int _ (cosT k).b _ HR6.out.q1 HSM.out.1.2).mono ?_
   rintro e w8 ⟨rfl, hbx⟩
   replace HZ := kB HZ hbx
   replace HL := kB HL hbx
   have hT := Wd.of_below hbx
   replace HR6 := kW hT HR6
   clear hT
   replace HBw := kU HBw hbx
   clear hbx ix
   have c0 : w8.cell? ⟨w.heap.size + 1, k * 4 + 1, none⟩ = some (.int .i64 0) := IB.cell (l := ((preL k).set (k * 4) (cosT k).a)) HL.out (by have := HPZ.out.2.1; simpa using this)
   have f0 : w8.frozen? ⟨w.heap.size + 1, k * 4 + 1, none⟩ = false := blk_free HL.out _
   obtain ⟨W9, HW9⟩ : ∃ W, Hid (W = w8.setCell ⟨w.heap.size + 1, k * 4 + 1, none⟩ (.int .i64 (cosT k).b)) := ⟨_, rfl⟩
   have hS := kM1 HW9
   have hT : Wd w8 W9 := by rw [hS]; exact sets_wd (NoW.of (cs := (((preL k).set (k * 4) (cosT k).a).map intV).toArray) HL.out (by rw [List.toList_toArray, List.all_map]; exact List.all_eq_true.2 fun _ _ => rfl)) rfl
   replace HR6 := kW hT HR6
   have HL2 : Hid (IB W9 (w.heap.size + 1) (((preL k).set (k * 4) (cosT k).a).set (k * 4 + 1) (cosT k).b)) := by show IB _ _ _; rw [HW9.out]; exact IB.set HL.out _ _
   replace HL := HL2
   replace HZ := kO hS HZ (by omega)
   replace HBw := kS hS (show Hid _ from Nat.le_add_right _ 1) HBw
   clear hT hS HL2
   go_wp2_with fail
   rw [← HW9.out]
   clear c0 f0
   rw [rounds_succ]
   have ix : ∀ w, (Instr.index 255 (.agg #[Value.bool g6a, Value.slice A6a k6a c6a, Value.slice A6b k6b c6b, Value.bool g6c, Value.slice A6c k6c c6c, Value.slice A6d k6d c6d, Value.bool g6e, Value.slice A6e k6e c6e, Value.slice A6f k6f c6f, Value.bool g6g, Value.slice A6g k6g c6g, Value.slice A6h k6h c6h]) (.int .i64 2)).run Tryz.prog w = .ok (.agg #[Value.bool g6e, Value.slice A6e k6e c6e, Value.slice A6f k6f c6f]) w := fun _ => by kernel_rfl
   obtain ⟨W10, HW10, HB11, s10w, hbx⟩ := st_al0 W9 #[Value.bool g6e, Value.slice A6e k6e c6e, Value.slice A6f k6f c6f] 32
   have HNE_R0_B11 : Hid (w.heap.size ≠ W9.heap.size) := by show _ ≠ _; have hlt := blk_lt HZ.out; omega
   replace HZ := kB HZ hbx
   have HNE_R1_B11 : Hid ((w.heap.size + 1) ≠ W9.heap.size) := by show _ ≠ _; have hlt := blk_lt HL.out; omega
   replace HL := kB HL hbx
   have l11b : Hid (w.heap.size ≤ W9.heap.size) := by show _ ≤ _; have hlt := HBw.out.size; omega
   have hT := Wd.of_below hbx
   replace HR6 := kW hT HR6
   clear hT
   replace HBw := kU HBw hbx
   clear hbx
   go_wp2_with fail
   rw [← HW10.out]
   refine (whole_int _ (cosT k).c _ HR6.out.q2 HSM.out.2.1).mono ?_
   rintro e w9 ⟨rfl, hbx⟩
   replace HZ := kB HZ hbx
   replace HL := kB HL hbx
   have hT := Wd.of_below hbx
   replace HR6 := kW hT HR6
   clear hT
   replace HBw := kU HBw hbx
   clear hbx ix
   have c0 : w9.cell? ⟨w.heap.size + 1, k * 4 + 2, none⟩ = some (.int .i64 0) := IB.cell (l := (((preL k).set (k * 4) (cosT k).a).set (k * 4 + 1) (cosT k).b)) HL.out (by have := HPZ.out.2.2.1; simpa using this)
   have f0 : w9.frozen? ⟨w.heap.size + 1, k * 4 + 2, none⟩ = false := blk_free HL.out _
   obtain ⟨W12, HW12⟩ : ∃ W, Hid (W = w9.setCell ⟨w.heap.size + 1, k * 4 + 2, none⟩ (.int .i64 (cosT k).c)) := ⟨_, rfl⟩
   have hS := kM1 HW12
   have hT : Wd w9 W12 := by rw [hS]; exact sets_wd (NoW.of (cs := ((((preL k).set (k * 4) (cosT k).a).set (k * 4 + 1) (cosT k).b).map intV).toArray) HL.out (by rw [List.toList_toArray, List.all_map]; exact List.all_eq_true.2 fun _ _ => rfl)) rfl
   replace HR6 := kW hT HR6
   have HL2 : Hid (IB W12 (w.heap.size + 1) ((((preL k).set (k * 4) (cosT k).a).set (k * 4 + 1) (cosT k).b).set (k * 4 + 2) (cosT k).c)) := by show IB _ _ _; rw [HW12.out]; exact IB.set HL.out _ _
   replace HL := HL2
   replace HZ := kO hS HZ (by omega)
   replace HBw := kS hS (show Hid _ from Nat.le_add_right _ 1) HBw
   clear hT hS HL2
   go_wp2_with fail
   rw [← HW12.out]
   clear c0 f0
   rw [rounds_succ]
   have ix : ∀ w, (Instr.index 255 (.agg #[Value.bool g6a, Value.slice A6a k6a c6a, Value.slice A6b k6b c6b, Value.bool g6c, Value.slice A6c k6c c6c, Value.slice A6d k6d c6d, Value.bool g6e, Value.slice A6e k6e c6e, Value.slice A6f k6f c6f, Value.bool g6g, Value.slice A6g k6g c6g, Value.slice A6h k6h c6h]) (.int .i64 3)).run Tryz.prog w = .ok (.agg #[Value.bool g6g, Value.slice A6g k6g c6g, Value.slice A6h k6h c6h]) w := fun _ => by kernel_rfl
   obtain ⟨W13, HW13, HB14, s13w, hbx⟩ := st_al0 W12 #[Value.bool g6g, Value.slice A6g k6g c6g, Value.slice A6h k6h c6h] 32
   have HNE_R0_B14 : Hid (w.heap.size ≠ W12.heap.size) := by show _ ≠ _; have hlt := blk_lt HZ.out; omega
   replace HZ := kB HZ hbx
   have HNE_R1_B14 : Hid ((w.heap.size + 1) ≠ W12.heap.size) := by show _ ≠ _; have hlt := blk_lt HL.out; omega
   replace HL := kB HL hbx
   have l14b : Hid (w.heap.size ≤ W12.heap.size) := by show _ ≤ _; have hlt := HBw.out.size; omega
   have hT := Wd.of_below hbx
   replace HR6 := kW hT HR6
   clear hT
   replace HBw := kU HBw hbx
   clear hbx
   go_wp2_with fail
   rw [← HW13.out]
   refine (whole_int _ (cosT k).d _ HR6.out.q3 HSM.out.2.2).mono ?_
   rintro e w10 ⟨rfl, hbx⟩
   replace HZ := kB HZ hbx
   replace HL := kB HL hbx
   have hT := Wd.of_below hbx
   replace HR6 := kW hT HR6
   clear hT
   replace HBw := kU HBw hbx
   clear hbx ix
   have c0 : w10.cell? ⟨w.heap.size + 1, k * 4 + 3, none⟩ = some (.int .i64 0) := IB.cell (l := ((((preL k).set (k * 4) (cosT k).a).set (k * 4 + 1) (cosT k).b).set (k * 4 + 2) (cosT k).c)) HL.out (by have := HPZ.out.2.2.2; simpa using this)
   have f0 : w10.frozen? ⟨w.heap.size + 1, k * 4 + 3, none⟩ = false := blk_free HL.out _
   obtain ⟨W15, HW15⟩ : ∃ W, Hid (W = w10.setCell ⟨w.heap.size + 1, k * 4 + 3, none⟩ (.int .i64 (cosT k).d)) := ⟨_, rfl⟩
   have hS := kM1 HW15
   have hT : Wd w10 W15 := by rw [hS]; exact sets_wd (NoW.of (cs := (((((preL k).set (k * 4) (cosT k).a).set (k * 4 + 1) (cosT k).b).set (k * 4 + 2) (cosT k).c).map intV).toArray) HL.out (by rw [List.toList_toArray, List.all_map]; exact List.all_eq_true.2 fun _ _ => rfl)) rfl
   replace HR6 := kW hT HR6
   have HL2 : Hid (IB W15 (w.heap.size + 1) (((((preL k).set (k * 4) (cosT k).a).set (k * 4 + 1) (cosT k).b).set (k * 4 + 2) (cosT k).c).set (k * 4 + 3) (cosT k).d)) := by show IB _ _ _; rw [HW15.out]; exact IB.set HL.out _ _
   replace HL := HL2
   replace HZ := kO hS HZ (by omega)
   replace HBw := kS hS (show Hid _ from Nat.le_add_right _ 1) HBw
   clear hT hS HL2
   go_wp2_with fail
   rw [← HW15.out]
   clear c0 f0
   rw [rounds_succ]
   go_wp2_with fail
   go_roundw
   case rel =>
    refine ⟨k + 1, by omega, by go_num, HBw, HZ, ?_⟩
    have := HL.out
    rw [HPS.out] at this
    exact this
   case measure => simp [intOf]; omega
  ·obtain rfl : k = 24 := by omega
   rw [pre_last] at HL
   obtain ⟨CL, hCL⟩ : ∃ l, l = cosI.map intV := ⟨_, rfl⟩
   have hln : CL.length = 96 := by rw [hCL, List.length_map, cosI_len]
   have HON : Hid (CL.toArray.all (·.oneCell') = true) := all_oneCell_toArray fun v hv => by rw [hCL] at hv; obtain ⟨x, _, rfl⟩ := List.mem_map.1 hv; rfl
   have HRA : Hid (wr.rangeAt (w.heap.size + 1) 0 CL) := by show World.rangeAt _ _ _ _; rw [hCL]; exact blk_all HL.out
   have HTH : Hid (wr.there w.heap.size 0 CL.toArray.size) := blk_there HZ.out (by rw [List.size_toArray, hln]; decide +kernel)
   have HSZ : Hid ((Tryz.prog.info? 184).map (·.size) = some CL.length) := by show _ = _; rw [hln]; kernel_rfl
   have HCE : Hid (Value.agg CL.toArray = .agg (cosI.map intV).toArray) := by show _ = _; rw [hCL]
   clear hCL hln HL HZ hk hlt
   go_wp2_with (first | (refine wpList_load_mid (by rfl) 184 _ (by rfl) (w.heap.size + 1) 0 (by rfl) CL _ HRA.out Tryz.underlying184 rfl HSZ.out ?_) | (refine wpList_store_mid (by rfl) 184 _ _ (by rfl) w.heap.size 0 CL.toArray (by rfl) (by rfl) HTH.out HSZ.out HON.out ?_))
   refine bodyPost_ret (results_cell rfl (by rfl) (World.rangeAt_setCells_same wr w.heap.size 0 CL HTH.out) Tryz.underlying184 rfl HSZ.out) rfl ⟨congrArg Ending.returned HCE.out, ?_⟩
   show Below _ _ (wr.setCells _ _ CL)
   rw [setCells_sets]
   exact sets_below (Nat.le_refl _) HBw.out
end Go.Proofs.YtodckaioeomccaaGreat
