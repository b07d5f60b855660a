/- The walk of isItem on two readings of one item. -/
import Derived.Test.YtlanephpmoajiaaGet
import Derived.Deep.RegionHeld3
namespace Go.Proofs.Ytlanephpmoajiaa
open Go.RowKit

structure TwoBox (w : World) (o1 o2 : Obj) (wr : World) : Prop where
  bel : Below w.heap.size w wr
  b0 : wr.heap[w.heap.size]? = some o1
  b1 : wr.heap[w.heap.size + 1]? = some o2
theorem TwoBox.lt {w wr : World} {o1 o2 : Obj} (h : TwoBox w o1 o2 wr) : w.heap.size + 1 < wr.heap.size := (Array.getElem?_eq_some_iff.1 h.b1).1
theorem TwoBox.below {w wr w2 : World} {o1 o2 : Obj} (h : TwoBox w o1 o2 wr) (hb : Below wr.heap.size wr w2) : TwoBox w o1 o2 w2 :=
  ⟨h.bel.trans (hb.mono h.bel.size), (hb.block _ (by have := h.lt; omega)).trans h.b0, (hb.block _ h.lt).trans h.b1⟩
theorem twoBox_new (w : World) (o1 o2 : Obj) : TwoBox w o1 o2 ((w.alloc o1).alloc o2) :=
  ⟨((Below.refl _ w).alloc (Nat.le_refl _) _).alloc (by simp) _, by rw [Below.heap_alloc _ _ _ (by simp)]; exact heap_alloc_new w _, by have := heap_alloc_new (w.alloc o1) o2; simpa using this⟩

set_option maxRecDepth 100000 in
set_option maxHeartbeats 1000000 in
theorem isItem_any (a : ItemD) (va vb : Value) (S T : Nat → Prop) (w : World) (ha : Rd2 w S va a.frm) (hb : Rd2 w T vb a.frm) :
    Calls Try.prog 26 #[.agg #[.string a.name, .int .i64 a.kind, .int .i64 a.at_, va], .agg #[.string a.name, .int .i64 a.kind, .int .i64 a.at_, vb]] w fun e w' => e = .returned (.bool true) ∧ Below w.heap.size w w' := by
  obtain ⟨an, ak, aa, af⟩ := a
  simp only at *
  obtain ⟨vs, hvs, hlen, hin⟩ := ha.lt
  obtain ⟨us, hus, hlen2, hin2⟩ := hb.lt
  obtain ⟨A, n, cap, rfl, hn, hcap, hmax, hc⟩ := hvs.open_
  obtain ⟨A2, m, cap2, rfl, hm, hcap2, hmax2, hc2⟩ := hus.open_
  obtain rfl : n = m := by omega
  have e1 : (an.toList == an.toList) = true := by simp
  have e2 : (ak == ak) = true := by simp
  have e3 : (aa == aa) = true := by simp
  have HC := Lib.hid hc
  have HC2 := Lib.hid hc2
  have HIN := Lib.hid hin
  have HIN2 := Lib.hid hin2
  have HN : Hid (af.length = n) := by unfold Hid; omega
  have HB := Lib.hid (twoBox_new w (.cells #[.string an, .int .i64 ak, .int .i64 aa, .slice A n cap] 37) (.cells #[.string an, .int .i64 ak, .int .i64 aa, .slice A2 n cap2] 44))
  obtain ⟨W1, hW1⟩ : ∃ W1, W1 = (w.alloc (.cells #[.string an, .int .i64 ak, .int .i64 aa, .slice A n cap] 37)).alloc (.cells #[.string an, .int .i64 ak, .int .i64 aa, .slice A2 n cap2] 44) := ⟨_, rfl⟩
  rw [← hW1] at HB
  have HW1 := Lib.hid hW1
  clear hc hc2 hin hin2 hvs hus ha hb hn hm hlen hlen2 hW1
  go_enter Try.func26, Try.ntmps26
  go_wp2_with fail
  rw [← HW1.out]
  go_loopw [37] (fun i wr => ∃ k : Nat, k ≤ n ∧ i = .int .i64 k ∧ TwoBox w (.cells #[.string an, .int .i64 ak, .int .i64 aa, .slice A n cap] 37) (.cells #[.string an, .int .i64 ak, .int .i64 aa, .slice A2 n cap2] 44) wr) (fun i _ => n - (intOf i).toNat)
  case atStart => exact ⟨0, Nat.zero_le _, rfl, HB.out⟩
  case round =>
    clear HB
    obtain ⟨k, hk, rfl, hbx⟩ := hrel
    by_cases hlt : k < n
    · obtain ⟨b, off, u, rfl, ⟨_, hbw⟩, hu, hcell⟩ := HC.out k hlt
      obtain ⟨b2, off2, u2, rfl, ⟨_, hbw2⟩, hu2, hcell2⟩ := HC2.out k hlt
      obtain ⟨c, hcc⟩ : ∃ c, af[k]? = some c := ⟨af[k]'(by have := HN.out; omega), List.getElem?_eq_getElem _⟩
      obtain ⟨u', hu', hrd⟩ := HIN.out k c hcc
      obtain rfl := Option.some.inj (hu.symm.trans hu')
      obtain ⟨u2', hu2', hrd2⟩ := HIN2.out k c hcc
      obtain rfl := Option.some.inj (hu2.symm.trans hu2')
      have g1 : wr.cell? ⟨b, off + k, none⟩ = some u := (hbx.bel.cell (p := ⟨b, _, none⟩) hbw).trans hcell
      have g2 : wr.cell? ⟨b2, off2 + k, none⟩ = some u2 := (hbx.bel.cell (p := ⟨b2, _, none⟩) hbw2).trans hcell2
      have x3 := cell_of_row wr _ 3 _ _ _ hbx.b0
      have y3 := cell_of_row wr _ 3 _ _ _ hbx.b1
      have HAL : Hid (∀ q, Calls Try.prog 24 #[u, u2] (wr.drewN q) fun e w' => e = .returned (.bool true) ∧ Below wr.heap.size wr w') := fun q => by
        have h1 := hrd.below (w' := wr) (hbx.bel)
        have h2 := hrd2.below (w' := wr) (hbx.bel)
        refine (alike_any u u2 c c _ _ (wr.drewN q) (h1.below (below_drewN (Below.refl _ _) q)) (h2.below (below_drewN (Below.refl _ _) q))).mono fun e w' ⟨h3, h4⟩ => ⟨by rw [h3, decide_eq_true rfl], ?_⟩
        have h5 : (wr.drewN q).heap = wr.heap := by simp
        rw [h5] at h4
        exact (below_drewN (Below.refl _ wr) q).trans h4
      have HBX := Lib.hid hbx
      clear hu hu' hu2 hu2' hcc hrd hrd2 hcell hcell2 hbx
      have hlx := HBX.out.lt
      have hbwr : b < wr.heap.size := by have := HBX.out.bel.size; omega
      have hbwr2 : b2 < wr.heap.size := by have := HBX.out.bel.size; omega
      go_wp2_with fail
      go_region_held3 (fun w' => w'.cell? ⟨w.heap.size, 3, none⟩ = some (.slice (some ⟨b, off, none⟩) n cap) ∧ w'.cell? ⟨w.heap.size + 1, 3, none⟩ = some (.slice (some ⟨b2, off2, none⟩) n cap2) ∧ w'.cell? ⟨b, off + k, none⟩ = some u ∧ w'.cell? ⟨b2, off2 + k, none⟩ = some u2) (first | exact ⟨x3, y3, g1, g2⟩ | exact ⟨z3, z4, z5, z6⟩)
        (first | (go_at_call 24; refine (HAL.out _).mono ?_; rintro e w6 ⟨rfl, hb6⟩; have z3 := (hb6.cell (p := ⟨w.heap.size, 3, none⟩) (by show w.heap.size < _; omega)).trans x3; have z4 := (hb6.cell (p := ⟨w.heap.size + 1, 3, none⟩) hlx).trans y3; have z5 := (hb6.cell (p := ⟨b, off + k, none⟩) hbwr).trans g1; have z6 := (hb6.cell (p := ⟨b2, off2 + k, none⟩) hbwr2).trans g2))
      all_goals
        go_wp2_with fail
        go_roundw
        case rel => exact ⟨k + 1, by omega, by go_num, HBX.out.below hb6⟩
        case measure => simp [intOf]; omega
    · go_wp2_with fail
      go_ret
      exact ⟨rfl, hbx.bel⟩
end Go.Proofs.Ytlanephpmoajiaa
