/- The walk of the statement PlantLonger. -/
import Derived.Test.YtlanephpmoajiaaUses
import Derived.Test.YtlanephpmoajiaaUsesPlain
namespace Go.Proofs.Ytlanephpmoajiaa
open Go.RowKit

structure LgW (w : World) (it : ByteArray) (si un m0 m1 : Int) (wr : World) : Prop where
  bel : Below w.heap.size w wr
  b0 : wr.heap[w.heap.size]? = some (.cells #[.string it, .int .i64 si, .int .i64 un] 47)
  b1 : wr.heap[w.heap.size + 1]? = some (.cells #[.int .u8 m0, .int .u8 m1] 48)
theorem LgW.lt {w wr : World} {it : ByteArray} {si un m0 m1 : Int} (h : LgW w it si un m0 m1 wr) : w.heap.size + 1 < wr.heap.size := (Array.getElem?_eq_some_iff.1 h.b1).1
theorem LgW.below {w wr w2 : World} {it : ByteArray} {si un m0 m1 : Int} (h : LgW w it si un m0 m1 wr) (hb : Below wr.heap.size wr w2) : LgW w it si un m0 m1 w2 :=
  ⟨h.bel.trans (hb.mono h.bel.size), (hb.block _ (by have := h.lt; omega)).trans h.b0, (hb.block _ h.lt).trans h.b1⟩
theorem LgW.drewN {w wr : World} {it : ByteArray} {si un m0 m1 : Int} (h : LgW w it si un m0 m1 wr) (q : Nat) : LgW w it si un m0 m1 (wr.drewN q) := h.below (below_drewN (Below.refl _ _) q)
theorem lg_new (w : World) (it : ByteArray) (si un m0 m1 : Int) : LgW w it si un m0 m1 ((w.alloc (.cells #[.string it, .int .i64 si, .int .i64 un] 47)).alloc (.cells #[.int .u8 m0, .int .u8 m1] 48)) :=
  ⟨((Below.refl _ w).alloc (Nat.le_refl _) _).alloc (by simp) _, by rw [Below.heap_alloc _ _ _ (by simp)]; exact heap_alloc_new w _, by have := heap_alloc_new (w.alloc (.cells #[.string it, .int .i64 si, .int .i64 un] 47)) (.cells #[.int .u8 m0, .int .u8 m1] 48); simpa using this⟩
theorem int_case (e : Int) : ((e != 0) = false ∧ e = 0) ∨ ((e != 0) = true ∧ e ≠ 0) := by
  by_cases h : e = 0
  · exact .inl ⟨by simp [h], h⟩
  · exact .inr ⟨by simp [h], h⟩

/-- More time, more touched; all times, all uses. -/
theorem longer_law {acc : List ItemD} (h : BookOk acc) {it : ByteArray} {si un m0 m1 : Int} (hm0 : 0 ≤ m0 ∧ m0 ≤ 255) (hm1 : 0 ≤ m1 ∧ m1 ≤ 255) (he : faultErr acc ⟨it, si, un⟩ = 0) :
    faultErr acc ⟨it, si - m0, un + m1⟩ = 0 ∧ faultErr acc ⟨it, -9223372036854775808, 9223372036854775807⟩ = 0 ∧ findErr acc it = 0 ∧ namesOf acc (touchedMs acc ⟨it, -9223372036854775808, 9223372036854775807⟩) = namesOf acc (usesMs acc it) ∧
      (∀ s ∈ namesOf acc (touchedMs acc ⟨it, si, un⟩), s ∈ namesOf acc (touchedMs acc ⟨it, si - m0, un + m1⟩)) ∧
      (∀ s ∈ namesOf acc (touchedMs acc ⟨it, si - m0, un + m1⟩), s ∈ namesOf acc (touchedMs acc ⟨it, -9223372036854775808, 9223372036854775807⟩)) := by
  obtain ⟨i, hi, _, _, y, hy, hk, hsu⟩ := fault_some he
  simp only at hi hsu
  have hall : ∀ x ∈ acc, during ⟨it, -9223372036854775808, 9223372036854775807⟩ x.at_ = true := fun x hx => by
    have := h.at0 x hx
    simp [during]; omega
  refine ⟨?_, ?_, by simp [findErr, hi], ?_, fun s hs => namesOf_mono ?_ hs, fun s hs => namesOf_mono ?_ hs⟩
  · unfold faultErr; simp only [hi, hy]; rw [if_neg hk, if_neg (by omega)]
  · unfold faultErr; simp only [hi, hy]; rw [if_neg hk, if_neg (by omega)]
  · unfold touchedMs usesMs; simp only [hi]; rw [spAll_congr hall]
  · unfold touchedMs; simp only [hi]; exact spAll_mono fun x hx h => by simp [during] at h ⊢; omega
  · unfold touchedMs; simp only [hi]; exact spAll_mono fun x hx _ => hall x hx
set_option maxRecDepth 100000 in
set_option maxHeartbeats 4000000 in
theorem longer_any (v0 : Value) (xs : List ItemD) (it : ByteArray) (si un m0 m1 : Int) (w : World) (hv : RdI w (fun _ => True) v0 xs) (hw : ∀ x ∈ xs, ItemWf x) (hit : it.size ≤ maxLen) (hm0 : 0 ≤ m0 ∧ m0 ≤ 255) (hm1 : 0 ≤ m1 ∧ m1 ≤ 255) :
    Calls Try.prog 4 #[v0, .agg #[.string it, .int .i64 si, .int .i64 un], .agg #[.int .u8 m0, .int .u8 m1]] w fun e w' => e = .returned (.bool true) ∧ Below w.heap.size w w' := by
  have HV := Lib.hid hv
  have HW := Lib.hid hw
  obtain ⟨A, n, cap, rfl, -⟩ := hv.open_
  have HL := Lib.hid (lg_new w it si un m0 m1)
  obtain ⟨W1, hW1⟩ : ∃ W1, W1 = (w.alloc (.cells #[.string it, .int .i64 si, .int .i64 un] 47)).alloc (.cells #[.int .u8 m0, .int .u8 m1] 48) := ⟨_, rfl⟩
  rw [← hW1] at HL
  have HW1 := Lib.hid hW1
  clear hv hw hW1
  go_enter Try.func4, Try.ntmps4
  go_wp2_with fail
  rw [← HW1.out]
  refine (few_any _ xs _ W1 (HV.out.below HL.out.bel)).mono ?_
  rintro e w2 ⟨b, rfl, hfew, hb2⟩
  have hL2 := HL.out.below hb2
  have hl2 := hL2.lt
  have c0 : w2.cell? ⟨w.heap.size, 0, none⟩ = some (.string it) := cell_of_row w2 _ 0 _ _ _ hL2.b0
  have c1 : w2.cell? ⟨w.heap.size, 1, none⟩ = some (.int .i64 si) := cell_of_row w2 _ 1 _ _ _ hL2.b0
  have c2 : w2.cell? ⟨w.heap.size, 2, none⟩ = some (.int .i64 un) := cell_of_row w2 _ 2 _ _ _ hL2.b0
  have HL2 := Lib.hid hL2
  clear hb2 hL2
  have hcase : (b = false ∨ si < -1099511627776 ∨ 1099511627776 < un ∨ 1099511627776 < si ∨ un < -1099511627776) ∨ (b = true ∧ ¬ si < -1099511627776 ∧ ¬ 1099511627776 < un ∧ ¬ 1099511627776 < si ∧ ¬ un < -1099511627776) := by
    cases b
    · exact .inl (.inl rfl)
    · by_cases h1 : si < -1099511627776
      · exact .inl (.inr (.inl h1))
      · by_cases h2 : 1099511627776 < un
        · exact .inl (.inr (.inr (.inl h2)))
        · by_cases h3 : 1099511627776 < si
          · exact .inl (.inr (.inr (.inr (.inl h3))))
          · by_cases h4 : un < -1099511627776
            · exact .inl (.inr (.inr (.inr (.inr h4))))
            · exact .inr ⟨rfl, h1, h2, h3, h4⟩
  rcases hcase with hcase | ⟨rfl, h1, h2, h3, h4⟩
  · have hw2 := HL2.out.bel
    have hdec : (b == true && !decide (si < -1099511627776) && !decide (1099511627776 < un) && !decide (1099511627776 < si) && !decide (un < -1099511627776)) = false := by
      rcases hcase with rfl | h | h | h | h <;> simp <;> omega
    clear hfew
    rcases hcase with rfl | h | h | h | h
    all_goals
      try cases b
      all_goals
        go_wp2_with fail
        all_goals
          first
          | (refine (awake_any _).mono ?_
             rintro e w3 ⟨rfl, hb3⟩
             go_wp2_with fail
             go_ret
             exact ⟨rfl, hw2.trans (hb3.mono hw2.size)⟩)
          | (exfalso; omega)
  · have hf := hfew rfl
    have HF := Lib.hid hf
    clear hfew hf
    go_wp2_with fail
    refine (books_any _ xs _ w2 (HV.out.below HL2.out.bel) HF.out).mono ?_
    rintro e w3 ⟨p, bv, rfl, F, hbk, -, hb3⟩
    have hL3 := HL2.out.below hb3
    have hok := entAll_ok HF.out.each HW.out
    have hlen : (entAll xs).length ≤ 1024 := by have := entAll_len xs; have := HF.out.len; omega
    obtain ⟨acc, hacc⟩ : ∃ acc, acc = entAll xs := ⟨_, rfl⟩
    rw [← hacc] at hbk hok hlen
    have HT : Hid (∀ si un w', Below w3.heap.size w3 w' → Calls Try.prog 22 #[p, .agg #[.string it, .int .i64 si, .int .i64 un]] w' (TouchedNames w' acc ⟨it, si, un⟩)) := fun si un w' h => Touched_any p _ F acc ⟨it, si, un⟩ w' (hbk.below h) hok.found hlen hit
    have HU : Hid (∀ w', Below w3.heap.size w3 w' → Calls Try.prog 23 #[p, .string it] w' (UsesNames w' acc it)) := fun w' h => Uses_any p _ F acc it w' (hbk.below h) hok.found hlen hit
    have HOK := Lib.hid hok
    have HL3 := Lib.hid hL3
    have k0 : w3.cell? ⟨w.heap.size, 0, none⟩ = some (.string it) := cell_of_row w3 _ 0 _ _ _ hL3.b0
    have k1 : w3.cell? ⟨w.heap.size, 1, none⟩ = some (.int .i64 si) := cell_of_row w3 _ 1 _ _ _ hL3.b0
    have k2 : w3.cell? ⟨w.heap.size, 2, none⟩ = some (.int .i64 un) := cell_of_row w3 _ 2 _ _ _ hL3.b0
    clear hbk hok hlen hacc hL3 hb3 c0 c1 c2
    go_wp2_with fail
    refine (HT.out si un w3 (Below.refl _ _)).mono ?_
    rintro e w4 ⟨⟨vx, rfl, hrx⟩, hb4⟩
    obtain ⟨e1, he1⟩ : ∃ e1, e1 = faultErr acc ⟨it, si, un⟩ := ⟨_, rfl⟩
    obtain ⟨X, hX⟩ : ∃ X, X = namesOf acc (touchedMs acc ⟨it, si, un⟩) := ⟨_, rfl⟩
    rw [← he1, ← hX] at hrx
    rw [← he1]
    have HE1 := Lib.hid he1
    have HX := Lib.hid hX
    have HRX := Lib.hid hrx
    have HL4 := Lib.hid (HL3.out.below hb4)
    have HC4 := Lib.hid hb4
    have l0 : w4.cell? ⟨w.heap.size, 0, none⟩ = some (.string it) := cell_of_row w4 _ 0 _ _ _ HL4.out.b0
    have l1 : w4.cell? ⟨w.heap.size, 1, none⟩ = some (.int .i64 si) := cell_of_row w4 _ 1 _ _ _ HL4.out.b0
    have l2 : w4.cell? ⟨w.heap.size, 2, none⟩ = some (.int .i64 un) := cell_of_row w4 _ 2 _ _ _ HL4.out.b0
    have l3 : w4.cell? ⟨w.heap.size + 1, 0, none⟩ = some (.int .u8 m0) := cell_of_row w4 _ 0 _ _ _ HL4.out.b1
    have l4 : w4.cell? ⟨w.heap.size + 1, 1, none⟩ = some (.int .u8 m1) := cell_of_row w4 _ 1 _ _ _ HL4.out.b1
    clear he1 hX hrx hb4 k0 k1 k2
    go_wp2_with fail
    refine (HT.out (si - m0) (un + m1) w4 HC4.out).mono ?_
    rintro e w5 ⟨⟨v5, rfl, hr5⟩, hb5⟩
    obtain ⟨e2, he5⟩ : ∃ e2, e2 = faultErr acc ⟨it, si - m0, un + m1⟩ := ⟨_, rfl⟩
    obtain ⟨Y, hX5⟩ : ∃ Y, Y = namesOf acc (touchedMs acc ⟨it, si - m0, un + m1⟩) := ⟨_, rfl⟩
    rw [← he5, ← hX5] at hr5
    rw [← he5]
    have HE5 := Lib.hid he5
    have HX5 := Lib.hid hX5
    have HR5 := Lib.hid hr5
    have HL5 := Lib.hid (HL4.out.below hb5)
    have HB5 := Lib.hid (hb5)
    have HC5 := Lib.hid (HC4.out.trans (hb5.mono HC4.out.size))
    have l0 : w5.cell? ⟨w.heap.size, 0, none⟩ = some (.string it) := cell_of_row w5 _ 0 _ _ _ HL5.out.b0
    clear he5 hX5 hr5 hb5
    clear l1 l2 l3 l4
    go_wp2_with fail
    refine (HT.out (-9223372036854775808) (9223372036854775807) w5 HC5.out).mono ?_
    rintro e w6 ⟨⟨v6, rfl, hr6⟩, hb6⟩
    obtain ⟨e3, he6⟩ : ∃ e3, e3 = faultErr acc ⟨it, -9223372036854775808, 9223372036854775807⟩ := ⟨_, rfl⟩
    obtain ⟨Z, hX6⟩ : ∃ Z, Z = namesOf acc (touchedMs acc ⟨it, -9223372036854775808, 9223372036854775807⟩) := ⟨_, rfl⟩
    rw [← he6, ← hX6] at hr6
    rw [← he6]
    have HE6 := Lib.hid he6
    have HX6 := Lib.hid hX6
    have HR6 := Lib.hid hr6
    have HL6 := Lib.hid (HL5.out.below hb6)
    have HB6 := Lib.hid (hb6)
    have HC6 := Lib.hid (HC5.out.trans (hb6.mono HC5.out.size))
    have l0 : w6.cell? ⟨w.heap.size, 0, none⟩ = some (.string it) := cell_of_row w6 _ 0 _ _ _ HL6.out.b0
    clear he6 hX6 hr6 hb6
    go_wp2_with fail
    refine (HU.out w6 HC6.out).mono ?_
    rintro e w7 ⟨⟨v7, rfl, hr7⟩, hb7⟩
    obtain ⟨e4, he7⟩ : ∃ e4, e4 = findErr acc it := ⟨_, rfl⟩
    obtain ⟨U, hX7⟩ : ∃ U, U = namesOf acc (usesMs acc it) := ⟨_, rfl⟩
    rw [← he7, ← hX7] at hr7
    rw [← he7]
    have HE7 := Lib.hid he7
    have HX7 := Lib.hid hX7
    have HR7 := Lib.hid hr7
    have HL7 := Lib.hid (HL6.out.below hb7)
    have HC7 := Lib.hid (HC6.out.trans (hb7.mono HC6.out.size))
    have HB7 := Lib.hid hb7
    clear he7 hX7 hr7 hb7
    rcases int_case e1 with ⟨hz, h0⟩ | ⟨hz, h0⟩
    · subst h0
      have hll := longer_law HOK.out hm0 hm1 HE1.out.symm
      rw [← HE5.out, ← HE6.out, ← HE7.out, ← HX.out, ← HX5.out, ← HX6.out, ← HX7.out] at hll
      obtain ⟨hz2, hz3, hz4, hzu, hxy, hyz⟩ := hll
      subst hz2 hz3 hz4 hzu
      have q4 : Rd .string w7 (fun _ => True) vx X := (((HRX.out.below HB5.out).below HB6.out).below HB7.out).mono fun _ _ => trivial
      have q5 : Rd .string w7 (fun _ => True) v5 Y := ((HR5.out.below HB6.out).below HB7.out).mono fun _ _ => trivial
      have q6 : Rd .string w7 (fun _ => True) v6 Z := (HR6.out.below HB7.out).mono fun _ _ => trivial
      have q7 : Rd .string w7 (fun _ => True) v7 Z := HR7.out.mono fun _ _ => trivial
      have HAL := Lib.hid (alike_any v6 v7 Z Z _ _ w7 q6 q7)
      rw [decide_eq_true rfl] at HAL
      have HXY := Lib.hid hxy
      have HYZ := Lib.hid hyz
      have HQ4 := Lib.hid q4
      have HQ5 := Lib.hid q5
      have HQ6 := Lib.hid q6
      have hop4 := q4.lt.open_
      have hop5 := q5.lt.open_
      obtain ⟨A4, n4, cap4, rfl, hn4, hcap4, hmax4, hc4⟩ := hop4
      obtain ⟨A5, n5, cap5, rfl, hn5, hcap5, hmax5, hc5⟩ := hop5
      have HC4' := Lib.hid hc4
      have HC5' := Lib.hid hc5
      clear q4 q5 q6 q7 hxy hyz hc4 hc5 hn4 hn5
      go_wp2_with fail
      refine HAL.out.mono ?_
      rintro e w8 ⟨rfl, hb8⟩
      have HB8 := Lib.hid hb8
      clear hb8
      have HBW8 := Lib.hid (HL7.out.bel.trans (HB8.out.mono HL7.out.bel.size))
      go_wp2_with fail
      go_loop [114] (fun i => ∃ k : Nat, k ≤ n4 ∧ i = .int .i64 k) (fun i => n4 - (intOf i).toNat)
      case atStart => exact ⟨0, Nat.zero_le _, rfl⟩
      case round =>
        obtain ⟨k, hk, rfl⟩ := hrel
        by_cases hlt : k < n4
        · obtain ⟨b, off, x, rfl, ⟨_, hbw⟩, hx, hcell⟩ := HC4'.out k hlt
          have hcell' : w8.cell? ⟨b, off + k, none⟩ = some (.string x) := (HB8.out.cell (p := ⟨b, _, none⟩) hbw).trans hcell
          have hin := hasN_iff.2 (HXY.out x (mem_of_get? hx))
          have HH := Lib.hid (has_any (.slice A5 n5 cap5) Y _ x w8 (HQ5.out.below HB8.out))
          rw [hin] at HH
          clear hx hcell hin
          go_wp2_with (go_at_call 25; refine HH.out.mono ?_; rintro e w' ⟨rfl, rfl⟩)
          go_round
          case rel => exact ⟨k + 1, by omega, by go_num⟩
          case measure => simp [intOf]; omega
        · clear HC4' HXY HQ4
          go_wp2_with fail
          go_loop [125] (fun i => ∃ k : Nat, k ≤ n5 ∧ i = .int .i64 k) (fun i => n5 - (intOf i).toNat)
          case atStart => exact ⟨0, Nat.zero_le _, rfl⟩
          case round =>
            obtain ⟨k, hk, rfl⟩ := hrel
            by_cases hlt : k < n5
            · obtain ⟨b, off, x, rfl, ⟨_, hbw⟩, hx, hcell⟩ := HC5'.out k hlt
              have hcell' : w8.cell? ⟨b, off + k, none⟩ = some (.string x) := (HB8.out.cell (p := ⟨b, _, none⟩) hbw).trans hcell
              have hin := hasN_iff.2 (HYZ.out x (mem_of_get? hx))
              have HH := Lib.hid (has_any v6 Z _ x w8 (HQ6.out.below HB8.out))
              rw [hin] at HH
              clear hx hcell hin
              go_wp2_with (go_at_call 25; refine HH.out.mono ?_; rintro e w' ⟨rfl, rfl⟩)
              go_round
              case rel => exact ⟨k + 1, by omega, by go_num⟩
              case measure => simp [intOf]; omega
            · go_wp2_with fail
              refine (awake_any _).mono ?_
              rintro e w9 ⟨rfl, hb9⟩
              go_wp2_with fail
              go_ret
              exact ⟨rfl, HBW8.out.trans (hb9.mono HBW8.out.size)⟩
    · go_wp2_with fail
      refine (awake_any _).mono ?_
      rintro e w8 ⟨rfl, hb8⟩
      go_wp2_with fail
      go_ret
      exact ⟨rfl, HL7.out.bel.trans (hb8.mono HL7.out.bel.size)⟩
end Go.Proofs.Ytlanephpmoajiaa
