/- The walk of HallCasings. -/
import Derived.Test.YtfondpakbiagjaaGreatDoorHCsM
import Derived.Test.YtfondpakbiagjaaGreatDoorHAwk
namespace Go.Proofs.YtfondpakbiagjaaGreatDoor
open Go.RowKit
set_option linter.unusedVariables false
set_option linter.unusedSimpArgs false
set_option maxRecDepth 100000
set_option maxHeartbeats 4000000
theorem run_make_rowN {P : Program} (t e : TypeId) (i : TypeInfo) (z : Value) (ht : P.underlying t = some (.slice e)) (hi : P.info? e = some i) (hz : i.zero = some z)
    (kl kc : IntKind) (n c : Nat) (hnc : n ≤ c) (hbytes : i.bytes * c ≤ 281474976710656) (h63 : c ≤ 9223372036854775807) (w : World) :
    (Instr.makeSlice t (.int kl (n : Int)) (.int kc (c : Int))).run P w = .ok (.slice (some ⟨w.heap.size, 0, none⟩) n c) (w.alloc (.cells (madeCells z.cells (c * i.size)) e)) := by
  have hb : (i.bytes : Int) * (c : Int) ≤ 281474976710656 := by
    have h : ((i.bytes * c : Nat) : Int) ≤ 281474976710656 := by omega
    rwa [Int.natCast_mul] at h
  have hr := run_make (P := P) w t e i z ht hi hz kl kc n c (by omega) (by omega) hb (by omega)
  simp only [Int.toNat_natCast] at hr
  exact hr
def ev0 : EvD := ⟨0, 0, 0⟩
theorem infoE : (Tryz.prog.info? 63).map (fun i => (i.zero, i.size, i.bytes)) = some (some (.agg #[.int .i64 0, .int .i64 0, .int .i64 0]), 3, 24) := by kernel_rfl
theorem madeEs (n : Nat) : madeCells (Value.agg #[.int .i64 0, .int .i64 0, .int .i64 0]).cells (n * 3) = ((List.replicate n ev0).flatMap evC).toArray := by
  have hz : (Value.agg #[.int .i64 0, .int .i64 0, .int .i64 0]).cells = #[.int .i64 0, .int .i64 0, .int .i64 0] := rfl
  rw [hz]
  apply Array.ext'
  unfold madeCells
  rw [Array.toList_map, Array.toList_range]
  show (List.range (n * 3)).map _ = (List.replicate n ev0).flatMap evC
  induction n with
  | zero => rfl
  | succ n ih =>
    rw [List.replicate_succ', List.flatMap_append, ← ih, show (n + 1) * 3 = n * 3 + 1 + 1 + 1 by omega, List.range_succ, List.range_succ, List.range_succ, List.map_append, List.map_append, List.map_append, List.append_assoc, List.append_assoc]
    congr 1
    show [(#[Value.int .i64 0, .int .i64 0, .int .i64 0] : Array Value)[(n * 3) % 3]!, (#[Value.int .i64 0, .int .i64 0, .int .i64 0] : Array Value)[(n * 3 + 1) % 3]!, (#[Value.int .i64 0, .int .i64 0, .int .i64 0] : Array Value)[(n * 3 + 1 + 1) % 3]!] = _
    rw [show (n * 3) % 3 = 0 by omega, show (n * 3 + 1) % 3 = 1 by omega, show (n * 3 + 1 + 1) % 3 = 2 by omega]
    rfl
theorem make_evs (n : Nat) (hc : n ≤ 1000) (w : World) :
    (Instr.makeSlice 60 (.int .i64 (n : Int)) (.int .i64 (n : Int))).run Tryz.prog w = .ok (.slice (some ⟨w.heap.size, 0, none⟩) n n) (w.alloc (.cells ((List.replicate n ev0).flatMap evC).toArray 63)) := by
  obtain ⟨i0, hi, hz0, hz1, hz2⟩ := info_parts infoE
  rw [run_make_rowN 60 63 i0 _ Tryz.underlying60 hi hz0 .i64 .i64 n n (Nat.le_refl _) (by rw [hz2]; omega) (by omega) w, hz1, madeEs]
/-- The row of events, k of them set. -/
def evK (xs : List EvD) (n k : Nat) : List Value := (xs.take k ++ List.replicate (n - k) ev0).flatMap evC
theorem evK_step {xs : List EvD} {n k : Nat} {e : EvD} (hk : xs[k]? = some e) (hn : n = xs.length) : ∃ p r, p.length = k * 3 ∧ evK xs n k = p ++ evC ev0 ++ r ∧ evK xs n (k + 1) = p ++ evC e ++ r := by
  have hkl := (List.getElem?_eq_some_iff.1 hk).1
  refine ⟨(xs.take k).flatMap evC, (List.replicate (n - (k + 1)) ev0).flatMap evC, ?_, ?_, ?_⟩
  · rw [flat_len (f := evC) (k := 3) evC_len, List.length_take]; congr 1; omega
  · unfold evK
    rw [show n - k = (n - (k + 1)) + 1 by omega, List.replicate_succ, List.flatMap_append, List.flatMap_cons, List.append_assoc]
  · unfold evK
    rw [take_snoc? hk, List.flatMap_append, List.flatMap_append]
    simp
theorem evK_end {xs : List EvD} {n : Nat} (hn : n = xs.length) : evK xs n n = xs.flatMap evC := by unfold evK; rw [Nat.sub_self, hn, List.take_length]; simp
theorem evK_zero (xs : List EvD) (n : Nat) : evK xs n 0 = (List.replicate n ev0).flatMap evC := by unfold evK; simp
theorem rdE_blk {w : World} {g n : Nat} {xs : List EvD} (h : w.heap[g]? = some (.cells (xs.flatMap evC).toArray 63 (0, 0))) (hn : n = xs.length) (hm : n ≤ 1000) : RdE w (.slice (some ⟨g, 0, none⟩) n n) xs := by
  refine ⟨some ⟨g, 0, none⟩, n, by rw [hn], by omega, by unfold maxLen; omega, fun _ => ⟨g, 0, rfl, trivial, fun i x hi j u hu => ?_⟩⟩
  rw [blk_cell h, Nat.zero_add]
  have := flat_at (f := evC) (k := 3) evC_len xs i x hi j u hu
  simpa using this
theorem hallCasings_any (v : Value) (xs : List EvD) (t a r p x : Int) (w : World) (h : RdE w v xs) (hw : ∀ z ∈ xs, EvWf z) (ht : I64 t) (hl : I64 a ∧ I64 r ∧ I64 p ∧ I64 x) (hg : Glob w.heap.size w) :
    Calls Tryz.prog 6 #[v, .int .i64 t, .agg #[.int .i64 a, .int .i64 r, .int .i64 p, .int .i64 x]] w fun e w' => e = .returned (.bool true) ∧ Below w.heap.size w w' := by
  have HRE := Lib.hid h
  obtain ⟨A, cap, rfl, hlen, hat⟩ := h.at
  have HA := Lib.hid hat
  obtain ⟨n, hn⟩ : ∃ n, n = xs.length := ⟨_, rfl⟩
  have HN := Lib.hid hn
  rw [← hn] at HRE ⊢
  have HG := Lib.hid hg
  have HT := Lib.hid ht
  obtain ⟨W1, HW1, HB1, HS1, j1⟩ := st_al0 w #[.int .i64 a, .int .i64 r, .int .i64 p, .int .i64 x] 59
  have HJ1 := Lib.hid j1
  have HAW : Hid (∀ W, Below w.heap.size w W → Calls Tryz.prog 7 #[] W fun e w' => e = .returned (.bool true) ∧ Below W.heap.size W w') := fun W hW => awake_any W ((HG.out.on hW).up hW.size)
  clear h hat hn j1 hw hl hg ht
  by_cases hs : 70 < n
  · have h1 : (70 : Int) < (n : Int) := by omega
    have HA1 := Lib.hid (HAW.out W1 HJ1.out)
    clear hs
    go_enter Tryz.func6, Tryz.ntmps6
    go_wp2_with fail
    rw [← HW1.out]
    refine HA1.out.mono ?_
    rintro e w2 ⟨rfl, j2⟩
    replace HJ1 := kU HJ1 j2
    clear j2 HA1
    go_wp2_with fail
    go_ret
    exact ⟨rfl, HJ1.out⟩
  have hn1 : ¬ (70 : Int) < (n : Int) := by omega
  have HMK := make_evs n (by omega)
  obtain ⟨z0, hz0⟩ : ∃ z, z = (List.replicate n ev0).flatMap evC := ⟨_, rfl⟩
  rw [← hz0] at HMK
  obtain ⟨W2, HW2, HB2, HS2, j2⟩ := st_alk 1 2 z0.toArray 63 HS1 rfl
  have HLI2 := kB HB1 j2
  have HJ2 := kU HJ1 j2
  have HK0 : Hid (W2.heap[w.heap.size + 1]? = some (.cells (evK xs n 0).toArray 63 (0, 0))) := by show _ = _; rw [evK_zero, ← hz0]; exact HB2.out
  obtain ⟨g, hg⟩ : ∃ q, q = w.heap.size + 1 := ⟨_, rfl⟩
  rw [← hg] at HK0
  have HGG := Lib.hid hg
  clear hs hz0 j2 HB2 HS1 HS2 hg
  go_enter Tryz.func6, Tryz.ntmps6
  go_wp2_with fail
  rw [← HW1.out, ← HW2.out, ← HGG.out]
  have HNE : Hid (w.heap.size ≤ g) := by show _ ≤ _; have := HGG.out; omega
  have HNL : Hid (w.heap.size ≠ g) := by show _ ≠ _; have := HGG.out; omega
  go_loopw [23] (fun iv wr => ∃ k : Nat, k ≤ n ∧ iv = .int .i64 (k : Int) ∧ Hid (wr.heap[g]? = some (.cells (evK xs n k).toArray 63 (0, 0))) ∧ Hid (wr.heap[w.heap.size]? = some (.cells #[.int .i64 a, .int .i64 r, .int .i64 p, .int .i64 x] 59 (0, 0))) ∧ Hid (Below w.heap.size w wr)) (fun iv _ => n - (RowKit.intOf iv).toNat)
  case atStart => exact ⟨0, Nat.zero_le _, rfl, HK0.out, HLI2.out, HJ2.out⟩
  case round =>
    clear HK0 HLI2 HJ2 HJ1 HW1 HW2 HB1 HMK
    obtain ⟨k, hk, rfl, HK, HLI, HJ⟩ := hrel
    by_cases hlt : k < n
    · obtain ⟨⟨d, kd, pl⟩, hek⟩ : ∃ e, xs[k]? = some e := ⟨_, List.getElem?_eq_getElem (by have := HN.out; omega)⟩
      obtain ⟨b, off, rfl, hb, hrg⟩ := HA.out k _ hek
      have hL : wr.rangeAt b (off + k * 3) [.int .i64 d, .int .i64 kd, .int .i64 pl] := fun j v hv => (HJ.out.cell (p := ⟨b, off + k * 3 + j, none⟩) hb).trans (hrg j v hv)
      obtain ⟨hth, W5, HW5, HB5, j5⟩ := box_new wr 62 (z := [.int .i64 0, .int .i64 0, .int .i64 0]) (cs := [.int .i64 d, .int .i64 kd, .int .i64 pl]) (n := 3) rfl rfl
      have HTH := Lib.hid hth
      obtain ⟨pp, rr, hpl, hk1, hk2⟩ := evK_step (n := n) hek HN.out
      have HKB := kB HK j5
      rw [hk1] at HKB
      have HT3 : Hid (W5.there g (k * 3) 3) := blk_there HKB.out (by simp [evC]; omega)
      obtain ⟨W6, HW6⟩ : ∃ W, Hid (W = W5.setCells g (k * 3) [.int .i64 d, .int .i64 kd, .int .i64 pl]) := ⟨_, rfl⟩
      have HK6 : Hid (W6.heap[g]? = some (.cells (evK xs n (k + 1)).toArray 63 (0, 0))) := by
        show _ = _
        rw [hk2, kM HW6, ← hpl]
        exact sets_blk HKB.out rfl
      have HLI6 := kO (kM HW6) (kB HLI j5) HNL.out
      have HJ6 := kS (kM HW6) HNE (kU HJ j5)
      have e0 := kC HB5 0 rfl
      have e1 := kC HB5 1 rfl
      have e2 := kC HB5 2 rfl
      have hk0 : (0 : Int) ≤ (k : Int) := by omega
      have hkn : (k : Int) < (n : Int) := by omega
      have hwk : IntKind.i64.wrap ((k : Int) + 1) = (k : Int) + 1 := IntWalk.i64_in _ (by omega)
      clear hek hb hrg hth hpl hk1 hk2 j5 HKB HK HLI HJ
      go_wp2_with (first | (refine wpList_load_mid (by rfl) 62 _ (by rfl) b (off + k * 3) (by rfl) _ _ (by exact hL) Tryz.underlying62 rfl (by kernel_rfl) ?_) | (refine smd 62 wr.heap.size 0 (ht := HTH) (h := ?_); rw [← HW5.out]) | (refine smd 63 g (k * 3) (ht := HT3) (h := ?_); rw [← HW6.out]))
      go_roundw
      case rel => exact ⟨k + 1, by omega, by go_num, HK6.out, HLI6.out, HJ6.out⟩
      case measure => simp [RowKit.intOf]; omega
    · obtain rfl : k = n := by omega
      have hkn : ¬ (k : Int) < (k : Int) := by omega
      rw [evK_end HN.out] at HK
      have HRH := Lib.hid (rdE_blk HK.out HN.out (by omega))
      have q0 := kC HLI 0 rfl
      have q1 := kC HLI 1 rfl
      have q2 := kC HLI 2 rfl
      have q3 := kC HLI 3 rfl
      have HR1 := Lib.hid (refuse_any _ xs t a r p x wr HRH.out HT.out)
      clear HK
      go_wp2_with fail
      refine HR1.out.mono ?_
      rintro e w6 ⟨v1, rfl, hv1, j6⟩
      have HJ6 := kU HJ j6
      have HLI6 := kB HLI j6
      have HR2 := Lib.hid (rrefuse_any _ xs t a r p x w6 (HRE.out.below HJ6.out) HT.out)
      have HV1 := Lib.hid hv1
      obtain ⟨A1, n1, c1, rfl, -⟩ := hv1.open_
      replace q0 := kC HLI6 0 rfl
      replace q1 := kC HLI6 1 rfl
      replace q2 := kC HLI6 2 rfl
      replace q3 := kC HLI6 3 rfl
      clear j6 HR1 hv1
      go_wp2_with fail
      refine HR2.out.mono ?_
      rintro e w7 ⟨v2, rfl, hv2, j7⟩
      have HJ7 := kU HJ6 j7
      obtain ⟨A2, n2, c2, rfl, -⟩ := hv2.open_
      have HSM := Lib.hid (same_yes _ _ (refuseP xs t a r p x).2 _ _ w7 (HV1.out.below j7) hv2)
      obtain ⟨er, her⟩ : ∃ q, q = (refuseP xs t a r p x).1 := ⟨_, rfl⟩
      rw [← her]
      clear j7 HR2 hv2 her HV1 q0 q1 q2 q3
      go_wp2_with fail
      refine HSM.out.mono ?_
      rintro e w8 ⟨rfl, j8⟩
      have HJ8 := kU HJ7 j8
      have HA8 := Lib.hid (HAW.out w8 HJ8.out)
      clear j8 HSM
      go_wp2_with fail
      refine HA8.out.mono ?_
      rintro e w9 ⟨rfl, j9⟩
      have HJ9 := kU HJ8 j9
      clear j9 HA8
      go_wp2_with fail
      go_ret
      exact ⟨rfl, HJ9.out⟩
end Go.Proofs.YtfondpakbiagjaaGreatDoor
