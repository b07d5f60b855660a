/- The walk of content of layer 10 (acts without waveform). -/
import Derived.Test.YtfondpakbiagjaaGreatDoorHAct
import Derived.Lib.AppendStr
namespace Go.Proofs.YtfondpakbiagjaaGreatDoor
open Go.RowKit Go.Lib
set_option linter.unusedVariables false
set_option linter.unusedSimpArgs false
set_option maxRecDepth 100000
set_option maxHeartbeats 4000000
theorem own_one (w : World) (z : Int) : OwnB (w.alloc (.cells #[.int .u8 z] 5)) w.heap.size (.slice (some ⟨w.heap.size, 0, none⟩) 1 1) [z] :=
  ⟨by simp, .inr ⟨w.heap.size, 1, #[.int .u8 z], rfl, Nat.le_refl _, heap_alloc_new w _, Nat.le_refl _, by unfold maxLen; omega, by simp, by simp [u8V]⟩⟩
theorem OwnB.low {w : World} {B C : Nat} {v : Value} {xs : List Int} (h : OwnB w B v xs) (hC : C ≤ B) : OwnB w C v xs := by
  obtain ⟨h1, h2⟩ := h
  refine ⟨h1, ?_⟩
  rcases h2 with h2 | ⟨g, cap, cur, h3, h4, h5⟩
  · exact .inl h2
  · exact .inr ⟨g, cap, cur, h3, Nat.le_trans hC h4, h5⟩
theorem OwnB.blk {w : World} {B : Nat} {v : Value} {xs : List Int} (h : OwnB w B v xs) : ∀ k, v.ownBlock = some k → B ≤ k ∧ k < w.heap.size := fun k hk => World.ownsRow.lt h k hk
theorem floats_nil (v : Value) (w : World) : Calls Tryz.prog 178 #[v, .slice none 0 0] w fun e w' => e = .returned v ∧ w' = w := by
  go_enter Tryz.func178, Tryz.ntmps178
  go_wp2_with fail
  go_loop [0, 9] (fun bv iv => bv = v ∧ iv = .int .i64 0) (fun _ _ => 0)
  case atStart => exact ⟨rfl, rfl⟩
  case round =>
    obtain ⟨rfl, rfl⟩ := hrel
    go_wp2_with fail
    go_ret
    exact ⟨rfl, rfl⟩
/-- The row grows by a byte: one operation. -/
theorem op_pushB {w w1 : World} {o : Oper} {a : Act} {K : Act → World → Prop} {Q : Exit → Act → World → Prop} {B : Nat} {v : Value} {xs : List Int} {z : Int} {n : Nat} (s y : Operand)
    (ho : o.op = .call { callee := .builtin .append, args := #[s, y], argTypes := #[72, 72] }) (hs : a.eval s = v) (hw : w = w1.alloc (.cells #[.int .u8 z] 5)) {p c : Nat} (hp : p = w1.heap.size) (hy : a.eval y = .slice (some ⟨p, 0, none⟩) 1 c)
    (hn : xs.length = n) (hown : OwnB w1 B v xs) (hl : n ≤ 100000) (hB : B ≤ w1.heap.size)
    (h : ∀ A c w', OwnB w' B (.slice A (n + 1) c) (xs ++ [z]) → Gr w1 w' v (.slice A (n + 1) c) → K (a.put o.dst (.slice A (n + 1) c)) w') : Oper.wp Tryz.prog o a w K Q := by
  subst hw hp hn
  obtain ⟨i0, hi0, hz0, hz1, hz2⟩ := info_parts infoB
  have hown1 := World.ownsRow.alloc hown (.cells #[.int .u8 z] 5)
  obtain ⟨v', w', hrun, h2, h3, h4⟩ := append_fresh (P := Tryz.prog) (w1.alloc (.cells #[.int .u8 z] 5)) B 72 o.type 5 i0 (.int .u8 0) 1 1 Tryz.underlying72 hi0 hz0 hz1 hz2 rfl (by decide) v xs.length (xs.map u8V) hown1 ⟨w1.heap.size, 0, none⟩ 1 c [.int .u8 z] rfl
    (cells_new w1 #[.int .u8 z] 5 (0, 0)) (fun u hu => by rw [List.mem_singleton.1 hu]; rfl) (by unfold maxLen; omega) (by omega) (by simp; omega)
  obtain ⟨A, c', rfl⟩ := ownsRow_slice h2
  unfold Oper.wp
  simp [execOp, ho, resolve, invoke, builtin, hs, hy, hrun, Result.andThen]
  exact h A c' w' (by unfold OwnB; rw [List.length_append, List.map_append]; exact h2) (Gr.alloc (o := .cells #[.int .u8 z] 5) ⟨h3, h4⟩)
/-- The bytes of a string. -/
def strL (s : ByteArray) : List Int := s.data.toList.map fun b => (b.toNat : Int)
theorem strL_len (s : ByteArray) : (strL s).length = s.size := by unfold strL; rw [List.length_map, Array.length_toList]; rfl
theorem strL_cells (s : ByteArray) : (strL s).map u8V = strCells s := by unfold strL strCells u8V; rw [List.map_map]; rfl
/-- The row grows by a string: one operation. -/
theorem op_pushS {w : World} {o : Oper} {a : Act} {K : Act → World → Prop} {Q : Exit → Act → World → Prop} {B : Nat} {v : Value} {xs : List Int} {t : ByteArray} {n m : Nat} (s y : Operand)
    (ho : o.op = .call { callee := .builtin .append, args := #[s, y], argTypes := #[72, 9] }) (hs : a.eval s = v) (hy : a.eval y = .string t)
    (hn : xs.length = n) (hm : n + t.size = m) (hown : OwnB w B v xs) (hl : m ≤ 100000) (hB : B ≤ w.heap.size)
    (h : ∀ A c w', OwnB w' B (.slice A m c) (xs ++ strL t) → w.grownBy w' v.ownBlock → K (a.put o.dst (.slice A m c)) w') : Oper.wp Tryz.prog o a w K Q := by
  subst hn hm
  obtain ⟨i0, hi0, hz0, hz1, hz2⟩ := info_parts infoB
  obtain ⟨v', w', hrun, h2, h3, h4⟩ := run_append_own_string (P := Tryz.prog) (w := w) B 72 9 o.type 5 i0 Tryz.underlying72 Tryz.underlying9 hi0 hz0 hz1 hz2 v xs.length (xs.map u8V) hown t (by unfold maxLen; omega) (by omega) hB
  obtain ⟨A, c', rfl⟩ := ownsRow_slice h2
  unfold Oper.wp
  simp [execOp, ho, resolve, invoke, builtin, hs, hy, hrun, Result.andThen]
  exact h A c' w' (by unfold OwnB; rw [List.length_append, List.map_append, strL_len, strL_cells]; exact h2) h3
/-- What content returns. -/
def contL (a : ActD) (t : ByteArray) : List Int := [a.kind] ++ numB a.from_ 3 ++ numB a.to_ 3 ++ numB a.n 3 ++ [(t.size : Int)] ++ strL t ++ [0]
def contK (a : ActD) : Nat → List Int
  | 0 => [a.kind]
  | 1 => [a.kind] ++ numB a.from_ 3
  | 2 => [a.kind] ++ numB a.from_ 3 ++ numB a.to_ 3
  | _ => [a.kind] ++ numB a.from_ 3 ++ numB a.to_ 3 ++ numB a.n 3
def actN (a : ActD) : Nat → Int
  | 0 => a.from_
  | 1 => a.to_
  | _ => a.n
theorem contK_len (a : ActD) : ∀ k, k ≤ 3 → (contK a k).length = 1 + 3 * k
  | 0, _ => rfl
  | 1, _ => by simp [contK, numB_len]
  | 2, _ => by simp [contK, numB_len]
  | 3, _ => by simp [contK, numB_len]
theorem contK_succ (a : ActD) : ∀ k, k < 3 → contK a (k + 1) = contK a k ++ numB (actN a k) 3
  | 0, _ => rfl
  | 1, _ => rfl
  | 2, _ => rfl
theorem actN_cell (a : ActD) : ∀ k, k < 3 → ([.int .i64 a.from_, .int .i64 a.to_, .int .i64 a.n] : List Value)[k]? = some (.int .i64 (actN a k))
  | 0, _ => rfl
  | 1, _ => rfl
  | 2, _ => rfl
theorem actN_small (a : ActD) (h : a.ok) : ∀ k, 0 ≤ actN a k ∧ actN a k ≤ 1000000
  | 0 => h.2.1
  | 1 => h.2.2.1
  | _ + 2 => h.2.2.2
theorem content_any (a : ActD) (t : ByteArray) (w : World) (h : a.ok) (ht : t.size ≤ 200) :
    Calls Tryz.prog 132 #[actV a t] w fun e w' => (∃ v', e = .returned v' ∧ OwnB w' (w.heap.size + 1) v' (contL a t)) ∧ Below w.heap.size w w' := by
  obtain ⟨W1, HW1, HB1, HS1, j1⟩ := st_al0 w #[.int .i64 a.kind, .int .i64 a.from_, .int .i64 a.to_, .int .i64 a.n, .string t, .slice none 0 0] 154
  obtain ⟨W2, HW2, HB2, HS2, j2⟩ := st_alk 1 2 #[.int .u8 a.kind] 5 HS1 rfl
  obtain ⟨W3, HW3, HB3, HS3, j3⟩ := st_alk 2 3 #[.int .i64 a.from_, .int .i64 a.to_, .int .i64 a.n] 3 HS2 rfl
  have hk8 : IntKind.u8.wrap a.kind = a.kind := by rw [IntKind.wrap_u8]; have := h.1; omega
  have HK := Lib.hid h
  clear h
  show Calls _ _ #[.agg #[.int .i64 a.kind, .int .i64 a.from_, .int .i64 a.to_, .int .i64 a.n, .string t, .slice none 0 0]] _ _
  go_enter Tryz.func132, Tryz.ntmps132
  go_wp2_with fail
  rw [← HW1.out, ← HW2.out, ← HW3.out]
  have HO2 : Hid (OwnB W2 (w.heap.size + 1) (.slice (some ⟨w.heap.size + 1, 0, none⟩) 1 1) [a.kind]) := by
    have := own_one W1 a.kind
    rw [← HW2.out, HS1.out] at this
    exact this
  have HO3 := Lib.hid (HO2.out.stay j3)
  have HB1' := kB (kB HB1 j2) j3
  have HJ : Hid (Below w.heap.size w W3) := tt (tt j1 j2) j3
  have HSZ : Hid (W3.heap.size = w.heap.size + 3) := HS3
  clear HB1 HB2 HS1 HS2 HS3 j1 j2 j3 HW1 HW2 HW3 HO2
  go_loopw [3, 5, 18] (fun bv _ iv wr => ∃ (k : Nat) (A : Option Addr) (c : Nat), k ≤ 3 ∧ bv = .slice A (1 + 3 * k) c ∧ iv = .int .i64 (k : Int) ∧ Hid (OwnB wr (w.heap.size + 1) (.slice A (1 + 3 * k) c) (contK a k)) ∧ Hid (Gr W3 wr (.slice (some ⟨w.heap.size + 1, 0, none⟩) 1 1) (.slice A (1 + 3 * k) c))) (fun _ _ iv _ => 3 - (intOf iv).toNat)
  case atStart => exact ⟨0, _, _, by omega, rfl, rfl, HO3.out, Gr.refl _ _⟩
  case round =>
    clear HO3
    obtain ⟨k, A, c, hk, rfl, rfl, HO, HG⟩ := hrel
    have HSR : Hid (w.heap.size + 3 ≤ wr.heap.size) := by show _ ≤ _; have := HG.out.g.size; have := HSZ.out; omega
    by_cases hlt : k < 3
    · have HB9 : Hid (wr.heap[w.heap.size + 2]? = some (.cells #[.int .i64 a.from_, .int .i64 a.to_, .int .i64 a.n] 3 (0, 0))) := (HG.out.g.block _ (by have := HSZ.out; omega) (by simp [Value.ownBlock])).trans HB3.out
      have c0 := kC HB9 k (actN_cell a k hlt)
      have hsm := actN_small a HK.out k
      have HKL := contK_len a k hk
      have HKS := Lib.hid (contK_succ a k hlt)
      obtain ⟨z, hz⟩ : ∃ z, z = actN a k := ⟨_, rfl⟩
      rw [← hz] at c0 hsm HKS
      have hw1 : IntKind.u32.wrap z = z := IntWalk.u32_in _ (by omega)
      have HNC : Hid (∀ W, OwnB W (w.heap.size + 1) (.slice A (1 + 3 * k) c) (contK a k) → w.heap.size + 1 ≤ W.heap.size → Calls Tryz.prog 133 #[.slice A (1 + 3 * k) c, .int .u32 z, .int .i64 3] W fun e w' => ∃ v', e = .returned v' ∧ OwnB w' (w.heap.size + 1) v' (contK a k ++ numB z 3) ∧ Gr W w' (.slice A (1 + 3 * k) c) v') := fun W hO hB => number_any _ _ _ z 3 W hO hB (by omega) (by omega) (by rw [HKL]; omega)
      have HK1 := Lib.hid (contK_len a (k + 1) (by omega))
      clear hz hsm HKL HB9
      go_wp2_with fail
      refine (HNC.out _ HO.out (by have := HSR.out; omega)).mono ?_
      rintro e w5 ⟨v5, rfl, hO5, hG5⟩
      rw [← HKS.out] at hO5
      obtain ⟨A5, c5, rfl⟩ := hO5.slice
      have HO5 := Lib.hid hO5
      have HG5 := Lib.hid (HG.out.trans hG5)
      rw [HK1.out] at HO5 HG5 ⊢
      clear hO5 hG5 HO HG
      go_wp2_with fail
      go_roundw
      case rel => exact ⟨k + 1, A5, c5, by omega, rfl, by go_num, HO5.out, HG5.out⟩
      case measure => simp [intOf]; omega
    · obtain rfl : k = 3 := by omega
      have HBX : Hid (wr.heap[w.heap.size]? = some (.cells #[.int .i64 a.kind, .int .i64 a.from_, .int .i64 a.to_, .int .i64 a.n, .string t, .slice none 0 0] 154 (0, 0))) := (HG.out.g.block _ (by have := HSZ.out; omega) (by simp [Value.ownBlock])).trans HB1'.out
      have HBW : Hid (Below (w.heap.size + 1) W3 wr) := HG.out.below (by have := HSZ.out; omega) (fun k hk => by simp [Value.ownBlock] at hk; omega)
      clear HB3 HB1'
      have hwt : IntKind.u8.wrap (t.size : Int) = (t.size : Int) := by rw [IntKind.wrap_u8]; omega
      have HTS := Lib.hid ht
      clear ht
      go_wp2_with fail
      obtain ⟨W5, hW5⟩ : ∃ W, W = wr.drew := ⟨_, rfl⟩
      have j5 : Below wr.heap.size wr W5 := by rw [hW5]; exact (Below.refl _ _).drew
      have HO5 := Lib.hid (HO.out.stay j5)
      have HB5 := kB HBX j5
      replace HBW : Hid (Below (w.heap.size + 1) W3 W5) := HBW.out.trans (j5.mono (by have := HSR.out; omega))
      have HS5 : Hid (w.heap.size + 1 ≤ W5.heap.size) := by show _ ≤ _; have := j5.size; have := HSR.out; omega
      have HL5 : Hid ((contK a 3).length = 10) := contK_len a 3 (by omega)
      refine seq_start (S := fun W => W.cell? ⟨w.heap.size, 4, none⟩ = some (.string t)) (by kernel_rfl) (by kernel_rfl) (by rw [← hW5]; exact kC HB5 4 rfl) ?_
      rw [← hW5]
      clear hW5 j5 HO HG HBX HSR
      iterate 5 refine tk0 (h := ?_)
      iterate 2 (refine plq 2 (h := ?_); refine tk0 (h := ?_))
      refine sop (h := fun K9 hK9 => ?_)
      go_simp
      obtain ⟨W6, HW6, HBn, HSn, j6⟩ := st_al0 W5 #[.int .u8 (t.size : Int)] 5
      rw [← HW6.out]
      have HB6 := kB HB5 j6
      refine ckk hK9 (by exact kC HB6 4 rfl) (h := ?_)
      clear hK9 K9 HBn HSn
      refine sop (h := fun K9 hK9 => ?_)
      refine op_pushB _ _ rfl rfl HW6.out rfl rfl HL5.out HO5.out (by omega) HS5.out fun A7 c7 W7 hO hG => ?_
      have HO7 := Lib.hid hO
      have HB7 : Hid (W7.heap[w.heap.size]? = some (.cells #[.int .i64 a.kind, .int .i64 a.from_, .int .i64 a.to_, .int .i64 a.n, .string t, .slice none 0 0] 154 (0, 0))) := (hG.g.block _ (blk_lt HB5.out) (fun e => by have := (HO5.out.blk _ e.symm).1; omega)).trans HB5.out
      have HS7 : Hid (w.heap.size + 1 ≤ W7.heap.size) := Nat.le_trans HS5.out hG.g.size
      replace HBW : Hid (Below (w.heap.size + 1) W3 W7) := HBW.out.trans (hG.below HS5.out fun k hk => (HO5.out.blk k hk).1)
      refine ckk hK9 (by exact kC HB7 4 rfl) (h := ?_)
      clear hK9 K9 hO hG HW6 HB6 j6 HB5 HO5 HS5 HL5
      have HL7 : Hid ((contK a 3 ++ [(t.size : Int)]).length = 11) := by show _ = _; rw [List.length_append, contK_len a 3 (by omega)]; rfl
      refine sop (h := fun K9 hK9 => ?_)
      refine op_pushS _ _ rfl rfl rfl HL7.out rfl HO7.out (by have := HTS.out; omega) HS7.out fun A8 c8 W8 hO hG => ?_
      have HO8 := Lib.hid hO
      have HB8 : Hid (W8.heap[w.heap.size]? = some (.cells #[.int .i64 a.kind, .int .i64 a.from_, .int .i64 a.to_, .int .i64 a.n, .string t, .slice none 0 0] 154 (0, 0))) := (hG.block _ (blk_lt HB7.out) (fun e => by have := (HO7.out.blk _ e.symm).1; omega)).trans HB7.out
      have HS8 : Hid (w.heap.size + 1 ≤ W8.heap.size) := Nat.le_trans HS7.out hG.size
      replace HBW : Hid (Below (w.heap.size + 1) W3 W8) := HBW.out.trans ⟨hG.os, hG.tape, hG.output, hG.size, fun k hk => hG.block k (by have := HS7.out; omega) (fun e => by have := (HO7.out.blk k e.symm).1; omega)⟩
      refine ckk hK9 (by exact kC HB8 4 rfl) (h := ?_)
      clear hK9 K9 hO hG HB7 HO7 HS7
      refine tk0 (h := ?_)
      refine seq_done (by kernel_rfl) ?_
      have HL8 : Hid ((contK a 3 ++ [(t.size : Int)] ++ strL t).length = 11 + t.size) := by show _ = _; rw [List.length_append, HL7.out, strL_len]
      obtain ⟨q, hq⟩ : ∃ q, q = 11 + t.size := ⟨_, rfl⟩
      rw [← hq] at HO8 HL8 ⊢
      have hq2 : q ≤ 211 := by have := HTS.out; omega
      have hw0 : IntKind.u8.wrap 0 = 0 := by rw [IntKind.wrap_u8]; rfl
      clear hq HL7
      go_wp2_with fail
      obtain ⟨W9, hW9⟩ : ∃ W, W = W8.drew := ⟨_, rfl⟩
      have j9 : Below W8.heap.size W8 W9 := by rw [hW9]; exact (Below.refl _ _).drew
      have HO9 := Lib.hid (HO8.out.stay j9)
      have HB9 := kB HB8 j9
      replace HBW : Hid (Below (w.heap.size + 1) W3 W9) := HBW.out.trans (j9.mono HS8.out)
      have HS9 : Hid (w.heap.size + 1 ≤ W9.heap.size) := Nat.le_trans HS8.out j9.size
      have HL9 := HL8
      refine seq_start (S := fun W => W.cell? ⟨w.heap.size, 5, none⟩ = some (.slice none 0 0)) (by kernel_rfl) (by kernel_rfl) (by rw [← hW9]; exact kC HB9 5 rfl) ?_
      rw [← hW9]
      clear hW9 j9 HO8 HB8 HS8 HL8
      iterate 5 refine tk0 (h := ?_)
      iterate 2 (refine plq 2 (h := ?_); refine tk0 (h := ?_))
      refine sop (h := fun K9 hK9 => ?_)
      go_simp
      obtain ⟨W10, HW10, HBn, HSn, j10⟩ := st_al0 W9 #[.int .u8 0] 5
      rw [← HW10.out]
      have HB10 := kB HB9 j10
      refine ckk hK9 (by exact kC HB10 5 rfl) (h := ?_)
      clear hK9 K9 HBn HSn
      refine sop (h := fun K9 hK9 => ?_)
      refine op_pushB _ _ rfl rfl HW10.out rfl rfl HL9.out HO9.out (by omega) HS9.out fun A11 c11 W11 hO hG => ?_
      have HO11 := Lib.hid hO
      have HB11 : Hid (W11.heap[w.heap.size]? = some (.cells #[.int .i64 a.kind, .int .i64 a.from_, .int .i64 a.to_, .int .i64 a.n, .string t, .slice none 0 0] 154 (0, 0))) := (hG.g.block _ (blk_lt HB9.out) (fun e => by have := (HO9.out.blk _ e.symm).1; omega)).trans HB9.out
      have HS11 : Hid (w.heap.size + 1 ≤ W11.heap.size) := Nat.le_trans HS9.out hG.g.size
      replace HBW : Hid (Below (w.heap.size + 1) W3 W11) := HBW.out.trans (hG.below HS9.out fun k hk => (HO9.out.blk k hk).1)
      refine ckk hK9 (by exact kC HB11 5 rfl) (h := ?_)
      clear hK9 K9 hO hG HW10 HB10 j10 HB9 HO9 HS9 HL9
      refine sop (h := fun K9 hK9 => ?_)
      go_simp
      refine (floats_nil _ _).mono ?_
      rintro e w12 ⟨rfl, hwx⟩
      obtain rfl := hwx.symm
      refine ckk hK9 (by exact kC HB11 5 rfl) (h := ?_)
      clear hK9 K9 hwx
      refine tk0 (h := ?_)
      refine seq_done (by kernel_rfl) ?_
      go_wp2_with fail
      go_ret
      exact ⟨⟨_, rfl, HO11.out⟩, HJ.out.trans (HBW.out.mono (by omega))⟩
end Go.Proofs.YtfondpakbiagjaaGreatDoor
