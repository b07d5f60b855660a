/- Rows of bytes that grow; walks of number and Sum of layer 10. -/
import Derived.Test.YtfondpakbiagjaaGreatDoorAppend
import Derived.Test.YtfondpakbiagjaaGreatDoorAppendRd
import Derived.Test.YtfondpakbiagjaaGreatDoorClone
import Derived.Lib.EndianBits
namespace Go.Proofs.YtfondpakbiagjaaGreatDoor
open Go.RowKit
set_option linter.unusedVariables false
set_option linter.unusedSimpArgs false
def u8V (z : Int) : Value := .int .u8 z
theorem infoB : (Tryz.prog.info? 5).map (fun i => (i.zero, i.size, i.bytes)) = some (some (.int .u8 0), 1, 1) := by kernel_rfl
/-- A row of bytes of one's own. -/
def OwnB (w : World) (B : Nat) (v : Value) (xs : List Int) : Prop := w.ownsRow B 5 1 v xs.length (xs.map u8V)
theorem OwnB.slice {w : World} {B : Nat} {v : Value} {xs : List Int} (h : OwnB w B v xs) : ∃ A c, v = .slice A xs.length c := ownsRow_slice h
theorem OwnB.nil (w : World) (B : Nat) : OwnB w B (.slice none 0 0) [] := World.ownsRow_nil w B 5 1
theorem OwnB.rd {w : World} {B : Nat} {v : Value} {xs : List Int} (h : OwnB w B v xs) : Rd u8V w (fun _ => True) v xs := (Rd.of_own (f := u8V) (xs := xs) h).mono fun _ _ => trivial
theorem OwnB.stay {w w' : World} {B : Nat} {v : Value} {xs : List Int} (h : OwnB w B v xs) (hb : Below w.heap.size w w') : OwnB w' B v xs :=
  World.ownsRow.kept h ⟨hb.os, hb.tape, hb.output, hb.size, fun k hk _ => hb.block k hk⟩ (Classical.em _)
/-- What a call that makes a row grow leaves as it was. -/
structure Gr (w w' : World) (v v' : Value) : Prop where
  g : w.grownBy w' v.ownBlock
  f : ∀ b, v'.ownBlock = some b → v.ownBlock = some b ∨ w.heap.size ≤ b
theorem Gr.refl (w : World) (v : Value) : Gr w w v v := ⟨⟨rfl, rfl, rfl, Nat.le_refl _, fun _ _ _ => rfl⟩, fun b h => .inl h⟩
theorem Gr.trans {a b c : World} {v v' v'' : Value} (h : Gr a b v v') (k : Gr b c v' v'') : Gr a c v v'' := by
  refine ⟨⟨k.g.os.trans h.g.os, k.g.tape.trans h.g.tape, k.g.output.trans h.g.output, Nat.le_trans h.g.size k.g.size, fun q hq hne => ?_⟩, fun q hq => ?_⟩
  · refine (k.g.block q (Nat.lt_of_lt_of_le hq h.g.size) fun e => ?_).trans (h.g.block q hq hne)
    rcases h.f q e.symm with h1 | h1
    · exact hne h1.symm
    · omega
  · rcases k.f q hq with h1 | h1
    · exact h.f q h1
    · have := h.g.size; exact .inr (by omega)
theorem Gr.below {w w' : World} {v v' : Value} {B : Nat} (h : Gr w w' v v') (hB : B ≤ w.heap.size) (hv : ∀ k, v.ownBlock = some k → B ≤ k) : Below B w w' :=
  ⟨h.g.os, h.g.tape, h.g.output, h.g.size, fun k hk => h.g.block k (by omega) (fun e => by have := hv k e.symm; omega)⟩
theorem Gr.alloc {w w' : World} {v v' : Value} {o : Obj} (h : Gr (w.alloc o) w' v v') : Gr w w' v v' := by
  refine ⟨⟨h.g.os, h.g.tape, h.g.output, ?_, fun q hq hne => ?_⟩, fun q hq => ?_⟩
  · have := h.g.size; simp at this; omega
  · refine (h.g.block q (by simp; omega) hne).trans ?_
    exact ((Below.refl w.heap.size w).alloc (Nat.le_refl _) o).block q hq
  · rcases h.f q hq with h1 | h1
    · exact .inl h1
    · right; simp at h1; omega
/-- The row grows by a byte. -/
theorem wpList_pushB {w w1 : World} {ops : Array Oper} {rest : List Oper} {o : Oper} {a : Act} {Q : Exit → Act → World → Prop} {B : Nat} {v : Value} {xs : List Int} {z : Int} {n : Nat} (hgd : o.guard = none) (s y : Operand)
    (ho : o.op = .call { callee := .builtin .append, args := #[s, y], argTypes := #[72, 72] }) (hs : a.eval s = v) (hw : w = w1.alloc (.cells #[.int .u8 z] 5)) {p c : Nat} (hp : p = w1.heap.size) (hy : a.eval y = .slice (some ⟨p, 0, none⟩) 1 c)
    (hn : xs.length = n) (hown : OwnB w1 B v xs) (hl : n ≤ 100000) (hB : B ≤ w1.heap.size)
    (h : ∀ A c w', OwnB w' B (.slice A (n + 1) c) (xs ++ [z]) → Gr w1 w' v (.slice A (n + 1) c) → wpList Tryz.prog ops Q rest (a.put o.dst (.slice A (n + 1) c)) w') : wpList Tryz.prog ops Q (o :: rest) a w := by
  subst hw hp hn
  obtain ⟨i0, hi0, hz0, hz1, hz2⟩ := info_parts infoB
  have hown1 := World.ownsRow.alloc hown (.cells #[.int .u8 z] 5)
  refine wpList_append_fresh hgd s y 72 ho B 5 i0 (.int .u8 0) 1 1 Tryz.underlying72 hi0 hz0 hz1 hz2 rfl (by decide) v xs.length (xs.map u8V) hs hown1 ⟨w1.heap.size, 0, none⟩ 1 c [.int .u8 z] hy rfl
    (cells_new w1 #[.int .u8 z] 5 (0, 0)) (fun u hu => by rw [List.mem_singleton.1 hu]; rfl) (by unfold maxLen; omega) (by omega) (by simp; omega) fun v' w' h2 h3 h4 => ?_
  obtain ⟨A, c', rfl⟩ := ownsRow_slice h2
  refine h A c' w' (by unfold OwnB; rw [List.length_append, List.map_append]; exact h2) (Gr.alloc (o := .cells #[.int .u8 z] 5) ⟨h3, h4⟩)
/-- The last bytes of a number, the most significant one first. -/
def numB (n : Int) (size : Nat) : List Int := (List.range size).map fun k => n / 2 ^ (8 * (size - 1 - k)) % 256
theorem numB_len (n : Int) (size : Nat) : (numB n size).length = size := by unfold numB; simp
theorem numB_take (n : Int) (size : Nat) {k : Nat} (hk : k < size) : (numB n size).take (k + 1) = (numB n size).take k ++ [n / 2 ^ (8 * (size - 1 - k)) % 256] := by
  refine take_snoc? ?_
  unfold numB
  rw [List.getElem?_map, List.getElem?_range hk]; rfl
set_option maxRecDepth 100000 in
set_option maxHeartbeats 4000000 in
theorem number_any (B : Nat) (v : Value) (xs : List Int) (n : Int) (size : Nat) (w : World) (h : OwnB w B v xs) (hB : B ≤ w.heap.size) (hs : size ≤ 4) (hn : 0 ≤ n ∧ n < 4294967296) (hl : xs.length ≤ 90000) :
    Calls Tryz.prog 133 #[v, .int .u32 n, .int .i64 (size : Int)] w fun e w' => ∃ v', e = .returned v' ∧ OwnB w' B v' (xs ++ numB n size) ∧ Gr w w' v v' := by
  obtain ⟨A, c, rfl⟩ := h.slice
  have HO0 := Lib.hid h
  have HBB := Lib.hid hB
  obtain ⟨m, hm⟩ : ∃ m, m = xs.length := ⟨_, rfl⟩
  have HM := Lib.hid hm
  have HN := Lib.hid hn
  rw [← hm] at HO0 hl ⊢
  have hw1 : IntKind.i64.wrap ((size : Int) - 1) = (size : Int) - 1 := IntWalk.i64_in _ (by omega)
  clear h hB hm hn
  go_enter Tryz.func133, Tryz.ntmps133
  go_wp2_with fail
  go_loopw [0, 7] (fun bv iv wr => ∃ (k : Nat) (A' : Option Addr) (c' : Nat), k ≤ size ∧ bv = .slice A' (m + k) c' ∧ iv = .int .i64 ((size : Int) - 1 - k) ∧ Hid (OwnB wr B (.slice A' (m + k) c') (xs ++ (numB n size).take k)) ∧ Hid (Gr w wr (.slice A m c) (.slice A' (m + k) c'))) (fun _ iv _ => (intOf iv + 1).toNat)
  case atStart => exact ⟨0, A, c, Nat.zero_le _, rfl, by simp, by show OwnB _ _ _ _; simpa using HO0.out, Gr.refl _ _⟩
  case round =>
    obtain ⟨k, A', c', hk, rfl, rfl, HO, HG⟩ := hrel
    by_cases hlt : k < size
    · obtain ⟨i, hi⟩ : ∃ i : Nat, i = size - 1 - k := ⟨_, rfl⟩
      have hi2 : (size : Int) - 1 - k = (i : Int) := by omega
      have HTK := Lib.hid (numB_take n size hlt)
      rw [← hi] at HTK
      rw [hi2]
      have HI := Lib.hid hi
      have hge : ¬ ((i : Int) < 0) := by omega
      have hib : i ≤ 3 := by omega
      have hw8 : IntKind.i64.wrap (8 * (i : Int)) = 8 * (i : Int) := IntWalk.i64_in _ (by omega)
      have hwi : IntKind.i64.wrap ((i : Int) - 1) = (i : Int) - 1 := IntWalk.i64_in _ (by omega)
      have HLK : Hid ((xs ++ (numB n size).take k).length = m + k) := by show _ = _; rw [List.length_append, List.length_take, numB_len, HM.out]; omega
      have HSZ : Hid (B ≤ wr.heap.size) := Nat.le_trans HBB.out HG.out.g.size
      have HL : Hid (m + k ≤ 100000) := by show _ ≤ _; omega
      clear hi hi2
      go_wp2_with (at_builtin; refine wpList_pushB rfl _ _ rfl rfl rfl rfl rfl HLK.out HO.out HL.out HSZ.out ?_; intro A5 c5 w5 HO5 HG5; replace HO5 := Lib.hid HO5; replace HG5 := Lib.hid (HG.out.trans HG5))
      go_roundw
      case rel => exact ⟨k + 1, A5, c5, by omega, by rw [Nat.add_assoc], by have := HI.out; first | rfl | (congr 1; omega), by rw [HTK.out, ← List.append_assoc, ← Nat.add_assoc]; exact HO5.out, by rw [← Nat.add_assoc]; exact HG5.out⟩
      case measure => simp [intOf]
    · obtain rfl : k = size := by omega
      have HF : Hid ((numB n k).take k = numB n k) := List.take_of_length_le (by rw [numB_len]; exact Nat.le_refl _)
      rw [HF.out] at HO
      have hlt0 : ((k : Int) - 1 - k) < 0 := by omega
      go_wp2_with fail
      go_ret
      exact ⟨_, rfl, HO.out, HG.out⟩
/-- The two halves of the check sum. -/
def sumStep (p : Int × Int) (c : Int) : Int × Int := ((p.1 + c) % 65521, (p.2 + (p.1 + c) % 65521) % 65521)
def sumXY (l : List Int) : Int × Int := l.foldl sumStep (1, 0)
theorem sumXY_snoc (l : List Int) (c : Int) : sumXY (l ++ [c]) = sumStep (sumXY l) c := by unfold sumXY; rw [List.foldl_append]; rfl
def sumL (l : List Int) : Int := (sumXY l).2 * 65536 + (sumXY l).1
theorem sumXY_small (l : List Int) : (0 ≤ (sumXY l).1 ∧ (sumXY l).1 < 65521) ∧ 0 ≤ (sumXY l).2 ∧ (sumXY l).2 < 65521 := by
  rcases List.eq_nil_or_concat l with rfl | ⟨l, c, rfl⟩
  · exact ⟨⟨by decide, by decide⟩, by decide, by decide⟩
  · rw [List.concat_eq_append, sumXY_snoc]
    unfold sumStep
    dsimp only
    omega
theorem sumL_small (l : List Int) : 0 ≤ sumL l ∧ sumL l < 4294967296 := by
  have := sumXY_small l
  unfold sumL
  omega
set_option maxRecDepth 100000 in
set_option maxHeartbeats 4000000 in
theorem sum_any (v : Value) (xs : List Int) (w : World) (h : Rd u8V w (fun _ => True) v xs) (hx : ∀ x ∈ xs, 0 ≤ x ∧ x < 256) :
    Calls Tryz.prog 134 #[v] w fun e w' => e = .returned (.int .u32 (sumL xs)) ∧ w' = w := by
  obtain ⟨A, n, cap, rfl, hn, hcap, hmax, hc⟩ := Rd.open_ h
  have HX := Lib.hid hx
  have HC := Lib.hid hc
  have HN := Lib.hid hn
  have HSM := Lib.hid sumXY_small
  clear h hx hc hn
  go_enter Tryz.func134, Tryz.ntmps134
  go_wp2_with fail
  go_loop [3, 4, 6, 9] (fun xv yv _ iv => ∃ (k : Nat) (x y : Int), k ≤ n ∧ xv = .int .u32 x ∧ yv = .int .u32 y ∧ iv = .int .i64 (k : Int) ∧ Hid (sumXY (xs.take k) = (x, y))) (fun _ _ _ iv => n - (intOf iv).toNat)
  case atStart => exact ⟨0, 1, 0, Nat.zero_le _, rfl, rfl, rfl, rfl⟩
  case round =>
    obtain ⟨k, x, y, hk, rfl, rfl, rfl, HS⟩ := hrel
    have hsm := HSM.out (xs.take k)
    rw [HS.out] at hsm
    obtain ⟨⟨hx0, hx1⟩, hy0, hy1⟩ := hsm
    replace hx0 : 0 ≤ x := hx0
    replace hx1 : x < 65521 := hx1
    replace hy0 : 0 ≤ y := hy0
    replace hy1 : y < 65521 := hy1
    by_cases hlt : k < n
    · obtain ⟨b, off, z, rfl, -, hz, hcz⟩ := HC.out k hlt
      obtain ⟨hz0, hz1⟩ := HX.out z (List.mem_of_getElem? hz)
      replace hcz : w.cell? ⟨b, off + k, none⟩ = some (.int .u8 z) := hcz
      have h1 : IntKind.u32.wrap z = z := IntWalk.u32_in _ (by omega)
      have h2 : IntKind.u32.wrap (x + z) = x + z := IntWalk.u32_in _ (by omega)
      obtain ⟨q, hq⟩ : ∃ q, q = (x + z) % 65521 := ⟨_, rfl⟩
      have h3 : (x + z).tmod 65521 = q := by rw [hq, Int.tmod_eq_emod_of_nonneg (by omega)]
      have hq2 : 0 ≤ q ∧ q < 65521 := by omega
      have h4 : IntKind.u32.wrap q = q := IntWalk.u32_in _ (by omega)
      have h5 : IntKind.u32.wrap (y + q) = y + q := IntWalk.u32_in _ (by omega)
      obtain ⟨r, hr⟩ : ∃ r, r = (y + q) % 65521 := ⟨_, rfl⟩
      have h6 : (y + q).tmod 65521 = r := by rw [hr, Int.tmod_eq_emod_of_nonneg (by omega)]
      have h7 : IntKind.u32.wrap r = r := IntWalk.u32_in _ (by omega)
      have HS1 : Hid (sumXY (xs.take (k + 1)) = (q, r)) := by
        show _ = _
        rw [take_snoc? hz, sumXY_snoc, HS.out]
        show ((x + z) % 65521, (y + (x + z) % 65521) % 65521) = _
        rw [← hq, ← hr]
      clear hz hz0 hz1 hq hr hq2 hx0 hx1 hy0 hy1
      go_wp2_with fail
      go_round
      case rel => exact ⟨k + 1, q, r, by omega, rfl, rfl, by go_num, HS1⟩
      case measure => simp [intOf]; omega
    · obtain rfl : k = n := by omega
      have hb : bits .or .u32 (y * 65536) x = y * 65536 + x := bits_join .u32 32 (by decide) wraps_u32 16 _ _ (by omega) (by omega) (by omega) (by omega) (by omega) (by omega)
      have HE : Hid (sumL xs = y * 65536 + x) := by
        have h := HS.out
        rw [List.take_of_length_le (by rw [HN.out]; exact Nat.le_refl _)] at h
        show _ = _
        unfold sumL
        rw [h]
      go_wp2_with fail
      go_ret
      exact ⟨by rw [HE.out]; rfl, rfl⟩
end Go.Proofs.YtfondpakbiagjaaGreatDoor
