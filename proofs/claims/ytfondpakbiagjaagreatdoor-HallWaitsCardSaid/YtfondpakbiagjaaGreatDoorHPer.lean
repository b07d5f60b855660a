/- The walk of perform: tyres are built. -/
import Derived.Test.YtfondpakbiagjaaGreatDoorHSor
namespace Go.Proofs.YtfondpakbiagjaaGreatDoor
open Go.RowKit Go.Lib
set_option linter.unusedVariables false
set_option linter.unusedSimpArgs false
set_option maxRecDepth 100000
set_option maxHeartbeats 4000000
/-- Tyres that were just built. -/
def newT (f : Int) : Nat → List TyD
  | 0 => []
  | k + 1 => newT f k ++ [⟨f + k, 1⟩]
theorem newT_len (f : Int) : ∀ k, (newT f k).length = k
  | 0 => rfl
  | k + 1 => by simp [newT, newT_len f k]
theorem newT_mem {f : Int} : ∀ {k : Nat} {p : TyD}, p ∈ newT f k → f ≤ p.id ∧ p.id < f + k
  | 0, p, h => by simp [newT] at h
  | k + 1, p, h => by
    simp only [newT, List.mem_append, List.mem_singleton] at h
    rcases h with h | rfl
    · have := newT_mem h; omega
    · simp; omega
theorem SortT.snoc {T : List TyD} {p : TyD} (h : SortT T) (hp : ∀ q ∈ T, q.id ≤ p.id) : SortT (T ++ [p]) := by
  intro j k x y hjk hx hy
  by_cases hk : k < T.length
  · rw [List.getElem?_append_left hk] at hy
    rw [List.getElem?_append_left (by omega)] at hx
    exact h j k x y hjk hx hy
  · have hk' : k = T.length := by have := (List.getElem?_eq_some_iff.1 hy).1; simp at this; omega
    subst hk'
    rw [List.getElem?_append_right (Nat.le_refl _), Nat.sub_self] at hy
    obtain rfl : p = y := by simpa using hy
    by_cases hj : j < T.length
    · rw [List.getElem?_append_left hj] at hx
      exact hp x (List.mem_of_getElem? hx)
    · have : j = T.length := by omega
      subst this
      rw [List.getElem?_append_right (Nat.le_refl _), Nat.sub_self] at hx
      obtain rfl : p = x := by simpa using hx
      exact Int.le_refl _
theorem sort_new {T : List TyD} {f : Int} (h : SortT T) (hT : ∀ q ∈ T, q.id < f) : ∀ k, SortT (T ++ newT f k)
  | 0 => by simpa [newT] using h
  | k + 1 => by
    rw [newT, ← List.append_assoc]
    refine (sort_new h hT k).snoc fun q hq => ?_
    rcases List.mem_append.1 hq with hq | hq
    · have := hT q hq; show q.id ≤ f + k; omega
    · have := newT_mem hq; show q.id ≤ f + k; omega
theorem HallIs.stay {w w' : World} {hb : Nat} {tv jv : Value} {T : List TyD} {J : List Int} (h : HallIs w hb tv jv T J) (hB : Below w.heap.size w w') : HallIs w' hb tv jv T J :=
  ⟨blk_below h.blk hB, h.ty.below hB, h.jo.stay hB, h.tn, h.sep⟩
theorem wpList_pushTy {w w1 : World} {B : Nat} {ops : Array Oper} {rest : List Oper} {o : Oper} {a : Act} {Q : Exit → Act → World → Prop} {v : Value} {T : List TyD} {p : TyD} (hgd : o.guard = none) (s y : Operand)
    (ho : o.op = .call { callee := .builtin .append, args := #[s, y], argTypes := #[119, 119] }) (hs : a.eval s = v) (hw : w = w1.alloc (.cells (tyC p).toArray 184)) {q : Nat} (hy : a.eval y = .slice (some ⟨q, 0, none⟩) 1 1) (hq : q = w1.heap.size)
    (hown : OwnTy w1 B v T) (hl : T.length ≤ 1000) (hB : B ≤ w1.heap.size)
    (h : ∀ v' w', OwnTy w' B v' (T ++ [p]) → Below B w1 w' → wpList Tryz.prog ops Q rest (a.put o.dst v') w') : wpList Tryz.prog ops Q (o :: rest) a w := by
  subst hw hq
  obtain ⟨i0, hi0, hz0, hz1, hz2⟩ := info_parts infoT
  have hown1 := World.ownsRow.alloc hown (.cells (tyC p).toArray 184)
  refine wpList_plain hgd fun K hK => ?_
  obtain ⟨v', w', hrun, h4, h3, _⟩ := append_fresh (P := Tryz.prog) (w1.alloc (.cells (tyC p).toArray 184)) B 119 o.type 184 i0 _ 18 144 Tryz.underlying119 hi0 hz0 hz1 hz2 rfl (by decide) v _ _ hown1 ⟨w1.heap.size, 0, none⟩ 1 1 (tyC p) rfl
    (cells_new w1 (tyC p).toArray 184 (0, 0)) (fun u hu => tyC_one (T := [p]) u (by simpa using hu)) (by unfold maxLen; omega) (by omega) (by simp; omega)
  unfold Oper.wp
  simp [execOp, ho, resolve, invoke, builtin, hs, hy, hrun, Result.andThen]
  refine hK _ _ (h v' w' ?_ ?_)
  · unfold OwnTy
    rw [List.flatMap_append, List.length_append]
    simpa using h4
  · exact ((Below.refl _ w1).alloc hB _).grown h3 (by simp; omega) (fun k hk => (World.ownsRow.lt hown k hk).1)
theorem grown_set {w w' : World} {hb : Nat} {u : Value} {i : Nat} (h : Below w.heap.size w w') : w.grownBy (w'.setCell ⟨hb, i, none⟩ u) (some hb) :=
  ⟨h.os, h.tape, h.output, by have := h.size; simp; omega, fun k hk hne => by rw [Below.heap_setCell w' ⟨hb, i, none⟩ u k (fun e => hne (by rw [e]))]; exact h.block k hk⟩
/-- The hall takes another row of tyres. -/
theorem OwnTy.block {w : World} {B n c : Nat} {ad : Addr} {X : List TyD} (h : OwnTy w B (.slice (some ad) n c) X) : B ≤ ad.block := by
  rcases h.2 with ⟨h', _⟩ | ⟨g', cap', cur, h', hb', _⟩
  · cases h'
  · injection h' with h'; injection h' with h'; subst h'; exact hb'
theorem HallIs.take {w w' : World} {hb B : Nat} {tv jv v : Value} {T X : List TyD} {J : List Int} (h : HallIs w hb tv jv T J) (hB : Below w.heap.size w w') (hv : OwnTy w' B v X) (hlt : w.heap.size ≤ B) : HallIs (w'.setCell ⟨hb, 1, none⟩ v) hb v jv X J := by
  have hh := blk_lt h.blk
  refine ⟨by have := blk_set (i := 1) v (blk_below h.blk hB); simpa using this, OwnTy.rd (B := B) (ownsRow_setCell_below hv (by exact Nat.lt_of_lt_of_le hh hlt) _), ownsRow_setCell_below (h.jo.stay hB) (Nat.lt_succ_self _) _, fun ad n c e => ?_, fun _ ad n c k e hk => ?_⟩
  · subst e; have := hv.block; omega
  · subst e; have := hv.block; have := (World.ownsRow.lt h.jo k hk).2; omega
theorem perform_build (hb : Nat) (tv jv : Value) (T : List TyD) (J : List Int) (a : ActD) (t : ByteArray) (w : World) (h : HallIs w hb tv jv T J) (hs : SortT T) (hT : ∀ q ∈ T, q.id < a.from_) (hk : a.kind = 2) (hf : FitsD a)
    (hl : T.length + (a.to_ - a.from_).toNat + 1 ≤ 12) :
    Calls Tryz.prog 107 #[.pointer (some ⟨hb, 0, none⟩), actV a t] w fun e w' => e = .returned (.int .i64 0) ∧ (∃ tv', HallIs w' hb tv' jv (T ++ newT a.from_ ((a.to_ - a.from_).toNat + 1)) J) ∧ w.grownBy w' (some hb) := by
  obtain ⟨k, f, u, n⟩ := a
  obtain rfl : k = 2 := hk
  have hff := hf
  obtain ⟨f1, f2, f3, f4, k6, k4⟩ := hf
  replace f1 : 1 ≤ f := f1
  replace f2 : f ≤ u := f2
  replace f3 : u - f < 64 := f3
  replace f4 : u ≤ 1000000 := f4
  replace hl : T.length + (u - f).toNat + 1 ≤ 12 := hl
  dsimp only
  obtain ⟨m, hm⟩ : ∃ m, m = (u - f).toNat := ⟨_, rfl⟩
  have HM2 := Lib.hid hm
  have HMU : Hid (u = f + (m : Int)) := by show _ = _; omega
  rw [← hm] at hl ⊢
  have HL := Lib.hid hl
  clear hm
  obtain ⟨W1, HW1, HB1, HS1, j1⟩ := st_al0 w #[.int .i64 2, .int .i64 f, .int .i64 u, .int .i64 n, .string t, .slice none 0 0] 154
  have HH := Lib.hid h
  have HJ := Lib.hid j1
  have HC : Hid (∀ W, Below W1.heap.size W1 W → W.cell? ⟨w.heap.size, 0, none⟩ = some (.int .i64 2)) := fun W hW => kC (kB HB1 hW) 0 rfl
  have c0 := kC HB1 0 rfl
  have HF := Lib.hid (fun W => fits_ok ⟨2, f, u, n⟩ t W hff)
  have HS := Lib.hid hs
  have HT : Hid (∀ q ∈ T, q.id < f) := hT
  clear h hs hT hff k6 k4 j1
  show Calls _ _ #[_, .agg #[.int .i64 2, .int .i64 f, .int .i64 u, .int .i64 n, .string t, .slice none 0 0]] _ _
  go_enter Tryz.func107, Tryz.ntmps107
  go_wp2_with fail
  rw [← HW1.out]
  go_wp2_with fail
  refine seq_start (S := fun w' => w'.cell? ⟨w.heap.size, 0, none⟩ = some (.int .i64 2)) (by kernel_rfl) (by kernel_rfl) (by exact c0) ?_
  repeat (first | refine tk0 (h := ?_) | refine tkG (h := ?_) | refine skG (h := ?_))
  repeat (refine seq_swap ?_; first | refine tk0 (h := ?_) | refine tkG (h := ?_) | refine skG (h := ?_))
  refine sop (h := fun K9 hK9 => ?_)
  go_simp
  refine (changes_any _).mono ?_
  rintro e w2 ⟨rfl, hm, j2⟩
  have J2 : Hid (Below W1.heap.size W1 w2) := ((Below.refl _ W1).drew).trans j2
  refine ckk hK9 (HC.out _ J2.out) (h := ?_)
  clear hK9 K9 j2
  replace hm : w2.ownsMap Tryz.prog 3 fnR W1.heap.size 8 chD := hm
  obtain ⟨v, hlk⟩ := look_none hm 2 (by decide) at_build
  clear hm
  repeat (first | refine tk0 (h := ?_) | refine tkG (h := ?_) | refine skG (h := ?_))
  refine sop (h := fun K9 hK9 => ?_)
  go_simp
  refine ckk hK9 (HC.out _ J2.out) (h := ?_)
  clear hK9 K9
  repeat (first | refine tk0 (h := ?_) | refine tkG (h := ?_) | refine skG (h := ?_))
  refine seq_done (by kernel_rfl) ?_
  clear hlk
  replace HB1 := kB HB1 J2.out
  replace HJ := kU HJ J2.out
  clear c0 HC HS1 J2 HW1
  have c0 := kC HB1 0 rfl
  have c1 := kC HB1 1 rfl
  have c2 := kC HB1 2 rfl
  have c3 := kC HB1 3 rfl
  have c4 := kC HB1 4 rfl
  have c5 := kC HB1 5 rfl
  go_wp2_with fail
  refine (HF.out _).mono ?_
  rintro e w3 ⟨rfl, j3⟩
  replace HB1 := kB HB1 j3
  replace HJ := kU HJ j3
  have HH3 := Lib.hid (HH.out.stay HJ.out)
  have d1 := kC (cs := [.slice none 0 0, tv, jv]) (Lib.hid HH3.out.blk) 1 rfl
  clear c0 c1 c2 c3 c4 c5 j3 HF
  have HL2 := klt HB1
  obtain ⟨A0, cap0, e0, -, -⟩ := HH.out.ty.at
  have HCL := Lib.hid (cloneT_own tv T w3 HH3.out.ty (by omega))
  rw [e0] at d1 HCL
  go_wp2_with fail
  refine HCL.out.mono ?_
  rintro e w4 ⟨⟨v', rfl, hv'⟩, j4⟩
  replace HB1 := kB HB1 j4
  replace HJ := kU HJ j4
  have HO : Hid (OwnTy w4 w3.heap.size v' T) := hv'
  obtain ⟨B, hB⟩ : ∃ B, B = w3.heap.size := ⟨_, rfl⟩
  rw [← hB] at HO
  have HL3 : Hid (w.heap.size < B ∧ B ≤ w4.heap.size) := ⟨by rw [hB]; exact HL2.out, by rw [hB]; exact j4.size⟩
  clear j4 d1 HH3 HCL hv' HL2 hB
  have HN0 : Hid (∀ id, f ≤ id → ∀ i, hasAt T id i = false) := fun id hid i => by
    unfold hasAt
    refine decide_eq_false ?_
    rintro ⟨p, hp, hq⟩
    have := HT.out p (List.mem_of_getElem? hp)
    omega
  have c1 := kC HB1 1 rfl
  obtain ⟨A4, cap4, rfl⟩ := HO.out.slice
  go_wp2_with fail
  go_loopw [10, 11] (fun tvv iv wr => ∃ (k : Nat) (X : List TyD) (v : Value), Hid (X = T ++ newT f k) ∧ k ≤ m + 1 ∧ iv = .int .i64 (f + (k : Int)) ∧ tvv = v ∧ Hid (OwnTy wr B v X) ∧ Hid (Below w.heap.size w wr) ∧ Hid (wr.heap[w.heap.size]? = some (.cells #[.int .i64 2, .int .i64 f, .int .i64 u, .int .i64 n, .string t, .slice none 0 0] 154 (0, 0))) ∧ Hid (B ≤ wr.heap.size)) (fun _ iv _ => (u + 1 - RowKit.intOf iv).toNat)
  case atStart => exact ⟨0, T, _, by show _ = _; simp [newT], Nat.zero_le _, by simp, rfl, HO.out, HJ.out, HB1.out, HL3.out.2⟩
  case round =>
    clear HO HJ HB1 c1
    obtain ⟨k, X, v, HX, hk, rfl, rfl, HO, HJ, HB1, HBS⟩ := hrel
    have c0 := kC HB1 0 rfl
    have c2 := kC HB1 2 rfl
    obtain ⟨A5, cap5, rfl⟩ := HO.out.slice
    by_cases hlt : k ≤ m
    · have hle : f + (k : Int) ≤ u := by have := HMU.out; omega
      have HFI := Lib.hid (find_any hb tv jv T J (f + k) wr (HH.out.stay HJ.out) HS.out (by omega))
      go_wp2_with fail
      refine HFI.out.mono ?_
      rintro e w5 ⟨⟨i, rfl, -⟩, j5⟩
      rw [HN0.out (f + k) (by omega) i]
      replace HO : Hid (OwnTy w5 B (.slice A5 X.length cap5) X) := HO.out.stay j5
      replace HB1 := kB HB1 j5
      replace HJ := kU HJ j5
      replace HBS : Hid (B ≤ w5.heap.size) := Nat.le_trans HBS.out j5.size
      have HLN : Hid (X.length ≤ 1000) := by show _ ≤ _; rw [HX.out, List.length_append, newT_len]; have := HL.out; omega
      clear j5 HFI c0 c2
      go_wp2_with (at_builtin; refine wpList_pushTy (p := ⟨f + k, 1⟩) rfl _ _ rfl (by rfl) (by rfl) (by rfl) (by rfl) HO.out HLN.out HBS.out ?_; intro v6 w6 hown6 hb6)
      have HLB : Hid (w.heap.size < B) := HL3.out.1
      go_roundw
      case rel =>
        refine ⟨k + 1, _, _, ?_, by omega, by congr 1; omega, rfl, hown6, ?_, ?_, ?_⟩
        · show _ = _; rw [HX.out]; simp [newT]
        · exact HJ.out.trans (hb6.mono (Nat.le_of_lt HLB.out))
        · exact (hb6.block _ HLB.out).trans HB1.out
        · exact Nat.le_trans HBS.out hb6.size
      case measure => have := HMU.out; simp [RowKit.intOf]; omega
    · obtain rfl : k = m + 1 := by omega
      have hle : ¬ f + ((m + 1 : Nat) : Int) ≤ u := by have := HMU.out; omega
      have HXL : Hid (X.length ≤ 12) := by show _ ≤ _; rw [HX.out, List.length_append, newT_len]; exact HL.out
      have hx2 : ¬ 256 < (X.length : Int) := by have := HXL.out; omega
      have HSX : Hid (SortT X) := by show SortT X; rw [HX.out]; exact sort_new HS.out HT.out _
      have HSO := Lib.hid (sortSorted_any (.slice A5 X.length cap5) X wr HO.out.rd HSX.out HXL.out)
      go_wp2_with fail
      refine HSO.out.mono ?_
      rintro e w7 ⟨⟨v7, rfl⟩, j7⟩
      replace HO : Hid (OwnTy w7 B (.slice A5 X.length cap5) X) := HO.out.stay j7
      replace HJ := kU HJ j7
      have HHB : Hid (hb < w.heap.size) := blk_lt HH.out.blk
      have HBK := Lib.hid (blk_below HH.out.blk HJ.out)
      have d1 := kC (cs := [.slice none 0 0, tv, jv]) HBK 1 rfl
      have d2 := kF HBK 1
      clear j7 HSO c0 c2
      go_wp2_with fail
      go_ret
      exact ⟨rfl, ⟨_, by rw [← HX.out]; exact HH.out.take HJ.out HO.out (Nat.le_of_lt HL3.out.1)⟩, grown_set HJ.out⟩
end Go.Proofs.YtfondpakbiagjaaGreatDoor
