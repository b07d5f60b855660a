/- The walk of slices.SortFunc on a row of tyres that is sorted already. -/
import Derived.Test.YtfondpakbiagjaaGreatDoorHClo
import Derived.Test.YtfondpakbiagjaaGreatDoorShelf
namespace Go.Proofs.YtfondpakbiagjaaGreatDoor
open Go.RowKit Go.Lib
set_option linter.unusedVariables false
set_option linter.unusedSimpArgs false
set_option maxRecDepth 100000
set_option maxHeartbeats 4000000
section
variable {P : Program} {ops : Array Oper} {rest : List (Nat × Oper)} {a b : Act} {Q : Exit → Act → World → Prop} {S : World → Prop}
/-- A load of many cells, by the range that S gives. -/
theorem tkMh {i : Nat} {o : Oper} {w : World} (ty : TypeId) (x : Operand) (bk of : Nat) (cs : List Value) (d : TypeDesc) (hS : ∀ w, S w → w.rangeAt bk of cs) (hu : P.underlying ty = some d) (hd : d.isRow = true) (hi : (P.info? ty).map (·.size) = some cs.length)
    (ho : o.op = .load ty x := by rfl) (hx : a.eval x = .pointer (some ⟨bk, of, none⟩) := by rfl) (hw : Region.wanted o (yielded ops a.tmps) = true := by rfl) (hQ : ∀ c a w, Q (.panic c) (a.put o.dst (.agg cs.toArray)) w → Q (.panic c) a w := by exact fun _ _ _ h => h) (hok : okTake ops (i, o) rest = true := by kernel_rfl)
    (hb : a.put o.dst (.agg cs.toArray) = b := by first | (simp only [Act.put, List.setIfInBounds_toArray, List.set_cons_zero, List.set_cons_succ]; rfl) | rfl) (h : Seq P ops Q S rest b w) : Seq P ops Q S ((i, o) :: rest) a w := by
  subst hb
  exact seq_yield hQ hok (yieldsIf_load_mid hw ty x ho bk of hx cs d hS hu hd hi) h
end
theorem perf1_any (p q : TyD) (w : World) : Calls Tryz.prog 140 #[.agg (tyC p).toArray, .agg (tyC q).toArray] w fun e w' => e = .returned (.int .i64 (cmpI p.id q.id)) ∧ Below w.heap.size w w' := by
  unfold tyC
  obtain ⟨W1, HW1, HB1, HS1, j1⟩ := st_al0 w #[.int .i64 p.id, .int .i64 p.st, .int .i64 0, .int .i64 0, .int .i64 0, .complex .f32 0 0, .complex .f32 0 0, .complex .f32 0 0, .complex .f32 0 0, .complex .f32 0 0, .complex .f32 0 0, .complex .f32 0 0, .complex .f32 0 0, .complex .f32 0 0, .complex .f32 0 0, .complex .f32 0 0, .complex .f32 0 0, .complex .f32 0 0] 184
  obtain ⟨W2, HW2, HB2, HS2, j2⟩ := st_alk (w := W1) (w0 := w) 1 2 #[.int .i64 q.id, .int .i64 q.st, .int .i64 0, .int .i64 0, .int .i64 0, .complex .f32 0 0, .complex .f32 0 0, .complex .f32 0 0, .complex .f32 0 0, .complex .f32 0 0, .complex .f32 0 0, .complex .f32 0 0, .complex .f32 0 0, .complex .f32 0 0, .complex .f32 0 0, .complex .f32 0 0, .complex .f32 0 0, .complex .f32 0 0] 184 HS1 rfl
  have HJ := Lib.hid (tt j1 j2)
  have c1 := kC (kB HB1 j2) 0 rfl
  have c2 := kC HB2 0 rfl
  have hsz := HS1.out
  clear j1 j2 HS2 HB1 HB2
  go_enter Tryz.func140, Tryz.ntmps140
  go_wp2_with fail
  rw [← HW1.out]
  go_wp2_with fail
  rw [← HW2.out]
  go_wp2_with fail
  refine (compare_any p.id q.id _).mono ?_
  rintro e w1 ⟨rfl, hw⟩
  obtain rfl := hw.symm
  clear hw HW1
  go_wp2_with fail
  go_ret
  exact ⟨rfl, HJ.out⟩
theorem insSorted_any (v : Value) (T : List TyD) (w : World) (h : RdT w v T) (hs : SortT T) (hl : T.length ≤ 12) :
    Calls Tryz.prog 230 #[v, .int .i64 0, .int .i64 T.length, .func (.func 140) #[] #[]] w fun e w' => (∃ v, e = .returned v) ∧ Below w.heap.size w w' := by
  obtain ⟨A, cap, rfl, -, hat⟩ := h.at
  have HA := Lib.hid hat
  have HS := Lib.hid hs
  obtain ⟨n, hn⟩ : ∃ n, n = T.length := ⟨_, rfl⟩
  have HN := Lib.hid hn
  rw [← hn] at hl ⊢
  clear h hat hs hn
  go_enter Tryz.func230, Tryz.ntmps230
  go_wp2_with fail
  go_loopw [8] (fun iv wr => ∃ (i : Nat), 1 ≤ i ∧ (i = 1 ∨ i ≤ n) ∧ iv = .int .i64 (i : Int) ∧ Hid (Below w.heap.size w wr)) (fun iv _ => n - (RowKit.intOf iv).toNat)
  case atStart => exact ⟨1, Nat.le_refl _, .inl rfl, by go_num, Below.refl _ _⟩
  case round =>
    obtain ⟨i, hi1, hi2, rfl, HBw⟩ := hrel
    by_cases hlt : i < n
    · have hlti : (i : Int) < (n : Int) := by omega
      obtain ⟨j, hj⟩ : ∃ j, j = i - 1 := ⟨_, rfl⟩
      obtain ⟨p, hp⟩ : ∃ p, T[i]? = some p := ⟨_, List.getElem?_eq_getElem (by have := HN.out; omega)⟩
      obtain ⟨q, hq⟩ : ∃ q, T[j]? = some q := ⟨_, List.getElem?_eq_getElem (by have := HN.out; omega)⟩
      have hle := HS.out j i q p (by omega) hq hp
      obtain ⟨b, off, rfl, hb, hrg⟩ := HA.out i p hp
      obtain ⟨b', off', hbo, hb', hrg'⟩ := HA.out j q hq
      simp only [Option.some.injEq, Addr.mk.injEq, and_true] at hbo
      obtain ⟨rfl, rfl⟩ := hbo
      have HRG : Hid (w.rangeAt b (off + i * 18) (tyC p) ∧ w.rangeAt b (off + j * 18) (tyC q)) := ⟨hrg, hrg'⟩
      have HLT : Hid (b < w.heap.size) := hb
      have hcv : ¬ cmpI p.id q.id < 0 := by unfold cmpI; split; omega; split <;> omega
      have hji : (0 : Int) < (i : Int) := by omega
      have hjb : decide (0 < i) = true := decide_eq_true (by omega)
      have hwj : IntKind.i64.wrap ((i : Int) - 1) = (j : Int) := by rw [IntWalk.i64_in _ (by omega)]; omega
      have hjn : (j : Int) < (n : Int) := by omega
      have hj0 : (0 : Int) ≤ (j : Int) := by omega
      have HJ := Lib.hid hj
      have HPQ := Lib.hid (fun W => perf1_any p q W)
      obtain ⟨cv, hcc⟩ : ∃ c, c = cmpI p.id q.id := ⟨_, rfl⟩
      rw [← hcc] at hcv HPQ
      clear hp hq hle hrg hrg' hb hb' hj hcc
      go_wp2_with fail
      go_loopw [9] (fun jv wr' => jv = .int .i64 (i : Int) ∧ Hid (Below w.heap.size w wr')) (fun jv _ => (0 : Nat))
      case atStart => exact ⟨rfl, HBw.out⟩
      case round =>
        obtain ⟨rfl, HBv⟩ := hrel
        clear HBw
        have HDW := Lib.hid HBv.out.drew
        have HSX : Hid (∀ w', Hid (Below w.heap.size w w') → w'.rangeAt b (off + i * 18) (tyC p) ∧ w'.rangeAt b (off + j * 18) (tyC q)) := fun w' h =>
          ⟨fun k v hv => (h.out.cell (p := ⟨b, off + i * 18 + k, none⟩) HLT.out).trans (HRG.out.1 k v hv), fun k v hv => (h.out.cell (p := ⟨b, off + j * 18 + k, none⟩) HLT.out).trans (HRG.out.2 k v hv)⟩
        go_wp2_with fail
        refine seq_start (S := fun w' => Hid (Below w.heap.size w w')) (by kernel_rfl) (by kernel_rfl) (by exact HDW) ?_
        repeat (first | refine tk0 (h := ?_) | refine tkG (h := ?_) | refine skG (h := ?_))
        refine tkMh 184 _ b (off + i * 18) (tyC p) _ (fun w' h => (HSX.out w' h).1) Tryz.underlying184 rfl (by kernel_rfl) (h := ?_)
        repeat (first | refine tk0 (h := ?_) | refine tkG (h := ?_) | refine skG (h := ?_))
        refine tkMh 184 _ b (off + j * 18) (tyC q) _ (fun w' h => (HSX.out w' h).2) Tryz.underlying184 rfl (by kernel_rfl) (h := ?_)
        repeat (first | refine tk0 (h := ?_) | refine tkG (h := ?_) | refine skG (h := ?_))
        refine sop (h := fun K9 hK9 => ?_)
        go_simp
        refine (HPQ.out _).mono ?_
        rintro e w2 ⟨rfl, j2⟩
        replace HDW := kU HDW j2
        refine ckk hK9 HDW (h := ?_)
        clear hK9 K9
        repeat (first | refine tk0 (h := ?_) | refine tkG (h := ?_) | refine skG (h := ?_))
        refine seq_done (by kernel_rfl) ?_
        clear j2
        go_wp2_with fail
        go_roundw
        case rel => exact ⟨i + 1, by omega, by omega, by go_num, HDW.out⟩
        case measure => simp [RowKit.intOf]; omega
    · have hlti : ¬ ((i : Int) < (n : Int)) := by omega
      go_wp2_with fail
      go_end0
      exact ⟨⟨_, rfl⟩, HBw.out⟩
theorem pdqSorted_any (v : Value) (T : List TyD) (lim : Int) (w : World) (h : RdT w v T) (hs : SortT T) (hl : T.length ≤ 12) :
    Calls Tryz.prog 188 #[v, .int .i64 0, .int .i64 T.length, .int .i64 lim, .func (.func 140) #[] #[]] w fun e w' => (∃ v, e = .returned v) ∧ Below w.heap.size w w' := by
  have HI := Lib.hid (insSorted_any v T w h hs hl)
  obtain ⟨A, cap, rfl, -, -⟩ := h.at
  obtain ⟨n, hn⟩ : ∃ n, n = T.length := ⟨_, rfl⟩
  rw [← hn] at hl HI ⊢
  have hl2 : (n : Int) ≤ 12 := by omega
  have hw : IntKind.i64.wrap ((n : Int) - 0) = (n : Int) := by rw [IntWalk.i64_in _ (by omega)]; omega
  have hw2 : IntKind.i64.wrap (n : Int) = (n : Int) := IntWalk.i64_in _ (by omega)
  clear h hs hn
  go_enter Tryz.func188, Tryz.ntmps188
  go_wp2_with fail
  go_loopw [1, 2] (fun lo hi wr => lo = .int .i64 0 ∧ hi = .int .i64 (n : Int) ∧ wr = w) (fun lo _ _ => (0 : Nat))
  case atStart => exact ⟨rfl, rfl, rfl⟩
  case round =>
    obtain ⟨rfl, rfl, hwr⟩ := hrel
    obtain rfl := hwr.symm
    clear hwr
    go_wp2_with fail
    refine HI.out.mono ?_
    rintro e w2 ⟨⟨v, rfl⟩, j2⟩
    have HJ := Lib.hid j2
    clear j2 HI
    go_wp2_with fail
    (try simp only [Exit.inBlock, Exit.then])
    refine bodyPost_ret (results_none rfl _ _ _) rfl ?_
    exact ⟨⟨_, rfl⟩, HJ.out⟩
theorem sortSorted_any (v : Value) (T : List TyD) (w : World) (h : RdT w v T) (hs : SortT T) (hl : T.length ≤ 12) :
    Calls Tryz.prog 139 #[v, .func (.func 140) #[] #[]] w fun e w' => (∃ v, e = .returned v) ∧ Below w.heap.size w w' := by
  have HI := Lib.hid (fun lim => pdqSorted_any v T lim w h hs hl)
  obtain ⟨A, cap, rfl, -, -⟩ := h.at
  obtain ⟨n, hn⟩ : ∃ n, n = T.length := ⟨_, rfl⟩
  rw [← hn] at hl HI ⊢
  have hl2 : (n : Int) ≤ 12 := by omega
  have hw2 : IntKind.u64.wrap (n : Int) = (n : Int) := IntWalk.u64_in _ (by omega)
  have HB := Lib.hid (Tryz.bits_Len (n : Int) w (by omega) (by omega))
  obtain ⟨lim, hlim⟩ : ∃ q, q = (Lib.bitLen (n : Int).toNat : Int) := ⟨_, rfl⟩
  rw [← hlim] at HB
  clear h hs hn hlim
  go_enter Tryz.func139, Tryz.ntmps139
  go_wp2_with fail
  refine HB.out.mono ?_
  rintro e w1 ⟨rfl, hw⟩
  obtain rfl := hw.symm
  clear hw HB
  go_wp2_with fail
  refine (HI.out lim).mono ?_
  rintro e w2 ⟨⟨v, rfl⟩, j2⟩
  have HJ := Lib.hid j2
  clear j2 HI
  go_wp2_with fail
  first | go_end0 | go_ret | skip
  exact ⟨⟨_, rfl⟩, HJ.out⟩
end Go.Proofs.YtfondpakbiagjaaGreatDoor
