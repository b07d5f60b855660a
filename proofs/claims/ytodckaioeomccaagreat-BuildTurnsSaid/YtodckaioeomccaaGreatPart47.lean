/- Two rows of pairs that grow side by side; the law's splices. -/
import Derived.Test.YtodckaioeomccaaGreatPart22
import Derived.Test.YtodckaioeomccaaGreatPart05
import Derived.Test.YtodckaioeomccaaGreatPart07
import Derived.Test.YtodckaioeomccaaGreatPart43
namespace Go.Proofs.YtodckaioeomccaaGreat
open Go.RowKit Go.Proofs.TurP
set_option linter.unusedVariables false
set_option linter.unusedSimpArgs false
def spC (x : Sp) : List Value := [.int .i64 x.1, .int .i64 x.2]
theorem spC_one (l : List Sp) : ∀ u ∈ l.flatMap spC, u.oneCell' = true := fun u hu => by
 obtain ⟨x, _, h⟩ := List.mem_flatMap.1 hu
 simp [spC] at h
 rcases h with rfl | rfl <;> rfl
theorem own_rdP {w : World} {B : Nat} {e : TypeId} {n : Nat} {v : Value} {l : List Sp} (h : w.ownsRow B e 2 v n (l.flatMap spC)) : RdP w v l := by
 have hl := flat_len (k := 2) (f := spC) (fun _ => rfl) l
 have hn : l.length = n := by have := h.1; rw [hl] at this; omega
 obtain ⟨A, cap, rfl, h1, h2, h3⟩ := RdK.of_own (f := spC) (k := 2) (fun _ => rfl) h hn
 refine ⟨A, cap, rfl, h1, h2, fun hne => ?_⟩
 obtain ⟨b, off, rfl, _, hc⟩ := h3 hne
 exact ⟨b, off, rfl, fun i x hx => ⟨hc i x hx 0 _ rfl, hc i x hx 1 _ rfl⟩⟩
theorem RdP.cells {w : World} {ad : Addr} {n cap : Nat} {xs : List Sp} (h : RdP w (.slice (some ad) n cap) xs) : ∀ j u, (xs.flatMap spC)[j]? = some u → w.cell? (ad.add j) = some u := by
 obtain ⟨A, c, e, h1, h2, h3⟩ := h
 refine RdK.cells (k := 2) (f := spC) (S := fun _ => True) (n := n) (cap := cap) ⟨A, c, e, h1, h2, fun hne => ?_⟩ (fun _ => rfl) (by decide)
 obtain ⟨b, off, rfl, hc⟩ := h3 hne
 refine ⟨b, off, rfl, trivial, fun i x hx j u hu => ?_⟩
 obtain ⟨c0, c1⟩ := hc i x hx
 match j, hu with
 | 0, hu => simp [spC] at hu; subst hu; exact c0
 | 1, hu => simp [spC] at hu; subst hu; exact c1
abbrev TwoP (B : Nat) (e1 : TypeId) (v1 : Value) (l1 : List Sp) (e2 : TypeId) (v2 : Value) (l2 : List Sp) (G : Nat → Obj → Prop) (W0 W : World) : Prop :=
 TwoO B e1 e2 2 2 v1 l1.length (l1.flatMap spC) v2 l2.length (l2.flatMap spC) G W0 W
theorem infoS1 : (Tryz.prog.info? 125).map (fun i => (i.zero, i.size, i.bytes)) = some (some (.agg #[.int .i64 0, .int .i64 0]), 2, 16) := by kernel_rfl
theorem infoS2 : (Tryz.prog.info? 137).map (fun i => (i.zero, i.size, i.bytes)) = some (some (.agg #[.int .i64 0, .int .i64 0]), 2, 16) := by kernel_rfl
theorem op_pair {o : Oper} {a : Act} {w : World} {K : Act → World → Prop} {Q : Exit → Act → World → Prop} {B : Nat} {e1 e2 : TypeId} {v1 v2 : Value} {l1 l2 : List Sp} {G : Nat → Obj → Prop} {W0 : World} (t : TypeId)
  (ht : Tryz.prog.underlying t = some (.slice e1)) (hi : (Tryz.prog.info? e1).map (fun i => (i.zero, i.size, i.bytes)) = some (some (.agg #[.int .i64 0, .int .i64 0]), 2, 16)) (hg : o.guard = none) (s x : Operand)
  (ho : o.op = .call { callee := .builtin .append, args := #[s, x], argTypes := #[t, t] }) (hs : a.eval s = v1) (bx c : Nat) (y : Sp) (tb : TypeId) (hx : a.eval x = .slice (some ⟨bx, 0, none⟩) 1 c) {n : Nat} (hln : l1.length = n) (hn : n ≤ 1000)
  (hT : TwoP B e1 v1 l1 e2 v2 l2 G W0 w) (hbx : G bx (.cells #[.int .i64 y.1, .int .i64 y.2] tb))
  (h : ∀ A c w', TwoP B e1 (.slice A (n + 1) c) (l1 ++ [y]) e2 v2 l2 G W0 w' → K (a.put o.dst (.slice A (n + 1) c)) w') : Oper.wp Tryz.prog o a w K Q := by
 obtain ⟨i0, hi0, hz0, hz1, hz2⟩ := info_parts hi
 subst hln
 refine step_two1 hg s x t ho B e1 i0 (.agg #[.int .i64 0, .int .i64 0]) 2 16 ht hi0 hz0 hz1 hz2 rfl (by decide) hs bx c #[.int .i64 y.1, .int .i64 y.2] tb hx rfl (fun u hu => ?_) (by omega) (by omega) hT hbx fun v' w' hT' hsl => ?_
 ·simp at hu; rcases hu with rfl | rfl <;> rfl
 ·obtain ⟨A, c, rfl⟩ := hsl
  refine h A c w' ?_
  unfold TwoP
  rw [List.length_append, List.flatMap_append]
  exact hT'
theorem wpList_pair {ops : Array Oper} {rest : List Oper} {o : Oper} {a : Act} {w : World} {Q : Exit → Act → World → Prop} {B : Nat} {e1 e2 : TypeId} {v1 v2 : Value} {l1 l2 : List Sp} {G : Nat → Obj → Prop} {W0 : World} (t : TypeId)
  (ht : Tryz.prog.underlying t = some (.slice e1)) (hi : (Tryz.prog.info? e1).map (fun i => (i.zero, i.size, i.bytes)) = some (some (.agg #[.int .i64 0, .int .i64 0]), 2, 16)) (hg : o.guard = none) (s x : Operand)
  (ho : o.op = .call { callee := .builtin .append, args := #[s, x], argTypes := #[t, t] }) (hs : a.eval s = v1) (bx c : Nat) (y : Sp) (tb : TypeId) (hx : a.eval x = .slice (some ⟨bx, 0, none⟩) 1 c) {n : Nat} (hln : l1.length = n) (hn : n ≤ 1000)
  (hT : TwoP B e1 v1 l1 e2 v2 l2 G W0 w) (hbx : G bx (.cells #[.int .i64 y.1, .int .i64 y.2] tb))
  (h : ∀ A c w', TwoP B e1 (.slice A (n + 1) c) (l1 ++ [y]) e2 v2 l2 G W0 w' → wpList Tryz.prog ops Q rest (a.put o.dst (.slice A (n + 1) c)) w') : wpList Tryz.prog ops Q (o :: rest) a w :=
 wpList_plain hg fun K hK => op_pair t ht hi hg s x ho hs bx c y tb hx hln hn hT hbx fun A c w' hT' => hK _ _ (h A c w' hT')
theorem wpList_pairs {ops : Array Oper} {rest : List Oper} {o : Oper} {a : Act} {w : World} {Q : Exit → Act → World → Prop} {B n : Nat} {v xv : Value} {l m : List Sp} (hg : o.guard = none) (s x : Operand)
  (ho : o.op = .call { callee := .builtin .append, args := #[s, x], argTypes := #[119, 119] }) (hs : a.eval s = v) (hown : w.ownsRow B 125 2 v n (l.flatMap spC)) (hx : a.eval x = xv) (hr : RdP w xv m) {q : Nat} (hq : n + m.length = q)
  (hl : q ≤ 1000) (hB : B ≤ w.heap.size)
  (h : ∀ v' w', w'.ownsRow B 125 2 v' q ((l ++ m).flatMap spC) → Below B w w' → wpList Tryz.prog ops Q rest (a.put o.dst v') w') : wpList Tryz.prog ops Q (o :: rest) a w := by
 subst hq
 obtain ⟨i0, hi0, hz0, hz1, hz2⟩ := info_parts infoS1
 have key : ∃ v' w', (Builtin.append_ #[119, 119] o.type #[v, xv]).run Tryz.prog w = .ok v' w' ∧ w'.ownsRow B 125 2 v' (n + m.length) (l.flatMap spC ++ m.flatMap spC) ∧ w.grownBy w' v.ownBlock := by
  have hr0 := hr
  obtain ⟨A, cap, rfl, hc1, hc2, hc3⟩ := hr
  cases A with
  | none =>
   have hm : m = [] := Classical.byContradiction fun hne => by obtain ⟨b, off, e, _⟩ := hc3 hne; cases e
   subst hm
   obtain ⟨A', c', rfl⟩ : ∃ A c, v = .slice A n c := ownsRow_slice hown
   have hle : n ≤ c' := by
    rcases hown.2 with ⟨e1, e2⟩ | ⟨g, cap, cur, e1, _, _, e2, _⟩
    ·omega
    ·simp only [Value.slice.injEq] at e1; omega
   refine ⟨_, w, run_append_nothing w 119 119 o.type 125 i0 Tryz.underlying119 hi0 A' n c' hle _ (Src.ofNil w Tryz.underlying119 cap), by simpa using hown, ⟨rfl, rfl, rfl, Nat.le_refl _, fun _ _ _ => rfl⟩⟩
  | some ad =>
   obtain ⟨v', w', h1, h2, h3, _⟩ := append_fresh (P := Tryz.prog) w B 119 o.type 125 i0 (.agg #[.int .i64 0, .int .i64 0]) 2 16 Tryz.underlying119 hi0 hz0 hz1 hz2 rfl (by decide) v n _ hown ad m.length cap (m.flatMap spC) (flat_len (f := spC) (k := 2) (fun _ => rfl) m) hr0.cells (spC_one m) (by unfold maxLen; omega) (by omega) hB
   exact ⟨v', w', h1, h2, h3⟩
 obtain ⟨v', w', hrun, h2, h3⟩ := key
 refine wpList_plain hg fun K hK => ?_
 unfold Oper.wp
 simp [execOp, ho, resolve, invoke, builtin, hs, hx, hrun, Result.andThen]
 refine hK _ _ (h v' w' (by rw [List.flatMap_append]; exact h2) ?_)
 exact (Below.refl _ _).grown h3 hB fun g hg => (World.ownsRow.lt hown g hg).1
theorem sp_cells {w : World} {b t : Nat} {p q : Int} (h : w.heap[b]? = some (.cells #[.int .i64 p, .int .i64 q] t (0, 0))) : w.cell? ⟨b, 0, none⟩ = some (.int .i64 p) ∧ w.cell? ⟨b, 1, none⟩ = some (.int .i64 q) := ⟨blk_cell h 0, blk_cell h 1⟩
-- printed by mk_spla.py from here on
set_option maxRecDepth 100000 in
set_option maxHeartbeats 4000000 in
theorem splices_any (v : Value) (xs : List Sp) (w : World) (h : RdP w v xs) (h40 : xs.length ≤ 1000) :
  Calls Tryz.prog 59 #[v] w fun e w' => (∃ va vb, e = .returned (.tuple #[va, vb]) ∧ RdP w' va xs ∧ RdP w' vb xs) ∧ Below w.heap.size w w' := by
 obtain ⟨A, n, cap, rfl, hn, hcap, hmax, hcm, hc⟩ := h.open_
 have HC := h0d hc
 have HN := h0d hn
 have hn4 : n ≤ 1000 := by omega
 have HT0 : Hid (TwoP w.heap.size 125 (.slice none 0 0) (xs.take 0) 137 (.slice none 0 0) (xs.take 0) (fun _ _ => False) w w) := TwoO.bare _ _ _ _ _ _ (Nat.le_refl _)
 clear h hc hn hcm h40
 go_enter Tryz.func59, Tryz.ntmps59
 go_wp2_with fail
 go_loopw [4, 5, 10] (fun sa sb iv wr => ∃ (k : Nat) (va vb : Value), va = sa ∧ vb = sb ∧ k ≤ n ∧ iv = .int .i64 (k : Int) ∧ Hid (TwoP w.heap.size 125 va (xs.take k) 137 vb (xs.take k) (fun _ _ => False) w wr)) (fun _ _ iv _ => n - (intOf iv).toNat)
 case atStart => exact ⟨0, _, _, rfl, rfl, Nat.zero_le _, rfl, HT0⟩
 case round =>
  clear HT0
  obtain ⟨k, va, vb, rfl, rfl, hk, rfl, HT⟩ := hrel
  by_cases hlt : k < n
  ·obtain ⟨b, off, x, rfl, hbw, hx, hc1, hc2⟩ := HC.out k hlt
   have d1 := (HT.out.bel.cell (p := ⟨b, off + k * 2, none⟩) hbw).trans hc1
   have d2 := (HT.out.bel.cell (p := ⟨b, off + k * 2 + 1, none⟩) hbw).trans hc2
   have HTK : Hid (xs.take (k + 1) = xs.take k ++ [x]) := take_snoc? hx
   obtain ⟨p, q⟩ := x
   have HKL : Hid ((xs.take k).length = k) := by show _ = _; rw [List.length_take]; have := HN.out; omega
   have HL : Hid (k ≤ 1000) := by show _ ≤ _; omega
   replace d1 : wr.cell? ⟨b, off + k * 2, none⟩ = some (.int .i64 p) := d1
   replace d2 : wr.cell? ⟨b, off + k * 2 + 1, none⟩ = some (.int .i64 q) := d2
   obtain ⟨A1, c1, e1⟩ := ownsRow_slice HT.out.a
   obtain ⟨A2, c2, e2⟩ := ownsRow_slice HT.out.b
   rw [HKL.out] at e1 e2
   subst e1 e2
   have HT3 := h0d (HT.out.lay (.cells #[.int .i64 p, .int .i64 q] 176))
   obtain ⟨V0, HV0⟩ : ∃ W, Hid (W = wr.alloc (.cells #[.int .i64 p, .int .i64 q] 176)) := ⟨_, rfl⟩
   rw [← HV0.out] at HT3
   clear hc1 hc2 hbw hx HT
   go_wp2_with fail
   rw [← HV0.out]
   clear HV0 d1 d2
   obtain ⟨W5, hW5⟩ : ∃ W, W = V0.drew := ⟨_, rfl⟩
   have HT5 := h0d (HT3.out.grow (show Below V0.heap.size V0 W5 by rw [hW5]; exact (Below.refl _ _).drew))
   go_wp2_with fail
   refine seq_start (S := fun w' => w'.cell? ⟨wr.heap.size, 0, none⟩ = some (.int .i64 p) ∧ w'.cell? ⟨wr.heap.size, 1, none⟩ = some (.int .i64 q)) (by kernel_rfl) (by kernel_rfl) (by rw [← hW5]; exact sp_cells (HT5.out.pr _ _ (.inr ⟨rfl, rfl⟩)).1) ?_
   rw [← hW5]
   clear hW5 HT3
   refine tk0 (h := ?_)
   refine tk0 (h := ?_)
   refine tk0 (h := ?_)
   refine tk0 (h := ?_)
   refine tk0 (h := ?_)
   refine tk0 (h := ?_)
   refine plq 2 (h := ?_)
   refine tk0 (h := ?_)
   refine plq 2 (h := ?_)
   refine tk0 (h := ?_)
   refine plq 2 (h := ?_)
   refine tk0 (h := ?_)
   refine plq 2 (h := ?_)
   refine tk0 (h := ?_)
   refine plq 2 (h := ?_)
   refine tk0 (h := ?_)
   refine plq 2 (h := ?_)
   refine tk0 (h := ?_)
   refine plq 2 (h := ?_)
   refine plq 1 (h := ?_)
   refine seq_both (by kernel_rfl) (by rfl) (by rfl) ?_ ?_
   ·intro K9 hK9
    go_simp
    have HT6 := h0d (HT5.out.lay (.cells #[.int .i64 p, .int .i64 q] 125))
    obtain ⟨V1, eV1⟩ : ∃ W, W = W5.alloc (.cells #[.int .i64 p, .int .i64 q] 125) := ⟨_, rfl⟩
    rw [← eV1] at HT6 ⊢
    refine ckk hK9 (by exact sp_cells (HT6.out.pr _ _ (.inl (.inr ⟨rfl, rfl⟩))).1) (h := ?_)
    clear hK9 K9 eV1
    refine plq 1 (h := ?_)
    refine plq 1 (h := ?_)
    refine seq_both (by kernel_rfl) (by rfl) (by rfl) ?_ ?_
    ·intro K9 hK9
     go_simp
     have HT7 := h0d (HT6.out.lay (.cells #[.int .i64 p, .int .i64 q] 137))
     obtain ⟨V2, eV2⟩ : ∃ W, W = V1.alloc (.cells #[.int .i64 p, .int .i64 q] 137) := ⟨_, rfl⟩
     rw [← eV2] at HT7 ⊢
     refine ckk hK9 (by exact sp_cells (HT7.out.pr _ _ (.inl (.inl (.inr ⟨rfl, rfl⟩)))).1) (h := ?_)
     clear hK9 K9 eV2
     refine sop (h := fun K9 hK9 => ?_)
     refine op_pair 119 Tryz.underlying119 infoS1 rfl _ _ rfl (by rfl) (W5.heap.size) 1 (p, q) 125 (by rfl) HKL.out HL.out (HT7.out) (.inl (.inr ⟨rfl, rfl⟩)) ?_
     intro Aa ca V3 hT
     have HT8 := h0d hT
     clear hT
     refine ckk hK9 (by exact sp_cells (HT8.out.pr _ _ (.inl (.inl (.inr ⟨rfl, rfl⟩)))).1) (h := ?_)
     clear hK9 K9
     refine nrm (h := ?_)
     refine sop (h := fun K9 hK9 => ?_)
     refine op_pair 120 Tryz.underlying120 infoS2 rfl _ _ rfl (by rfl) (V1.heap.size) 1 (p, q) 137 (by rfl) HKL.out HL.out (HT8.out.swap) (.inr ⟨rfl, rfl⟩) ?_
     intro Ab cb V4 hT
     have HT9 := h0d hT.swap
     clear hT
     refine ckk hK9 (by exact sp_cells (HT9.out.pr _ _ (.inl (.inl (.inr ⟨rfl, rfl⟩)))).1) (h := ?_)
     clear hK9 K9
     refine nrm (h := ?_)
     refine tk0 (h := ?_)
     refine tk0 (h := ?_)
     refine seq_done (by kernel_rfl) ?_
     go_wp2_with fail
     go_roundw
     case rel => exact ⟨k + 1, _, _, rfl, rfl, by omega, by go_num, by rw [HTK.out]; exact HT9.out.strike (fun _ _ h => h.elim)⟩
     case measure => simp [intOf]; omega
    ·intro K9 hK9
     refine op_pair 119 Tryz.underlying119 infoS1 rfl _ _ rfl (by rfl) (W5.heap.size) 1 (p, q) 125 (by rfl) HKL.out HL.out (HT6.out) (.inr ⟨rfl, rfl⟩) ?_
     intro Aa ca V5 hT
     have HT7 := h0d hT
     clear hT
     refine ckk hK9 (by exact sp_cells (HT7.out.pr _ _ (.inl (.inr ⟨rfl, rfl⟩))).1) (h := ?_)
     clear hK9 K9
     refine nrm (h := ?_)
     refine sop (h := fun K9 hK9 => ?_)
     go_simp
     have HT8 := h0d (HT7.out.lay (.cells #[.int .i64 p, .int .i64 q] 137))
     obtain ⟨V6, eV6⟩ : ∃ W, W = V5.alloc (.cells #[.int .i64 p, .int .i64 q] 137) := ⟨_, rfl⟩
     rw [← eV6] at HT8 ⊢
     refine ckk hK9 (by exact sp_cells (HT8.out.pr _ _ (.inl (.inl (.inr ⟨rfl, rfl⟩)))).1) (h := ?_)
     clear hK9 K9 eV6
     refine sop (h := fun K9 hK9 => ?_)
     refine op_pair 120 Tryz.underlying120 infoS2 rfl _ _ rfl (by rfl) (V5.heap.size) 1 (p, q) 137 (by rfl) HKL.out HL.out (HT8.out.swap) (.inr ⟨rfl, rfl⟩) ?_
     intro Ab cb V7 hT
     have HT9 := h0d hT.swap
     clear hT
     refine ckk hK9 (by exact sp_cells (HT9.out.pr _ _ (.inl (.inl (.inr ⟨rfl, rfl⟩)))).1) (h := ?_)
     clear hK9 K9
     refine nrm (h := ?_)
     refine tk0 (h := ?_)
     refine tk0 (h := ?_)
     refine seq_done (by kernel_rfl) ?_
     go_wp2_with fail
     go_roundw
     case rel => exact ⟨k + 1, _, _, rfl, rfl, by omega, by go_num, by rw [HTK.out]; exact HT9.out.strike (fun _ _ h => h.elim)⟩
     case measure => simp [intOf]; omega
   ·intro K9 hK9
    go_simp
    have HT6 := h0d (HT5.out.lay (.cells #[.int .i64 p, .int .i64 q] 137))
    obtain ⟨V8, eV8⟩ : ∃ W, W = W5.alloc (.cells #[.int .i64 p, .int .i64 q] 137) := ⟨_, rfl⟩
    rw [← eV8] at HT6 ⊢
    refine ckk hK9 (by exact sp_cells (HT6.out.pr _ _ (.inl (.inr ⟨rfl, rfl⟩))).1) (h := ?_)
    clear hK9 K9 eV8
    refine sop (h := fun K9 hK9 => ?_)
    go_simp
    have HT7 := h0d (HT6.out.lay (.cells #[.int .i64 p, .int .i64 q] 125))
    obtain ⟨V9, eV9⟩ : ∃ W, W = V8.alloc (.cells #[.int .i64 p, .int .i64 q] 125) := ⟨_, rfl⟩
    rw [← eV9] at HT7 ⊢
    refine ckk hK9 (by exact sp_cells (HT7.out.pr _ _ (.inl (.inl (.inr ⟨rfl, rfl⟩)))).1) (h := ?_)
    clear hK9 K9 eV9
    refine sop (h := fun K9 hK9 => ?_)
    refine op_pair 119 Tryz.underlying119 infoS1 rfl _ _ rfl (by rfl) (V8.heap.size) 1 (p, q) 125 (by rfl) HKL.out HL.out (HT7.out) (.inr ⟨rfl, rfl⟩) ?_
    intro Aa ca V10 hT
    have HT8 := h0d hT
    clear hT
    refine ckk hK9 (by exact sp_cells (HT8.out.pr _ _ (.inl (.inl (.inr ⟨rfl, rfl⟩)))).1) (h := ?_)
    clear hK9 K9
    refine nrm (h := ?_)
    refine sop (h := fun K9 hK9 => ?_)
    refine op_pair 120 Tryz.underlying120 infoS2 rfl _ _ rfl (by rfl) (W5.heap.size) 1 (p, q) 137 (by rfl) HKL.out HL.out (HT8.out.swap) (.inl (.inr ⟨rfl, rfl⟩)) ?_
    intro Ab cb V11 hT
    have HT9 := h0d hT.swap
    clear hT
    refine ckk hK9 (by exact sp_cells (HT9.out.pr _ _ (.inl (.inl (.inr ⟨rfl, rfl⟩)))).1) (h := ?_)
    clear hK9 K9
    refine nrm (h := ?_)
    refine tk0 (h := ?_)
    refine tk0 (h := ?_)
    refine seq_done (by kernel_rfl) ?_
    go_wp2_with fail
    go_roundw
    case rel => exact ⟨k + 1, _, _, rfl, rfl, by omega, by go_num, by rw [HTK.out]; exact HT9.out.strike (fun _ _ h => h.elim)⟩
    case measure => simp [intOf]; omega
  ·obtain rfl : n = k := by omega
   have HTF : Hid (xs.take n = xs) := List.take_of_length_le (by rw [HN.out]; exact Nat.le_refl _)
   rw [HTF.out] at HT
   go_wp2_with fail
   go_ret2
   exact ⟨⟨_, _, rfl, own_rdP HT.out.a, own_rdP HT.out.b⟩, HT.out.bel⟩
end Go.Proofs.YtodckaioeomccaaGreat
