/- For the walk of the reference's search: pieces of lists, appends of ints, the search's end. The walk of the reference's search through all arrangements. The walk of the reference's Sequence. Plain: the program's and the reference's number of arrangements are the same. -/
import Derived.Test.YtodckaioeomccaaGreatPart31
import Derived.Test.YtodckaioeomccaaGreatPart14
namespace Go.Proofs.YtodckaioeomccaaGreat
open Go.RowKit
set_option linter.unusedVariables false
set_option linter.unusedSimpArgs false
theorem RdL.take {w : World} {A : Option Addr} {n cap : Nat} {l : List Int} (h : RdL w (.slice A n cap) l) {j : Nat} (hj : j ≤ n) : RdL w (.slice A j cap) (l.take j) := by
  obtain ⟨A', cap', he, h1, h2, h3⟩ := h
  simp only [Value.slice.injEq] at he
  obtain ⟨rfl, rfl, rfl⟩ := he
  have e : (l.take j).length = j := by rw [List.length_take]; omega
  refine ⟨A, cap, by rw [e], by omega, h2, fun hn => ?_⟩
  obtain ⟨b', off', he, hb, hc⟩ := h3 (fun e => hn (by rw [e]; simp))
  refine ⟨b', off', he, hb, fun i hi => ?_⟩
  rw [e] at hi
  rw [hc i (by omega), List.getElem_take]
theorem RdL.drop {w : World} {b off n cap : Nat} {l : List Int} (h : RdL w (.slice (some ⟨b, off, none⟩) n cap) l) {j : Nat} (hj : j ≤ n) : RdL w (.slice (some ⟨b, off + j, none⟩) (n - j) (cap - j)) (l.drop j) := by
  obtain ⟨A', cap', he, h1, h2, h3⟩ := h
  simp only [Value.slice.injEq] at he
  obtain ⟨rfl, rfl, rfl⟩ := he
  refine ⟨some ⟨b, off + j, none⟩, cap - j, by rw [List.length_drop], by rw [List.length_drop]; omega, by omega, fun hn => ?_⟩
  obtain ⟨b', off', he, hb, hc⟩ := h3 (fun e => hn (by rw [e]; simp))
  simp only [Option.some.injEq, Addr.mk.injEq] at he
  obtain ⟨rfl, rfl, _⟩ := he
  refine ⟨b, off + j, rfl, hb, fun i hi => ?_⟩
  rw [List.length_drop] at hi
  have := hc (j + i) (by omega)
  rw [Nat.add_assoc, this, List.getElem_drop]
/-- What an append of ints to a row of one's own gives. -/
theorem app_int {w : World} {B ty : Nat} {v xv : Value} {l1 l2 : List Int} (ho : OwnL w B v l1) (hr : RdL w xv l2) (h1 : l1.length ≤ 1000) (h2 : l2.length ≤ 1000) (hB : B ≤ w.heap.size) :
    ∃ v' w', (Builtin.append_ #[22, 22] ty #[v, xv]).run Tryz.prog w = .ok v' w' ∧ OwnL w' B v' (l1 ++ l2) ∧ w.grownBy w' v.ownBlock := by
  obtain ⟨i0, hi0, hz0, hz1, hz2⟩ := info_parts info3
  obtain ⟨v', w', hrun, h3, h4, _⟩ := append_rd w B 22 ty 3 i0 (.int .i64 0) 8 Tryz.underlying22 hi0 hz0 hz1 hz2 rfl v l1.length (l1.map intV) ho xv _ l2 hr (fun u hu => by obtain ⟨x, _, rfl⟩ := List.mem_map.1 hu; rfl) (by unfold maxLen; omega) (by omega) hB
  refine ⟨v', w', hrun, ?_, h4⟩
  unfold OwnL
  rw [List.length_append, List.map_append]
  exact h3
theorem op_app_int {o : Oper} {a : Act} {w : World} {K : Act → World → Prop} {Q : Exit → Act → World → Prop} (s x : Operand)
    (ho : o.op = .call { callee := .builtin .append, args := #[s, x], argTypes := #[22, 22] }) {B : Nat} {v xv : Value} {l1 l2 : List Int} (hs : a.eval s = v) (hx : a.eval x = xv)
    (hown : OwnL w B v l1) (hr : RdL w xv l2) (h1 : l1.length ≤ 1000) (h2 : l2.length ≤ 1000) (hB : B ≤ w.heap.size)
    (h : ∀ v' w', OwnL w' B v' (l1 ++ l2) → w.grownBy w' v.ownBlock → K (a.put o.dst v') w') : Oper.wp Tryz.prog o a w K Q := by
  obtain ⟨v', w', hrun, h3, h4⟩ := app_int (ty := o.type) hown hr h1 h2 hB
  unfold Oper.wp
  simp [execOp, ho, resolve, invoke, builtin, hs, hx, hrun, Result.andThen]
  exact h v' w' h3 h4
theorem wpList_app_int {w : World} {ops : Array Oper} {rest : List Oper} {o : Oper} {a : Act} {Q : Exit → Act → World → Prop} (hgd : o.guard = none) (s x : Operand)
    (ho : o.op = .call { callee := .builtin .append, args := #[s, x], argTypes := #[22, 22] }) {B : Nat} {v xv : Value} {l1 l2 : List Int} (hs : a.eval s = v) (hx : a.eval x = xv)
    (hown : OwnL w B v l1) (hr : RdL w xv l2) (h1 : l1.length ≤ 1000) (h2 : l2.length ≤ 1000) (hB : B ≤ w.heap.size)
    (h : ∀ v' w', OwnL w' B v' (l1 ++ l2) → w.grownBy w' v.ownBlock → wpList Tryz.prog ops Q rest (a.put o.dst v') w') : wpList Tryz.prog ops Q (o :: rest) a w :=
  wpList_plain hgd fun K hK => op_app_int s x ho hs hx hown hr h1 h2 hB fun v' w' h3 h4 => hK _ _ (h v' w' h3 h4)
theorem own_made (w : World) : OwnL (w.alloc (.cells #[] 3)) w.heap.size (.slice (some ⟨w.heap.size, 0, none⟩) 0 0) [] := World.ownsRow_made w #[] 0 (Nat.le_refl _) (by decide) rfl
theorem own_grow {a w w' : World} {B : Nat} {v : Value} {l : List Int} (hb : Below B a w) (ho : OwnL w B v l) (hg : w.grownBy w' v.ownBlock) (hB : B ≤ w.heap.size) : Below B a w' := hb.grown hg hB fun k hk => (World.ownsRow.lt ho k hk).1
theorem own_mono {w : World} {B B' : Nat} {v : Value} {l : List Int} (h : OwnL w B v l) (hB : B' ≤ B) : OwnL w B' v l := by
  refine ⟨h.1, ?_⟩
  rcases h.2 with h1 | ⟨g, cap, cur, h1, h2, h3⟩
  · exact .inl h1
  · exact .inr ⟨g, cap, cur, h1, Nat.le_trans hB h2, h3⟩
/-- The best so far in memory. -/
def BestV (w : World) (v : Value) (o : Option (List Int)) : Prop := match o with
  | none => v = .slice none 0 0
  | some z => ∃ b off n c, v = .slice (some ⟨b, off, none⟩) n c ∧ RdL w v z
theorem BestV.below {w w' : World} {v : Value} {o : Option (List Int)} (h : BestV w v o) (hb : Below w.heap.size w w') : BestV w' v o := by
  cases o with
  | none => exact h
  | some z => obtain ⟨b, off, n, c, e, hr⟩ := h; exact ⟨b, off, n, c, e, hr.below hb⟩
theorem eqnil : ∀ w, (binOp .eql 22 (.slice none 0 0) (.slice none 0 0)).run Tryz.prog w = .ok (.bool true) w := fun w => by kernel_rfl
theorem nenil (b off n c : Nat) : ∀ w, (binOp .eql 22 (.slice (some ⟨b, off, none⟩) n c) (.slice none 0 0)).run Tryz.prog w = .ok (.bool false) w := fun w => by kernel_rfl
/-- What the search returns. -/
def WalkPost (w : World) (st : Option (List Int) × Int) (e : Ending) (w' : World) : Prop := (∃ v', e = .returned (.tuple #[v', .int .i64 st.2]) ∧ BestV w' v' st.1) ∧ Below w.heap.size w w'
set_option maxRecDepth 100000 in
set_option maxHeartbeats 2000000 in
theorem walk_end (head : List Int) (st : Option (List Int) × Int) (vh vl vb : Value) (w : World) (h0 : head ≠ []) (h12 : head.length ≤ 12) (hs : SmallP head) (hh : RdL w vh head) (hl : RdL w vl []) (hb : BestV w vb st.1) :
    Calls Tryz.prog 117 #[vh, vl, vb, .int .i64 st.2] w (WalkPost w (foldW head [] st)) := by
  rw [foldW_nil]
  have HN := Lib.hid (rnoise_any vh head w hh h12 hs)
  have HH := Lib.hid hh
  obtain ⟨Ah, ch, rfl, -⟩ := hh.at_
  obtain ⟨Al, cl, rfl, -⟩ := hl.at_
  obtain ⟨bo, nz⟩ := st
  have HB := Lib.hid hb
  obtain ⟨z, hz⟩ : ∃ z, z = noiseL head := ⟨_, rfl⟩
  have HZ := Lib.hid hz
  rw [← hz] at HN
  have HL12 := Lib.hid h12
  have HL0 := Lib.hid h0
  obtain ⟨k, hk⟩ : ∃ k, k = head.length := ⟨_, rfl⟩
  have HK := Lib.hid hk
  rw [← hk] at HN HH ⊢
  clear hh hl hb hz hs h12 h0 hk
  have mk : ∀ (w1 : World) (v' : Value), OwnL w1 w.heap.size v' head → Below w.heap.size w w1 → stepW (bo, nz) head = (some head, z) → WalkPost w (stepW (bo, nz) head) (.returned (.tuple #[v', .int .i64 z])) w1 := fun w1 v' ho hb he => by
    rw [he]
    obtain ⟨g, c, rfl⟩ := ho.some HL0.out
    exact ⟨⟨_, rfl, ⟨g, 0, _, _, rfl, ho.rd⟩⟩, hb⟩
  have HMK := Lib.hid mk
  clear mk
  cases bo with
  | none =>
    obtain rfl : vb = .slice none 0 0 := HB.out
    have HST : Hid (stepW (none, nz) head = (some head, z)) := by show _ = _; unfold stepW; rw [if_pos (.inl rfl), HZ.out]
    have hnil := eqnil
    go_enter Tryz.func117, Tryz.ntmps117
    go_wp2_with fail
    refine HN.out.mono ?_
    rintro e w1 ⟨rfl, hbx⟩
    have HB1 := Lib.hid hbx
    have HH1 := Lib.hid (HH.out.below (hbx.alloc hbx.size (.cells #[] 3)))
    have HO1 := Lib.hid (own_made w1)
    have HB2 : Hid (Below w1.heap.size w1 (w1.alloc (.cells #[] 3))) := (Below.refl _ _).alloc (Nat.le_refl _) _
    clear hbx
    go_wp2_with (at_builtin; refine wpList_app_int rfl _ _ rfl rfl rfl HO1.out HH1.out (by simp) (by have := HL12.out; omega) (by simp) ?_; intro v' w2 ho hg; have HO2 := Lib.hid ho; have HG2 := Lib.hid hg; clear ho hg)
    go_ret2
    exact HMK.out w2 v' (own_mono HO2.out HB1.out.size) (HB1.out.trans ((own_grow HB2.out HO1.out HG2.out (by simp)).mono HB1.out.size)) HST.out
  | some y =>
    obtain ⟨b, off, m, c, rfl, hr⟩ := HB.out
    have HRB := Lib.hid hr
    clear hr
    by_cases hlt : z < nz
    · have HST : Hid (stepW (some y, nz) head = (some head, z)) := by show _ = _; unfold stepW; rw [if_pos (.inr (by rw [← HZ.out]; exact hlt)), HZ.out]
      have hnil := nenil b off m c
      go_enter Tryz.func117, Tryz.ntmps117
      go_wp2_with fail
      refine HN.out.mono ?_
      rintro e w1 ⟨rfl, hbx⟩
      have HB1 := Lib.hid hbx
      have HH1 := Lib.hid (HH.out.below (hbx.alloc hbx.size (.cells #[] 3)))
      have HO1 := Lib.hid (own_made w1)
      have HB2 : Hid (Below w1.heap.size w1 (w1.alloc (.cells #[] 3))) := (Below.refl _ _).alloc (Nat.le_refl _) _
      clear hbx
      go_wp2_with (at_builtin; refine wpList_app_int rfl _ _ rfl rfl rfl HO1.out HH1.out (by simp) (by have := HL12.out; omega) (by simp) ?_; intro v' w2 ho hg; have HO2 := Lib.hid ho; have HG2 := Lib.hid hg; clear ho hg)
      go_ret2
      exact HMK.out w2 v' (own_mono HO2.out HB1.out.size) (HB1.out.trans ((own_grow HB2.out HO1.out HG2.out (by simp)).mono HB1.out.size)) HST.out
    · have HST : Hid (stepW (some y, nz) head = (some y, nz)) := by show _ = _; unfold stepW; rw [if_neg (fun h => h.elim (fun h => by cases h) (fun h => hlt (by rw [HZ.out]; exact h)))]
      have hnil := nenil b off m c
      go_enter Tryz.func117, Tryz.ntmps117
      go_wp2_with fail
      refine HN.out.mono ?_
      rintro e w1 ⟨rfl, hbx⟩
      have HB1 := Lib.hid hbx
      clear hbx
      go_wp2_with fail
      go_ret2
      rw [HST.out]
      exact ⟨⟨_, rfl, ⟨b, off, m, c, rfl, HRB.out.below HB1.out⟩⟩, HB1.out⟩
end Go.Proofs.YtodckaioeomccaaGreat
namespace Go.Proofs.YtodckaioeomccaaGreat
open Go.RowKit
set_option linter.unusedVariables false
set_option linter.unusedSimpArgs false
theorem RdL.dropC {w : World} {b off n cap : Nat} {l : List Int} (h : RdL w (.slice (some ⟨b, off, none⟩) n cap) l) {j : Nat} (hj : j ≤ n) : RdL w (.slice (if cap = j then some ⟨b, off, none⟩ else some ⟨b, off + j, none⟩) (n - j) (cap - j)) (l.drop j) := by
  have h1 := h.drop hj
  by_cases e : cap = j
  · rw [if_pos e]
    obtain ⟨A', cap', he, a1, a2, a3⟩ := h1
    simp only [Value.slice.injEq] at he
    obtain ⟨_, e2, e3⟩ := he
    refine ⟨some ⟨b, off, none⟩, cap', by rw [e2, e3], a1, a2, fun hn => absurd (List.length_eq_zero_iff.1 (by omega)) hn⟩
  · rw [if_neg e]
    exact h1
theorem erase_first {l : List Int} {x : Int} : ∀ {i : Nat}, (∀ j, j < i → l[j]? ≠ some x) → l[i]? = some x → l.erase x = l.take i ++ l.drop (i + 1) := by
  induction l with
  | nil => intro i _ h; simp at h
  | cons a l ih =>
    intro i hj h
    match i with
    | 0 =>
      have : a = x := by simpa using h
      subst this
      simp
    | i + 1 =>
      have hne : a ≠ x := fun e => hj 0 (by omega) (by simp [e])
      rw [List.erase_cons_tail (by simpa using hne)]
      rw [ih (i := i) (fun j hj' => by have := hj (j + 1) (by omega); simpa using this) (by simpa using h)]
      simp
theorem not_mem_all {l : List Int} {x : Int} (h : ∀ j, j < l.length → l[j]? ≠ some x) : x ∉ l := fun hm => by
  obtain ⟨i, hi, rfl⟩ := List.mem_iff_getElem.1 hm
  exact h i hi (List.getElem?_eq_getElem hi)
theorem own_stay1 {w : World} {B : Nat} {v : Value} {l : List Int} (h : OwnL w B v l) (o : Obj) : OwnL (w.alloc o) B v l := h.stay ((Below.refl _ _).alloc (Nat.le_refl _) _)
theorem rd_one (w : World) (x : Int) : RdL (w.alloc (.cells #[.int .i64 x] 3)) (.slice (some ⟨w.heap.size, 0, none⟩) 1 1) [x] := by
  refine ⟨_, 1, rfl, Nat.le_refl _, by decide, fun _ => ⟨w.heap.size, 0, rfl, trivial, fun i hi => ?_⟩⟩
  have : i = 0 := by simp at hi; omega
  subst this
  rw [cell_of_row _ _ _ _ _ _ (heap_alloc_new w _)]
  rfl
set_option maxRecDepth 100000 in
set_option maxHeartbeats 4000000 in
theorem walk_any : ∀ (m : Nat) (head left : List Int) (st : Option (List Int) × Int) (vh vl vb : Value) (w : World), left.length = m → head.length + m ≤ 12 → head.length + m ≠ 0 → SmallP head → SmallP left → RdL w vh head → RdL w vl left → BestV w vb st.1 →
    Calls Tryz.prog 117 #[vh, vl, vb, .int .i64 st.2] w (WalkPost w (foldW head left st)) := by
  intro m
  induction m with
  | zero =>
    intro head left st vh vl vb w hm h12 h0 hsh hsl hh hl hb
    obtain rfl := List.length_eq_zero_iff.1 hm
    exact walk_end head st vh vl vb w (fun e => h0 (by rw [e]; rfl)) (by omega) hsh hh hl hb
  | succ m ih =>
    intro head left st vh vl vb w hm h12 h0 hsh hsl hh hl hb
    have HIH := Lib.hid ih
    have HH := Lib.hid hh
    have HL := Lib.hid hl
    have HSH := Lib.hid hsh
    have HSL := Lib.hid hsl
    have HB0 := Lib.hid hb
    obtain ⟨Ah, ch, rfl, -⟩ := hh.at_
    obtain ⟨Al, cl, rfl, hcl, hmax, hcm, hc⟩ := hl.at_
    obtain ⟨b, off, rfl, hbw, -⟩ := hc 0 (by omega)
    have HC : Hid (∀ i, i < m + 1 → w.cell? ⟨b, off + i, none⟩ = some (.int .i64 (atL left i))) := fun i hi => by
      obtain ⟨b', off', e, _, hx⟩ := hc i (by omega)
      simp only [Option.some.injEq, Addr.mk.injEq] at e
      obtain ⟨rfl, rfl, _⟩ := e
      exact hx
    have HAT : Hid (∀ i, i < m + 1 → left[i]? = some (atL left i)) := fun i hi => by
      have := List.getElem?_eq_getElem (l := left) (i := i) (by omega)
      rw [atL_of this]; exact this
    have HFA : Hid (foldK head left st 100 = foldW head left st) := foldK_all st (fun e => by rw [e] at hm; cases hm)
    have HFI := Lib.hid (fun (k : Nat) (h : ((k : Int) + 1) ∈ left) => foldK_in (head := head) (st := st) h)
    have HFO := Lib.hid (fun (k : Nat) (h : ((k : Int) + 1) ∉ left) => foldK_out (head := head) (st := st) h)
    have HM := Lib.hid hm
    have H12 := Lib.hid h12
    obtain ⟨n, hn⟩ : ∃ n, n = m + 1 := ⟨_, rfl⟩
    rw [hm, ← hn] at hcl hmax HL
    rw [← hn] at HC HAT HM
    show Calls _ _ #[.slice Ah head.length ch, .slice (some ⟨b, off, none⟩) left.length cl, vb, .int .i64 st.2] _ _
    rw [HM.out]
    obtain ⟨kh, hkh⟩ : ∃ k, k = head.length := ⟨_, rfl⟩
    rw [← hkh] at HH ⊢
    have hn0 : ¬ n = 0 := by omega
    have hn0' : ((n : Int) == 0) = false := beq_false_of_ne (by omega)
    have HNM := Lib.hid hn
    clear hn
    clear hh hl hsh hsl hb hc hm h12 h0 ih hcm hkh
    go_enter Tryz.func117, Tryz.ntmps117
    go_wp2_with fail
    go_loopw [2, 3, 11] (fun bv nv pv wr => ∃ (k p : Nat) (s : Option (List Int) × Int) (bx : Value), bx = bv ∧ p = k + 1 ∧ k ≤ 100 ∧ pv = .int .i64 (p : Int) ∧ nv = .int .i64 s.2 ∧ Hid (s = foldK head left st k) ∧ Hid (BestV wr bx s.1) ∧ Hid (Below w.heap.size w wr)) (fun _ _ pv _ => 101 - (intOf pv).toNat)
    case atStart => exact ⟨0, 1, st, _, rfl, rfl, by omega, rfl, rfl, (foldK_zero head left st).symm, HB0, Below.refl _ _⟩
    case round =>
      clear HB0
      obtain ⟨k, p, ⟨bo, z⟩, bvo, rfl, hp, hk, rfl, rfl, HST, HBV, HBE⟩ := hrel
      by_cases hlt : p ≤ 100
      · have hlt' : (p : Int) ≤ 100 := by omega
        have HP := Lib.hid hp
        clear hp
        obtain ⟨wo, rfl⟩ : ∃ wo : World, wo = wr := ⟨_, rfl⟩
        go_wp2_with fail
        go_loopw [2, 3, 12] (fun bv nv iv wr => ∃ (i : Nat), i ≤ n ∧ iv = .int .i64 (i : Int) ∧ bvo = bv ∧ Value.int .i64 z = nv ∧ Hid (∀ j, j < i → left[j]? ≠ some (p : Int)) ∧ Hid (Below wo.heap.size wo wr)) (fun _ _ iv _ => n - (intOf iv).toNat)
        case atStart => exact ⟨0, Nat.zero_le _, rfl, rfl, rfl, fun j hj => absurd hj (by omega), Below.refl _ _⟩
        case round =>
          obtain ⟨i, hi, rfl, rfl, rfl, HJ, HBI⟩ := hrel
          by_cases hin : i < n
          · have hat := HAT.out i hin
            have hx := HC.out i hin
            obtain ⟨x, hxx⟩ : ∃ x, x = atL left i := ⟨_, rfl⟩
            rw [← hxx] at hat hx
            have c1 := ((HBI.out.cell (p := ⟨b, off + i, none⟩) (Nat.lt_of_lt_of_le hbw HBE.out.size)).trans ((HBE.out.cell (p := ⟨b, off + i, none⟩) hbw).trans hx))
            clear hxx hx
            by_cases hxp : x = (p : Int)
            · subst hxp
              have HAI := Lib.hid hat
              clear hat
              obtain ⟨q, hq⟩ : ∃ q, q = i + 1 := ⟨_, rfl⟩
              have hw1 : IntKind.i64.wrap ((i : Int) + 1) = (q : Int) := by rw [IntWalk.i64_in _ (by omega), hq]; omega
              have hw2 : IntKind.i64.wrap (i : Int) = (i : Int) := IntWalk.i64_in _ (by omega)
              have hw3 : IntKind.i64.wrap (q : Int) = (q : Int) := IntWalk.i64_in _ (by omega)
              have hic : i ≤ cl := by omega
              have hqn : q ≤ n := by omega
              have hqc : q ≤ cl := by omega
              have hi0 : (0 : Int) ≤ (i : Int) := by omega
              have hi1 : (i : Int) ≤ (cl : Int) := by omega
              have hq0 : (0 : Int) ≤ (q : Int) := by omega
              have hq1 : (q : Int) ≤ (n : Int) := by omega
              have HQI := Lib.hid hq
              clear hq
              go_wp2_with fail
              clear c1
              obtain ⟨W5, hW5⟩ : ∃ W, W = wr.drew := ⟨_, rfl⟩
              have HB5 : Hid (Below w.heap.size w W5) := by rw [hW5]; exact (HBE.out.trans (HBI.out.mono HBE.out.size)).drew
              have HBV5 : Hid (BestV W5 bvo bo) := by rw [hW5]; exact (HBV.out.below HBI.out).below ((Below.refl _ _).drew)
              refine seq_start (S := fun _ => True) (by kernel_rfl) (by kernel_rfl) trivial ?_
              rw [← hW5]
              clear hW5
              refine seq_pull 1 ?_
              simp only [places, pull]
              (first
                | (refine seq_take0 (v := ?_) ?_ (fun _ _ _ h => h) (by kernel_rfl) ?_ ?_; rotate_left; (focus rfl); (focus (intro w' hSw; (try dsimp only at hSw); go_simp; (try with_reducible rfl); done)); (try simp only [Act.put, List.setIfInBounds_toArray, List.set_cons_zero, List.set_cons_succ]))
                | (refine seq_takeG (v := ?_) (g := ?_) (d := ?_) (b := ?_) (u := ?_) ?_ ?_ ?_ ?_ (fun _ _ _ h => h) (by kernel_rfl) ?_ ?_; rotate_left 5; (focus rfl); (focus rfl); (focus rfl); (focus (first | rfl | (go_simp; done))); (focus (intro w' hSw; (try dsimp only at hSw); go_simp; (try with_reducible rfl); done)); (try simp only [Act.put, List.setIfInBounds_toArray, List.set_cons_zero, List.set_cons_succ]))
                | (refine seq_skipG (g := ?_) (d := ?_) (b := ?_) (u := ?_) ?_ ?_ ?_ ?_ (fun _ _ _ h => h) (by kernel_rfl) ?_; rotate_left 4; (focus rfl); (focus rfl); (focus rfl); (focus (first | rfl | (go_simp; done))); (try simp only [Act.put, List.setIfInBounds_toArray, List.set_cons_zero, List.set_cons_succ])))
              refine seq_pull 1 ?_
              simp only [places, pull]
              (first
                | (refine seq_take0 (v := ?_) ?_ (fun _ _ _ h => h) (by kernel_rfl) ?_ ?_; rotate_left; (focus rfl); (focus (intro w' hSw; (try dsimp only at hSw); go_simp; (try with_reducible rfl); done)); (try simp only [Act.put, List.setIfInBounds_toArray, List.set_cons_zero, List.set_cons_succ]))
                | (refine seq_takeG (v := ?_) (g := ?_) (d := ?_) (b := ?_) (u := ?_) ?_ ?_ ?_ ?_ (fun _ _ _ h => h) (by kernel_rfl) ?_ ?_; rotate_left 5; (focus rfl); (focus rfl); (focus rfl); (focus (first | rfl | (go_simp; done))); (focus (intro w' hSw; (try dsimp only at hSw); go_simp; (try with_reducible rfl); done)); (try simp only [Act.put, List.setIfInBounds_toArray, List.set_cons_zero, List.set_cons_succ]))
                | (refine seq_skipG (g := ?_) (d := ?_) (b := ?_) (u := ?_) ?_ ?_ ?_ ?_ (fun _ _ _ h => h) (by kernel_rfl) ?_; rotate_left 4; (focus rfl); (focus rfl); (focus rfl); (focus (first | rfl | (go_simp; done))); (try simp only [Act.put, List.setIfInBounds_toArray, List.set_cons_zero, List.set_cons_succ])))
              refine seq_pull 1 ?_
              simp only [places, pull]
              (first
                | (refine seq_take0 (v := ?_) ?_ (fun _ _ _ h => h) (by kernel_rfl) ?_ ?_; rotate_left; (focus rfl); (focus (intro w' hSw; (try dsimp only at hSw); go_simp; (try with_reducible rfl); done)); (try simp only [Act.put, List.setIfInBounds_toArray, List.set_cons_zero, List.set_cons_succ]))
                | (refine seq_takeG (v := ?_) (g := ?_) (d := ?_) (b := ?_) (u := ?_) ?_ ?_ ?_ ?_ (fun _ _ _ h => h) (by kernel_rfl) ?_ ?_; rotate_left 5; (focus rfl); (focus rfl); (focus rfl); (focus (first | rfl | (go_simp; done))); (focus (intro w' hSw; (try dsimp only at hSw); go_simp; (try with_reducible rfl); done)); (try simp only [Act.put, List.setIfInBounds_toArray, List.set_cons_zero, List.set_cons_succ]))
                | (refine seq_skipG (g := ?_) (d := ?_) (b := ?_) (u := ?_) ?_ ?_ ?_ ?_ (fun _ _ _ h => h) (by kernel_rfl) ?_; rotate_left 4; (focus rfl); (focus rfl); (focus rfl); (focus (first | rfl | (go_simp; done))); (try simp only [Act.put, List.setIfInBounds_toArray, List.set_cons_zero, List.set_cons_succ])))
              refine seq_pull 2 ?_
              simp only [places, pull]
              (first
                | (refine seq_take0 (v := ?_) ?_ (fun _ _ _ h => h) (by kernel_rfl) ?_ ?_; rotate_left; (focus rfl); (focus (intro w' hSw; (try dsimp only at hSw); go_simp; (try with_reducible rfl); done)); (try simp only [Act.put, List.setIfInBounds_toArray, List.set_cons_zero, List.set_cons_succ]))
                | (refine seq_takeG (v := ?_) (g := ?_) (d := ?_) (b := ?_) (u := ?_) ?_ ?_ ?_ ?_ (fun _ _ _ h => h) (by kernel_rfl) ?_ ?_; rotate_left 5; (focus rfl); (focus rfl); (focus rfl); (focus (first | rfl | (go_simp; done))); (focus (intro w' hSw; (try dsimp only at hSw); go_simp; (try with_reducible rfl); done)); (try simp only [Act.put, List.setIfInBounds_toArray, List.set_cons_zero, List.set_cons_succ]))
                | (refine seq_skipG (g := ?_) (d := ?_) (b := ?_) (u := ?_) ?_ ?_ ?_ ?_ (fun _ _ _ h => h) (by kernel_rfl) ?_; rotate_left 4; (focus rfl); (focus rfl); (focus rfl); (focus (first | rfl | (go_simp; done))); (try simp only [Act.put, List.setIfInBounds_toArray, List.set_cons_zero, List.set_cons_succ])))
              refine seq_pull 2 ?_
              simp only [places, pull]
              (first
                | (refine seq_take0 (v := ?_) ?_ (fun _ _ _ h => h) (by kernel_rfl) ?_ ?_; rotate_left; (focus rfl); (focus (intro w' hSw; (try dsimp only at hSw); go_simp; (try with_reducible rfl); done)); (try simp only [Act.put, List.setIfInBounds_toArray, List.set_cons_zero, List.set_cons_succ]))
                | (refine seq_takeG (v := ?_) (g := ?_) (d := ?_) (b := ?_) (u := ?_) ?_ ?_ ?_ ?_ (fun _ _ _ h => h) (by kernel_rfl) ?_ ?_; rotate_left 5; (focus rfl); (focus rfl); (focus rfl); (focus (first | rfl | (go_simp; done))); (focus (intro w' hSw; (try dsimp only at hSw); go_simp; (try with_reducible rfl); done)); (try simp only [Act.put, List.setIfInBounds_toArray, List.set_cons_zero, List.set_cons_succ]))
                | (refine seq_skipG (g := ?_) (d := ?_) (b := ?_) (u := ?_) ?_ ?_ ?_ ?_ (fun _ _ _ h => h) (by kernel_rfl) ?_; rotate_left 4; (focus rfl); (focus rfl); (focus rfl); (focus (first | rfl | (go_simp; done))); (try simp only [Act.put, List.setIfInBounds_toArray, List.set_cons_zero, List.set_cons_succ])))
              refine seq_pull 2 ?_
              simp only [places, pull]
              (first
                | (refine seq_take0 (v := ?_) ?_ (fun _ _ _ h => h) (by kernel_rfl) ?_ ?_; rotate_left; (focus rfl); (focus (intro w' hSw; (try dsimp only at hSw); go_simp; (try with_reducible rfl); done)); (try simp only [Act.put, List.setIfInBounds_toArray, List.set_cons_zero, List.set_cons_succ]))
                | (refine seq_takeG (v := ?_) (g := ?_) (d := ?_) (b := ?_) (u := ?_) ?_ ?_ ?_ ?_ (fun _ _ _ h => h) (by kernel_rfl) ?_ ?_; rotate_left 5; (focus rfl); (focus rfl); (focus rfl); (focus (first | rfl | (go_simp; done))); (focus (intro w' hSw; (try dsimp only at hSw); go_simp; (try with_reducible rfl); done)); (try simp only [Act.put, List.setIfInBounds_toArray, List.set_cons_zero, List.set_cons_succ]))
                | (refine seq_skipG (g := ?_) (d := ?_) (b := ?_) (u := ?_) ?_ ?_ ?_ ?_ (fun _ _ _ h => h) (by kernel_rfl) ?_; rotate_left 4; (focus rfl); (focus rfl); (focus rfl); (focus (first | rfl | (go_simp; done))); (try simp only [Act.put, List.setIfInBounds_toArray, List.set_cons_zero, List.set_cons_succ])))
              obtain ⟨ax, hax⟩ : ∃ ax, (if cl = q then some (⟨b, off, none⟩ : Addr) else some ⟨b, off + q, none⟩) = ax := ⟨_, rfl⟩
              have HLD : Hid (∀ w, RdL w (.slice (some ⟨b, off, none⟩) n cl) left → RdL w (.slice ax (n - q) (cl - q)) (left.drop q)) := fun w h => by rw [← hax]; exact h.dropC (by omega)
              refine seq_pull 2 ?_
              simp only [places, pull]
              (first
                | (refine seq_take0 (v := ?_) ?_ (fun _ _ _ h => h) (by kernel_rfl) ?_ ?_; rotate_left; (focus rfl); (focus (intro w' hSw; (try dsimp only at hSw); go_simp; (try with_reducible rfl); done)); (try simp only [Act.put, List.setIfInBounds_toArray, List.set_cons_zero, List.set_cons_succ]))
                | (refine seq_takeG (v := ?_) (g := ?_) (d := ?_) (b := ?_) (u := ?_) ?_ ?_ ?_ ?_ (fun _ _ _ h => h) (by kernel_rfl) ?_ ?_; rotate_left 5; (focus rfl); (focus rfl); (focus rfl); (focus (first | rfl | (go_simp; done))); (focus (intro w' hSw; (try dsimp only at hSw); go_simp; (try with_reducible rfl); done)); (try simp only [Act.put, List.setIfInBounds_toArray, List.set_cons_zero, List.set_cons_succ]))
                | (refine seq_skipG (g := ?_) (d := ?_) (b := ?_) (u := ?_) ?_ ?_ ?_ ?_ (fun _ _ _ h => h) (by kernel_rfl) ?_; rotate_left 4; (focus rfl); (focus rfl); (focus rfl); (focus (first | rfl | (go_simp; done))); (try simp only [Act.put, List.setIfInBounds_toArray, List.set_cons_zero, List.set_cons_succ])))
              clear hax
              have HO0 := Lib.hid (own_made W5)
              have HX0 : Hid (Below W5.heap.size W5 (W5.alloc (.cells #[] 3))) := (Below.refl _ _).alloc (Nat.le_refl _) _
              have HLW := Lib.hid (HL.out.below (HB5.out.alloc HB5.out.size (.cells #[] 3)))
              have HLN : Hid (left.length ≤ 1000) := by show _ ≤ _; have := HM.out; have := H12.out; have := HNM.out; omega
              refine seq_op (by kernel_rfl) (by rfl) (fun K9 hK9 => ?_)
              go_simp
              refine hK9.out _ _ trivial ?_
              clear hK9 K9
              (try simp only [Act.put, List.setIfInBounds_toArray, List.set_cons_zero, List.set_cons_succ])
              refine seq_op (by kernel_rfl) (by rfl) (fun K9 hK9 => ?_)
              refine op_app_int _ _ rfl (by rfl) (by rfl) HO0.out (HLW.out.take (j := i) (by omega)) (by simp) (by have := HLN.out; rw [List.length_take]; omega) (by simp) ?_
              intro v6 w6 ho hg
              have HO6 := Lib.hid ho
              have HB6 := Lib.hid (HB5.out.trans ((own_grow HX0.out HO0.out hg (by simp)).mono HB5.out.size))
              have HX6 := Lib.hid (own_grow HX0.out HO0.out hg (by simp))
              clear ho hg
              have HLX := Lib.hid (HL.out.below HB6.out)
              refine hK9.out _ _ trivial ?_
              clear hK9 K9
              (try simp only [Act.put, List.setIfInBounds_toArray, List.set_cons_zero, List.set_cons_succ])
              refine seq_op (by kernel_rfl) (by rfl) (fun K9 hK9 => ?_)
              refine op_app_int _ _ rfl (by rfl) (by rfl) HO6.out (HLD.out _ HLX.out) (by have := HLN.out; simp; omega) (by have := HLN.out; rw [List.length_drop]; omega) HX6.out.size ?_
              intro v7 w7 ho hg
              have HO7 := Lib.hid ho
              have HX7 := Lib.hid (own_grow HX6.out HO6.out hg HX6.out.size)
              clear ho hg
              refine hK9.out _ _ trivial ?_
              clear hK9 K9
              (try simp only [Act.put, List.setIfInBounds_toArray, List.set_cons_zero, List.set_cons_succ])
              repeat (first
                | (refine seq_take0 (v := ?_) ?_ (fun _ _ _ h => h) (by kernel_rfl) ?_ ?_; rotate_left; (focus rfl); (focus (intro w' hSw; (try dsimp only at hSw); go_simp; (try with_reducible rfl); done)); (try simp only [Act.put, List.setIfInBounds_toArray, List.set_cons_zero, List.set_cons_succ]))
                | (refine seq_takeG (v := ?_) (g := ?_) (d := ?_) (b := ?_) (u := ?_) ?_ ?_ ?_ ?_ (fun _ _ _ h => h) (by kernel_rfl) ?_ ?_; rotate_left 5; (focus rfl); (focus rfl); (focus rfl); (focus (first | rfl | (go_simp; done))); (focus (intro w' hSw; (try dsimp only at hSw); go_simp; (try with_reducible rfl); done)); (try simp only [Act.put, List.setIfInBounds_toArray, List.set_cons_zero, List.set_cons_succ]))
                | (refine seq_skipG (g := ?_) (d := ?_) (b := ?_) (u := ?_) ?_ ?_ ?_ ?_ (fun _ _ _ h => h) (by kernel_rfl) ?_; rotate_left 4; (focus rfl); (focus rfl); (focus rfl); (focus (first | rfl | (go_simp; done))); (try simp only [Act.put, List.setIfInBounds_toArray, List.set_cons_zero, List.set_cons_succ])))
              refine seq_done (by kernel_rfl) ?_
              have HER : Hid (left.erase (p : Int) = left.take i ++ left.drop q) := by show _ = _; rw [HQI.out]; exact erase_first HJ.out HAI.out
              have HB7 := Lib.hid (HB5.out.trans (HX7.out.mono HB5.out.size))
              have HV7 : Hid (RdL w7 v7 (left.erase (p : Int))) := by show RdL _ _ _; rw [HER.out]; exact HO7.out.rd
              have HBV7 := Lib.hid (HBV5.out.below HX7.out)
              clear HO7 HO6 HO0 HX0 HLW HLX HX6 HX7 HB6 HBV5 HB5 hw1 hw2 hw3 hic hqn hqc hi0 hi1 hq0 hq1
              have HO8 := Lib.hid (own_made w7)
              have HX8 : Hid (Below w7.heap.size w7 (w7.alloc (.cells #[] 3))) := (Below.refl _ _).alloc (Nat.le_refl _) _
              have HH8 := Lib.hid (HH.out.below (HB7.out.alloc HB7.out.size (.cells #[] 3)))
              have HHN : Hid (head.length ≤ 1000) := by show _ ≤ _; have := H12.out; omega
              go_wp2_with (at_builtin; first | (refine wpList_app_int rfl _ _ rfl rfl rfl HO8.out HH8.out (by simp) HHN.out (by simp) ?_; intro v8 w8 ho hg; have HO9 := Lib.hid (own_stay1 ho (.cells #[.int .i64 (p : Int)] 3)); have HX9 := Lib.hid ((own_grow HX8.out HO8.out hg (by simp)).alloc (own_grow HX8.out HO8.out hg (by simp)).size (.cells #[.int .i64 (p : Int)] 3)); clear ho hg) | (refine wpList_app_int rfl _ _ rfl rfl rfl HO9.out (rd_one w8 (p : Int)) (by have := HHN.out; simp; omega) (by simp) HX9.out.size ?_; intro v9 w9 ho hg; have HO10 := Lib.hid ho; have HX10 := Lib.hid (own_grow HX9.out HO9.out hg HX9.out.size); clear ho hg))
              focus
                have HMEM : Hid ((p : Int) ∈ left) := List.mem_of_getElem? HAI.out
                have HPK : Hid ((p : Int) = (k : Int) + 1) := by show _ = _; rw [HP.out]; omega
                have HFK : Hid (foldW (head ++ [(p : Int)]) (left.erase (p : Int)) (bo, z) = foldK head left st (k + 1)) := by
                  have h1 := HMEM.out
                  show _ = _
                  rw [HPK.out] at h1 ⊢
                  rw [HFI.out k h1, HST.out]
                have HCA := Lib.hid (HIH.out (head ++ [(p : Int)]) (left.erase (p : Int)) (bo, z) v9 v7 bvo w9 (by rw [List.length_erase_of_mem HMEM.out, HM.out, HNM.out]; omega) (by rw [List.length_append, List.length_singleton]; have := H12.out; omega) (by rw [List.length_append, List.length_singleton]; omega)
                  (fun x hx => (List.mem_append.1 hx).elim (HSH.out x) (fun h => by rw [List.mem_singleton.1 h]; exact HSL.out _ HMEM.out)) (fun x hx => HSL.out x (List.mem_of_mem_erase hx)) HO10.out.rd (HV7.out.below HX10.out) (HBV7.out.below HX10.out))
                have HB9 := Lib.hid (HB7.out.trans (HX10.out.mono HB7.out.size))
                clear HLD HO10 HO9 HO8 HX10 HX9 HX8 HH8 HV7 HBV7 HB7 HMEM HPK HER HAI HLN HHN HQI
                refine HCA.out.mono ?_
                rintro e w10 ⟨⟨v10, rfl, hbest⟩, hbx⟩
                have HBS := Lib.hid hbest
                have HB10 := Lib.hid (HB9.out.trans (hbx.mono HB9.out.size))
                rw [HFK.out] at HBS ⊢
                clear hbest hbx HCA HB9 HFK
                obtain ⟨s1, hs1⟩ : ∃ s, s = foldK head left st (k + 1) := ⟨_, rfl⟩
                have HS1 := Lib.hid hs1
                rw [← hs1] at HBS ⊢
                clear hs1
                obtain ⟨b1, z1⟩ := s1
                go_wp2_with fail
                go_roundw
                case rel => exact ⟨k + 1, p + 1, (b1, z1), v10, rfl, by rw [HP.out], by have := HP.out; omega, by go_num, rfl, HS1, HBS, HB10⟩
                case measure => simp [intOf]; omega
            · have HJ1 : Hid (∀ j, j < i + 1 → left[j]? ≠ some (p : Int)) := fun j hj => by
                rcases Nat.lt_or_ge j i with h | h
                · exact HJ.out j h
                · obtain rfl : j = i := by omega
                  rw [hat]; exact fun e => hxp (Option.some.inj e)
              have hq : (x == (p : Int)) = false := beq_false_of_ne hxp
              clear hat
              go_wp2_with fail
              clear c1
              go_roundw
              case rel => exact ⟨i + 1, by omega, by go_num, rfl, rfl, HJ1, HBI⟩
              case measure => simp [intOf]; omega
          · obtain rfl : n = i := by omega
            have HNF : Hid ((bo, z) = foldK head left st (k + 1)) := by
              show _ = _
              rw [HST.out]
              refine (HFO.out k (not_mem_all fun j hj => ?_)).symm
              have := HJ.out j (by rw [← HM.out]; exact hj)
              rw [HP.out] at this
              simpa using this
            have HBV1 := Lib.hid (HBV.out.below HBI.out)
            have HBE1 := Lib.hid (HBE.out.trans (HBI.out.mono HBE.out.size))
            go_wp2_with fail
            go_roundw
            case rel => exact ⟨k + 1, p + 1, (bo, z), bvo, rfl, by rw [HP.out], by have := HP.out; omega, by go_num, rfl, HNF, HBV1, HBE1⟩
            case measure => simp [intOf]; omega
      · obtain rfl : 100 = k := by omega
        have hlt' : ¬ (p : Int) ≤ 100 := by omega
        have HE : Hid (foldW head left st = (bo, z)) := by show _ = _; rw [← HFA.out, ← HST.out]
        go_wp2_with fail
        go_ret2
        rw [HE.out]
        exact ⟨⟨_, rfl, HBV.out⟩, HBE.out⟩
end Go.Proofs.YtodckaioeomccaaGreat
namespace Go.Proofs.YtodckaioeomccaaGreat
open Go.RowKit
set_option linter.unusedVariables false
set_option linter.unusedSimpArgs false
theorem results_t4 {P : Program} {fn : Func} {a b c d : Nat} {tmps : Array Value} {w : World} {x y z u : Value} (h : fn.results = #[.tmp a, .tmp b, .tmp c, .tmp d])
    (h1 : tmps.getD a undef = x) (h2 : tmps.getD b undef = y) (h3 : tmps.getD c undef = z) (h4 : tmps.getD d undef = u) : (results fn tmps).run P w = .ok (.tuple #[x, y, z, u]) w := by
  subst h1 h2 h3 h4
  simp [results, h]
/-- What the reference's Sequence returns. -/
def RSeqPost (l : List Int) (w : World) (e : Ending) (w' : World) : Prop :=
  if pitchE l ≠ 0 then e = .returned (.tuple #[.slice none 0 0, .int .i64 0, .int .i64 0, .int .i64 (pitchE l)]) ∧ Below w.heap.size w w'
  else if 50000 < arrR (atL l) l.length then e = .returned (.tuple #[.slice none 0 0, .int .i64 0, .int .i64 0, .int .i64 9]) ∧ Below w.heap.size w w'
  else (∃ v', e = .returned (.tuple #[v', .int .i64 (noiseL (bestA l (arrN l - 1))), .int .i64 (boundL l), .int .i64 0]) ∧ RdL w' v' (bestA l (arrN l - 1))) ∧ Below w.heap.size w w'
theorem sq_take {l : List Int} {k : Nat} {x : Int} (h : l[k]? = some x) : ((l.take (k + 1)).map fun x => x * x).sum = ((l.take k).map fun x => x * x).sum + x * x := by
  rw [take_snoc? h, List.map_append, List.sum_append]; simp
theorem small_take {l : List Int} (hs : SmallP l) (k : Nat) : SmallP (l.take k) := fun x hx => hs x (List.mem_of_mem_take hx)
set_option maxRecDepth 100000 in
set_option maxHeartbeats 4000000 in
theorem rseq_any (v : Value) (l : List Int) (w : World) (h : RdL w v l) : Calls Tryz.prog 25 #[v] w (RSeqPost l w) := by
  have HP1 := Lib.hid (rpitched_any v l w h)
  have HV := Lib.hid h
  by_cases hp : pitchE l = 0
  · rw [hp] at HP1
    obtain ⟨hl0, h12, hs⟩ := pitch_ok hp
    have HA := Lib.hid (rarr_any v l w h h12)
    have HTO : Hid (∀ w', RdL w' v l → Calls Tryz.prog 36 #[v] w' fun e w'' => e = .returned (.int .i64 l.sum) ∧ w'' = w') := fun w' h' => total_any v l w' h' h12 hs
    have HWK : Hid (∀ w', RdL w' v l → Calls Tryz.prog 117 #[.slice none 0 0, v, .slice none 0 0, .int .i64 0] w' (WalkPost w' (some (bestA l (arrN l - 1)), noiseL (bestA l (arrN l - 1))))) := fun w' h' => by
      have := walk_any l.length [] l (none, 0) (.slice none 0 0) v (.slice none 0 0) w' rfl (by simpa using h12) (by simpa using hl0) (fun x hx => by cases hx) hs (Rd.none_ _ _ _) h' rfl
      rwa [walk_best hs] at this
    obtain ⟨A, n, cap, rfl, hn, hcap, hmax, hcm, hc⟩ := h.open_
    obtain ⟨ar, har⟩ : ∃ a, a = arrR (atL l) l.length := ⟨_, rfl⟩
    have HPO : Hid (∀ e w', ((50000 < ar ∧ e = .returned (.tuple #[.slice none 0 0, .int .i64 0, .int .i64 0, .int .i64 9])) ∨ (¬ 50000 < ar ∧ ∃ v', e = .returned (.tuple #[v', .int .i64 (noiseL (bestA l (arrN l - 1))), .int .i64 (boundL l), .int .i64 0]) ∧ RdL w' v' (bestA l (arrN l - 1)))) → Below w.heap.size w w' → RSeqPost l w e w') := fun e w' hq hb => by
      unfold RSeqPost
      rw [if_neg (fun hne => hne hp), ← har]
      rcases hq with ⟨h1, h2⟩ | ⟨h1, h2⟩
      · rw [if_pos h1]; exact ⟨h2, hb⟩
      · rw [if_neg h1]; exact ⟨h2, hb⟩
    rw [← har] at HA
    obtain ⟨BA, hBA⟩ : ∃ z, z = bestA l (arrN l - 1) := ⟨_, rfl⟩
    rw [← hBA] at HWK HPO
    obtain ⟨NB, hNB⟩ : ∃ z, z = noiseL BA := ⟨_, rfl⟩
    rw [← hNB] at HWK HPO
    have hn0 : 0 < n := by rw [← hn]; exact List.length_pos_iff.2 hl0
    have h12' : n ≤ 12 := by omega
    have hsb := sum_small hs h12 l.length
    rw [List.take_length] at hsb
    have HSQ : Hid (∀ k, 0 ≤ ((l.take k).map fun x => x * x).sum ∧ ((l.take k).map fun x => x * x).sum ≤ 120000) := fun k => by
      have := sq_small (small_take hs k)
      have h2 : (l.take k).length ≤ 12 := by rw [List.length_take]; omega
      omega
    have HST : Hid (∀ (k : Nat) (x : Int), l[k]? = some x → ((l.take (k + 1)).map fun x => x * x).sum = ((l.take k).map fun x => x * x).sum + x * x) := fun k x hx => sq_take hx
    have HFU : Hid (((l.take n).map fun x => x * x).sum = (l.map fun x => x * x).sum) := by show _ = _; rw [← hn, List.take_length]
    have HXS : Hid (∀ (k : Nat) (x : Int), l[k]? = some x → 1 ≤ x ∧ x ≤ 100) := fun k x hx => hs x (List.mem_of_getElem? hx)
    have HBD1 : Hid (n = 1 → boundL l = 0) := fun e => by unfold boundL; rw [if_neg (by omega)]
    have HBD2 : Hid (1 < n → boundL l = (l.sum * l.sum - (l.map fun x => x * x).sum + n - 2).tdiv ((n - 1 : Nat) : Int)) := fun e => by unfold boundL; rw [if_pos (by omega), hn]
    obtain ⟨B, hB⟩ : ∃ z, z = boundL l := ⟨_, rfl⟩
    rw [← hB] at HPO HBD1 HBD2
    obtain ⟨S, hS⟩ : ∃ z, z = l.sum := ⟨_, rfl⟩
    rw [← hS] at HTO HBD2 hsb
    have HSB := Lib.hid hsb
    have HC := Lib.hid hc
    clear hp h hs hl0 h12 hcm hc hn har hBA hNB hB hS hsb
    go_enter Tryz.func25, Tryz.ntmps25
    go_wp2_with fail
    refine HP1.out.mono ?_
    rintro e w0 ⟨rfl, hwx⟩
    obtain rfl := hwx.symm
    clear hwx HP1
    go_wp2_with fail
    refine HA.out.mono ?_
    rintro e w1 ⟨rfl, hbx⟩
    have HB1 := Lib.hid hbx
    clear hbx HA
    by_cases hbig : 50000 < ar
    · have hbig' : (50000 : Int) < (ar : Int) := by omega
      have HPF := Lib.hid (fun e w' he => HPO.out e w' (.inl ⟨hbig, he⟩))
      clear hbig
      go_wp2_with fail
      exact bodyPost_ret (results_t4 rfl (by rfl) (by rfl) (by rfl) (by rfl)) rfl (HPF.out _ _ rfl HB1.out)
    · have hbig' : ¬ (50000 : Int) < (ar : Int) := by omega
      have HPF := Lib.hid (fun e w' he => HPO.out e w' (.inr ⟨hbig, he⟩))
      clear hbig
      go_wp2_with fail
      refine (HWK.out _ (HV.out.below HB1.out)).mono ?_
      rintro e w2 ⟨⟨vb, rfl, hbest⟩, hbx⟩
      obtain ⟨bb, bo, bn, bc, rfl, hrb⟩ := hbest
      have HRB := Lib.hid hrb
      have HB2 := Lib.hid (HB1.out.trans (hbx.mono HB1.out.size))
      clear hbx hrb HWK
      obtain ⟨n1, hn1⟩ : ∃ m, m = n - 1 := ⟨_, rfl⟩
      have hw1 : IntKind.i64.wrap ((n : Int) - 1) = (n1 : Int) := by rw [IntWalk.i64_in _ (by omega)]; omega
      by_cases h1 : n = 1
      · have hB0 := HBD1.out h1
        subst hB0
        obtain rfl : n1 = 0 := by omega
        clear h1 hn1
        go_wp2_with fail
        exact bodyPost_ret (results_t4 rfl (by rfl) (by rfl) (by rfl) (by rfl)) rfl (HPF.out _ _ ⟨_, rfl, HRB.out⟩ HB2.out)
      · have hb0 : ((n1 : Int) == 0) = false := beq_false_of_ne (by omega)
        have hb1 : ¬ n1 = 0 := by omega
        have HN1 := Lib.hid hn1
        have HBB := Lib.hid (HBD2.out (by omega))
        clear hn1 h1
        go_wp2_with fail
        go_loopw [10, 11] (fun sv iv wr => ∃ (k : Nat) (s : Int), k ≤ n ∧ iv = .int .i64 (k : Int) ∧ sv = .int .i64 s ∧ Hid (s = ((l.take k).map fun x => x * x).sum) ∧ Hid (Below w2.heap.size w2 wr)) (fun _ iv _ => n - (intOf iv).toNat)
        case atStart => exact ⟨0, 0, Nat.zero_le _, rfl, rfl, rfl, Below.refl _ _⟩
        case round =>
          obtain ⟨k, s, hk, rfl, rfl, HS, HBR⟩ := hrel
          have hsq := HSQ.out k
          rw [← HS.out] at hsq
          by_cases hlt : k < n
          · obtain ⟨b, off, x, rfl, hb, hx, hcx⟩ := HC.out k hlt
            have c1 := (HBR.out.cell (p := ⟨b, off + k, none⟩) (Nat.lt_of_lt_of_le hb HB2.out.size)).trans ((HB2.out.cell (p := ⟨b, off + k, none⟩) hb).trans hcx)
            have hxs := HXS.out k x hx
            have hs1 := HST.out k x hx
            have hsq1 := HSQ.out (k + 1)
            obtain ⟨p, hp⟩ : ∃ p, p = x * x := ⟨_, rfl⟩
            have hp0 : 0 ≤ p ∧ p ≤ 10000 := by
              rw [hp]
              exact ⟨Int.mul_nonneg (by omega) (by omega), Int.mul_le_mul hxs.2 hxs.2 (by omega) (by omega)⟩
            have hw2 : IntKind.i64.wrap (x * x) = p := by rw [← hp]; exact IntWalk.i64_in _ (by omega)
            obtain ⟨s', hs'⟩ : ∃ s', s' = s + p := ⟨_, rfl⟩
            have hw3 : IntKind.i64.wrap (s + p) = s' := by rw [hs']; exact IntWalk.i64_in _ (by omega)
            have HS1 : Hid (s' = ((l.take (k + 1)).map fun x => x * x).sum) := by show _ = _; rw [hs1, ← HS.out, hs', hp]
            clear hb hx hcx hxs hs1 hsq1 hsq hp hp0 hs'
            go_wp2_with fail
            go_quiet (fail)
            clear c1 hw2 hw3
            have HBR1 : Hid (Below w2.heap.size w2 (wr.drewN nq)) := HBR.out.trans ((⟨rfl, rfl, rfl, Nat.le_refl _, fun _ _ => rfl⟩ : Below wr.heap.size wr (wr.drewN nq)).mono HBR.out.size)
            go_wp2_with fail
            go_roundw
            case rel => exact ⟨k + 1, s', by omega, by go_num, rfl, HS1, HBR1⟩
            case measure => simp [intOf]; omega
          · obtain rfl : n = k := by omega
            have hsb := HSB.out
            obtain ⟨z, hz⟩ : ∃ z, z = S * S := ⟨_, rfl⟩
            have hz0 : 0 ≤ z ∧ z ≤ 1440000 := by
              rw [hz]
              exact ⟨Int.mul_nonneg (by omega) (by omega), Int.mul_le_mul hsb.2 hsb.2 (by omega) (by omega)⟩
            have hw2 : IntKind.i64.wrap (S * S) = z := by rw [← hz]; exact IntWalk.i64_in _ (by omega)
            obtain ⟨d, hd⟩ : ∃ d, d = z - s := ⟨_, rfl⟩
            have hw3 : IntKind.i64.wrap (z - s) = d := by rw [hd]; exact IntWalk.i64_in _ (by omega)
            have hn1 := HN1.out
            obtain ⟨d2, hd2⟩ : ∃ d2, d2 = d + (n1 : Int) := ⟨_, rfl⟩
            have hw4 : IntKind.i64.wrap (d + (n1 : Int)) = d2 := by rw [hd2]; exact IntWalk.i64_in _ (by omega)
            obtain ⟨d3, hd3⟩ : ∃ d3, d3 = d2 - 1 := ⟨_, rfl⟩
            have hw5 : IntKind.i64.wrap (d2 - 1) = d3 := by rw [hd3]; exact IntWalk.i64_in _ (by omega)
            have hBe : d3.tdiv (n1 : Int) = B := by
              rw [HBB.out, ← HFU.out, ← HS.out, ← hz, hn1]
              congr 1
              omega
            have hBn := tdiv_small (a := d3) (b := (n1 : Int)) (c := 2000000) (by omega)
            rw [hBe] at hBn
            have hw6 : IntKind.i64.wrap B = B := IntWalk.i64_in _ (by omega)
            have HB5 := Lib.hid (HB2.out.trans (HBR.out.mono HB2.out.size))
            have HRB5 := Lib.hid (HRB.out.below HBR.out)
            clear hsb hsq hz hz0 hd hn1 hd2 hd3 hBn
            go_wp2_with fail
            obtain ⟨W5, hW5⟩ : ∃ W, W = wr.drew := ⟨_, rfl⟩
            have HB6 : Hid (Below w.heap.size w W5) := by rw [hW5]; exact HB5.out.drew
            have HRB6 : Hid (RdL W5 (.slice (some ⟨bb, bo, none⟩) bn bc) BA) := by rw [hW5]; exact HRB5.out.below ((Below.refl _ _).drew)
            have HT1 := Lib.hid (HTO.out W5 (HV.out.below HB6.out))
            refine seq_start (S := fun _ => True) (by kernel_rfl) (by kernel_rfl) trivial ?_
            rw [← hW5]
            clear hW5
            repeat (first
              | (refine seq_take0 (v := ?_) ?_ (fun _ _ _ h => h) (by kernel_rfl) ?_ ?_; rotate_left; (focus rfl); (focus (intro w' hSw; (try dsimp only at hSw); go_simp; (try with_reducible rfl); done)); (try simp only [Act.put, List.setIfInBounds_toArray, List.set_cons_zero, List.set_cons_succ]))
              | (refine seq_takeG (v := ?_) (g := ?_) (d := ?_) (b := ?_) (u := ?_) ?_ ?_ ?_ ?_ (fun _ _ _ h => h) (by kernel_rfl) ?_ ?_; rotate_left 5; (focus rfl); (focus rfl); (focus rfl); (focus (first | rfl | (go_simp; done))); (focus (intro w' hSw; (try dsimp only at hSw); go_simp; (try with_reducible rfl); done)); (try simp only [Act.put, List.setIfInBounds_toArray, List.set_cons_zero, List.set_cons_succ]))
              | (refine seq_skipG (g := ?_) (d := ?_) (b := ?_) (u := ?_) ?_ ?_ ?_ ?_ (fun _ _ _ h => h) (by kernel_rfl) ?_; rotate_left 4; (focus rfl); (focus rfl); (focus rfl); (focus (first | rfl | (go_simp; done))); (try simp only [Act.put, List.setIfInBounds_toArray, List.set_cons_zero, List.set_cons_succ])))
            refine seq_pull 1 ?_
            simp only [places, pull]
            (first
              | (refine seq_take0 (v := ?_) ?_ (fun _ _ _ h => h) (by kernel_rfl) ?_ ?_; rotate_left; (focus rfl); (focus (intro w' hSw; (try dsimp only at hSw); go_simp; (try with_reducible rfl); done)); (try simp only [Act.put, List.setIfInBounds_toArray, List.set_cons_zero, List.set_cons_succ]))
              | (refine seq_takeG (v := ?_) (g := ?_) (d := ?_) (b := ?_) (u := ?_) ?_ ?_ ?_ ?_ (fun _ _ _ h => h) (by kernel_rfl) ?_ ?_; rotate_left 5; (focus rfl); (focus rfl); (focus rfl); (focus (first | rfl | (go_simp; done))); (focus (intro w' hSw; (try dsimp only at hSw); go_simp; (try with_reducible rfl); done)); (try simp only [Act.put, List.setIfInBounds_toArray, List.set_cons_zero, List.set_cons_succ]))
              | (refine seq_skipG (g := ?_) (d := ?_) (b := ?_) (u := ?_) ?_ ?_ ?_ ?_ (fun _ _ _ h => h) (by kernel_rfl) ?_; rotate_left 4; (focus rfl); (focus rfl); (focus rfl); (focus (first | rfl | (go_simp; done))); (try simp only [Act.put, List.setIfInBounds_toArray, List.set_cons_zero, List.set_cons_succ])))
            refine seq_pull 3 ?_
            simp only [places, pull]
            (first
              | (refine seq_take0 (v := ?_) ?_ (fun _ _ _ h => h) (by kernel_rfl) ?_ ?_; rotate_left; (focus rfl); (focus (intro w' hSw; (try dsimp only at hSw); go_simp; (try with_reducible rfl); done)); (try simp only [Act.put, List.setIfInBounds_toArray, List.set_cons_zero, List.set_cons_succ]))
              | (refine seq_takeG (v := ?_) (g := ?_) (d := ?_) (b := ?_) (u := ?_) ?_ ?_ ?_ ?_ (fun _ _ _ h => h) (by kernel_rfl) ?_ ?_; rotate_left 5; (focus rfl); (focus rfl); (focus rfl); (focus (first | rfl | (go_simp; done))); (focus (intro w' hSw; (try dsimp only at hSw); go_simp; (try with_reducible rfl); done)); (try simp only [Act.put, List.setIfInBounds_toArray, List.set_cons_zero, List.set_cons_succ]))
              | (refine seq_skipG (g := ?_) (d := ?_) (b := ?_) (u := ?_) ?_ ?_ ?_ ?_ (fun _ _ _ h => h) (by kernel_rfl) ?_; rotate_left 4; (focus rfl); (focus rfl); (focus rfl); (focus (first | rfl | (go_simp; done))); (try simp only [Act.put, List.setIfInBounds_toArray, List.set_cons_zero, List.set_cons_succ])))
            refine seq_pull 4 ?_
            simp only [places, pull]
            (first
              | (refine seq_take0 (v := ?_) ?_ (fun _ _ _ h => h) (by kernel_rfl) ?_ ?_; rotate_left; (focus rfl); (focus (intro w' hSw; (try dsimp only at hSw); go_simp; (try with_reducible rfl); done)); (try simp only [Act.put, List.setIfInBounds_toArray, List.set_cons_zero, List.set_cons_succ]))
              | (refine seq_takeG (v := ?_) (g := ?_) (d := ?_) (b := ?_) (u := ?_) ?_ ?_ ?_ ?_ (fun _ _ _ h => h) (by kernel_rfl) ?_ ?_; rotate_left 5; (focus rfl); (focus rfl); (focus rfl); (focus (first | rfl | (go_simp; done))); (focus (intro w' hSw; (try dsimp only at hSw); go_simp; (try with_reducible rfl); done)); (try simp only [Act.put, List.setIfInBounds_toArray, List.set_cons_zero, List.set_cons_succ]))
              | (refine seq_skipG (g := ?_) (d := ?_) (b := ?_) (u := ?_) ?_ ?_ ?_ ?_ (fun _ _ _ h => h) (by kernel_rfl) ?_; rotate_left 4; (focus rfl); (focus rfl); (focus rfl); (focus (first | rfl | (go_simp; done))); (try simp only [Act.put, List.setIfInBounds_toArray, List.set_cons_zero, List.set_cons_succ])))
            refine seq_pull 6 ?_
            simp only [places, pull]
            (first
              | (refine seq_take0 (v := ?_) ?_ (fun _ _ _ h => h) (by kernel_rfl) ?_ ?_; rotate_left; (focus rfl); (focus (intro w' hSw; (try dsimp only at hSw); go_simp; (try with_reducible rfl); done)); (try simp only [Act.put, List.setIfInBounds_toArray, List.set_cons_zero, List.set_cons_succ]))
              | (refine seq_takeG (v := ?_) (g := ?_) (d := ?_) (b := ?_) (u := ?_) ?_ ?_ ?_ ?_ (fun _ _ _ h => h) (by kernel_rfl) ?_ ?_; rotate_left 5; (focus rfl); (focus rfl); (focus rfl); (focus (first | rfl | (go_simp; done))); (focus (intro w' hSw; (try dsimp only at hSw); go_simp; (try with_reducible rfl); done)); (try simp only [Act.put, List.setIfInBounds_toArray, List.set_cons_zero, List.set_cons_succ]))
              | (refine seq_skipG (g := ?_) (d := ?_) (b := ?_) (u := ?_) ?_ ?_ ?_ ?_ (fun _ _ _ h => h) (by kernel_rfl) ?_; rotate_left 4; (focus rfl); (focus rfl); (focus rfl); (focus (first | rfl | (go_simp; done))); (try simp only [Act.put, List.setIfInBounds_toArray, List.set_cons_zero, List.set_cons_succ])))
            refine seq_op (by kernel_rfl) (by rfl) (fun K9 hK9 => ?_)
            go_simp
            refine HT1.out.mono ?_
            rintro e w6 ⟨rfl, hwx⟩
            obtain rfl := hwx.symm
            clear hwx
            refine hK9.out _ _ trivial ?_
            clear hK9 K9
            (try simp only [Act.put, List.setIfInBounds_toArray, List.set_cons_zero, List.set_cons_succ])
            refine seq_op (by kernel_rfl) (by rfl) (fun K9 hK9 => ?_)
            go_simp
            refine HT1.out.mono ?_
            rintro e w6 ⟨rfl, hwx⟩
            obtain rfl := hwx.symm
            clear hwx
            refine hK9.out _ _ trivial ?_
            clear hK9 K9
            (try simp only [Act.put, List.setIfInBounds_toArray, List.set_cons_zero, List.set_cons_succ])
            repeat (first
              | (refine seq_take0 (v := ?_) ?_ (fun _ _ _ h => h) (by kernel_rfl) ?_ ?_; rotate_left; (focus rfl); (focus (intro w' hSw; (try dsimp only at hSw); go_simp; (try with_reducible rfl); done)); (try simp only [Act.put, List.setIfInBounds_toArray, List.set_cons_zero, List.set_cons_succ]))
              | (refine seq_takeG (v := ?_) (g := ?_) (d := ?_) (b := ?_) (u := ?_) ?_ ?_ ?_ ?_ (fun _ _ _ h => h) (by kernel_rfl) ?_ ?_; rotate_left 5; (focus rfl); (focus rfl); (focus rfl); (focus (first | rfl | (go_simp; done))); (focus (intro w' hSw; (try dsimp only at hSw); go_simp; (try with_reducible rfl); done)); (try simp only [Act.put, List.setIfInBounds_toArray, List.set_cons_zero, List.set_cons_succ]))
              | (refine seq_skipG (g := ?_) (d := ?_) (b := ?_) (u := ?_) ?_ ?_ ?_ ?_ (fun _ _ _ h => h) (by kernel_rfl) ?_; rotate_left 4; (focus rfl); (focus rfl); (focus rfl); (focus (first | rfl | (go_simp; done))); (try simp only [Act.put, List.setIfInBounds_toArray, List.set_cons_zero, List.set_cons_succ])))
            refine seq_done (by kernel_rfl) ?_
            go_wp2_with fail
            exact bodyPost_ret (results_t4 rfl (by rfl) (by rfl) (by rfl) (by rfl)) rfl (HPF.out _ _ ⟨_, rfl, HRB6.out⟩ HB6.out)
  · obtain ⟨p, hpp⟩ : ∃ p, p = pitchE l := ⟨_, rfl⟩
    have HPO : Hid (∀ e w', e = .returned (.tuple #[.slice none 0 0, .int .i64 0, .int .i64 0, .int .i64 p]) → Below w.heap.size w w' → RSeqPost l w e w') := fun e w' he hb => by
      unfold RSeqPost
      rw [if_pos hp, he, hpp]
      exact ⟨rfl, hb⟩
    rw [← hpp] at HP1 hp
    obtain ⟨A, cap, rfl, -⟩ := h.at_
    have hpb : (p == 0) = false := beq_false_of_ne hp
    clear h hpp
    go_enter Tryz.func25, Tryz.ntmps25
    go_wp2_with fail
    refine HP1.out.mono ?_
    rintro e w0 ⟨rfl, hwx⟩
    obtain rfl := hwx.symm
    clear hwx HP1
    go_wp2_with fail
    exact bodyPost_ret (results_t4 rfl (by rfl) (by rfl) (by rfl) (by rfl)) rfl (HPO.out _ _ rfl (Below.refl _ _))
end Go.Proofs.YtodckaioeomccaaGreat
namespace Go.Proofs.YtodckaioeomccaaGreat
set_option linter.unusedVariables false
set_option linter.unusedSimpArgs false
theorem fac_dvd : ∀ (n a b : Nat), a + b = n → facN a * facN b ∣ facN (a + b)
  | 0, a, b, h => by
    obtain rfl : a = 0 := by omega
    obtain rfl : b = 0 := by omega
    exact Nat.dvd_refl _
  | n + 1, 0, b, h => by rw [Nat.zero_add]; exact ⟨1, by simp [facN]⟩
  | n + 1, a + 1, 0, h => by exact ⟨1, by simp [facN]⟩
  | n + 1, a + 1, b + 1, h => by
    obtain ⟨x, hx⟩ := fac_dvd n a (b + 1) (by omega)
    obtain ⟨y, hy⟩ := fac_dvd n (a + 1) b (by omega)
    refine ⟨x + y, ?_⟩
    have e : a + 1 + (b + 1) = (a + b + 1) + 1 := by omega
    rw [e]
    show facN (a + b + 1) * (a + b + 1 + 1) = _
    rw [show a + b + 1 + 1 = (a + 1) + (b + 1) by omega, Nat.mul_add (facN (a + b + 1))]
    have h1 : facN (a + b + 1) * (a + 1) = facN (a + 1) * facN (b + 1) * x := by
      rw [show a + b + 1 = a + (b + 1) by omega, hx]
      show _ = facN a * (a + 1) * facN (b + 1) * x
      simp only [Nat.mul_assoc, Nat.mul_comm, Nat.mul_left_comm]
    have h2 : facN (a + b + 1) * (b + 1) = facN (a + 1) * facN (b + 1) * y := by
      rw [show a + b + 1 = a + 1 + b by omega, hy]
      show _ = facN (a + 1) * (facN b * (b + 1)) * y
      simp only [Nat.mul_assoc, Nat.mul_comm, Nat.mul_left_comm]
    rw [h1, h2, Nat.mul_add]
/-- The product of the factorials of the numbers of equal entries. -/
def fctL : List Int → Nat
  | [] => 1
  | x :: l => (l.count x + 1) * fctL l
theorem fctL_pos : ∀ l, 0 < fctL l
  | [] => Nat.one_pos
  | x :: l => Nat.mul_pos (Nat.succ_pos _) (fctL_pos l)
theorem fctL_perm {a b : List Int} (h : a.Perm b) : fctL a = fctL b := by
  induction h with
  | nil => rfl
  | cons x h ih => simp only [fctL]; rw [h.count_eq, ih]
  | swap x y l =>
    simp only [fctL, List.count_cons]
    by_cases hxy : x = y
    · subst hxy; rfl
    · have h1 : (x == y) = false := beq_false_of_ne hxy
      have h2 : (y == x) = false := beq_false_of_ne fun e => hxy e.symm
      simp only [h1, h2]
      simp only [Bool.false_eq_true, if_false, Nat.add_zero]
      simp only [Nat.mul_assoc, Nat.mul_comm, Nat.mul_left_comm]
  | trans _ _ h1 h2 => exact h1.trans h2
theorem fctL_split (x : Int) : ∀ l : List Int, fctL l = facN (l.count x) * fctL (l.filter (fun y => y != x))
  | [] => by simp [fctL, facN]
  | y :: l => by
    have ih := fctL_split x l
    by_cases h : y = x
    · subst h
      rw [List.count_cons_self, List.filter_cons_of_neg (by simp)]
      show (l.count y + 1) * fctL l = facN (l.count y) * (l.count y + 1) * _
      rw [ih]
      simp only [Nat.mul_assoc, Nat.mul_comm, Nat.mul_left_comm]
    · rw [List.count_cons_of_ne h, List.filter_cons_of_pos (by simpa using h)]
      show (l.count y + 1) * fctL l = facN (l.count x) * (((l.filter (fun y => y != x)).count y + 1) * fctL (l.filter (fun y => y != x)))
      rw [List.count_filter (by simpa using h), ih]
      simp only [Nat.mul_assoc, Nat.mul_comm, Nat.mul_left_comm]
theorem len_split (x : Int) : ∀ l : List Int, l.length = l.count x + (l.filter (fun y => y != x)).length
  | [] => by simp
  | y :: l => by
    have ih := len_split x l
    by_cases h : y = x
    · subst h
      rw [List.count_cons_self, List.filter_cons_of_neg (by simp), List.length_cons]; omega
    · rw [List.count_cons_of_ne h, List.filter_cons_of_pos (by simpa using h), List.length_cons, List.length_cons]; omega
theorem fctL_dvd : ∀ (n : Nat) (l : List Int), l.length ≤ n → fctL l ∣ facN l.length
  | 0, l, h => by
    obtain rfl := List.length_eq_zero_iff.1 (by omega : l.length = 0)
    exact Nat.dvd_refl _
  | n + 1, [], h => Nat.dvd_refl _
  | n + 1, x :: l, h => by
    have h1 := len_split x (x :: l)
    have h2 : 0 < (x :: l).count x := by rw [List.count_cons_self]; omega
    have ih := fctL_dvd n ((x :: l).filter (fun y => y != x)) (by omega)
    rw [fctL_split x, h1]
    exact Nat.dvd_trans (Nat.mul_dvd_mul_left _ ih) (fac_dvd _ _ _ rfl)
def prfL (f : Nat → Int) (k : Nat) : List Int := (List.range k).map f
theorem prfL_succ (f : Nat → Int) (k : Nat) : prfL f (k + 1) = prfL f k ++ [f k] := by unfold prfL; rw [List.range_succ, List.map_append]; rfl
theorem prfL_len (f : Nat → Int) (k : Nat) : (prfL f k).length = k := by unfold prfL; rw [List.length_map, List.length_range]
theorem prfL_list (l : List Int) : prfL (atL l) l.length = l := by
  unfold prfL
  refine List.ext_getElem (by rw [List.length_map, List.length_range]) fun i h1 h2 => ?_
  rw [List.getElem_map, List.getElem_range]
  exact atL_of (List.getElem?_eq_getElem h2)
theorem arr_step {f : Nat → Int} {k a s : Nat} (h : a * fctL (prfL f k) = facN k) (hs : s = (prfL f k).count (f k) + 1) : a * (k + 1) / s * fctL (prfL f (k + 1)) = facN (k + 1) := by
  have hp : fctL (prfL f (k + 1)) = s * fctL (prfL f k) := by
    rw [prfL_succ, fctL_perm (List.perm_append_singleton (f k) (prfL f k)), hs]; rfl
  obtain ⟨t, ht⟩ := fctL_dvd (k + 1) (prfL f (k + 1)) (by rw [prfL_len]; exact Nat.le_refl _)
  rw [prfL_len, hp] at ht
  have hF := fctL_pos (prfL f k)
  have h1 : a * (k + 1) = t * s := by
    refine Nat.eq_of_mul_eq_mul_right hF ?_
    have e : facN (k + 1) = facN k * (k + 1) := rfl
    rw [e, ← h] at ht
    calc a * (k + 1) * fctL (prfL f k) = a * fctL (prfL f k) * (k + 1) := by simp only [Nat.mul_assoc, Nat.mul_comm, Nat.mul_left_comm]
      _ = s * fctL (prfL f k) * t := ht
      _ = t * s * fctL (prfL f k) := by simp only [Nat.mul_assoc, Nat.mul_comm, Nat.mul_left_comm]
  rw [h1, Nat.mul_div_cancel _ (by omega), hp, ht, Nat.mul_comm t]
theorem sameR_count (f : Nat → Int) (i : Nat) : ∀ k, sameR f i k = (prfL f k).count (f i) + 1
  | 0 => rfl
  | k + 1 => by
    rw [prfL_succ, List.count_append, List.count_singleton]
    unfold sameR
    rw [sameR_count f i k]
    by_cases h : f k = f i
    · rw [if_pos h, if_pos (by simpa using h)]
    · rw [if_neg h, if_neg (by simpa using h)]
theorem arrR_fac (f : Nat → Int) : ∀ k, arrR f k * fctL (prfL f k) = facN k
  | 0 => rfl
  | k + 1 => arr_step (arrR_fac f k) (sameR_count f k k)
theorem runN_count {f : Nat → Int} {n : Nat} (hf : ∀ i j, i ≤ j → j < n → f i ≤ f j) : ∀ k, k < n → runN f (k + 1) = (prfL f k).count (f k) + 1
  | 0, _ => by simp [runN, prfL]
  | k + 1, h => by
    have ih := runN_count hf k (by omega)
    show (if 0 < k + 1 ∧ f (k + 1) ≠ f (k + 1 - 1) then 1 else runN f (k + 1) + 1) = _
    rw [Nat.add_sub_cancel]
    by_cases he : f (k + 1) = f k
    · rw [if_neg (fun h => h.2 he), ih, prfL_succ, List.count_append, List.count_singleton, he, if_pos (by simp)]
    · rw [if_pos ⟨by omega, he⟩]
      have h0 : (prfL f (k + 1)).count (f (k + 1)) = 0 := by
        rw [List.count_eq_zero]
        intro hm
        obtain ⟨i, hi, e⟩ := List.mem_map.1 hm
        have hi' := List.mem_range.1 hi
        have a := hf i k (by omega) (by omega)
        have b := hf k (k + 1) (by omega) h
        omega
      rw [h0]
theorem cntA_fct {f : Nat → Int} {n : Nat} (hf : ∀ i j, i ≤ j → j < n → f i ≤ f j) : ∀ k, k ≤ n → cntA f k * fctL (prfL f k) = facN k
  | 0, _ => rfl
  | k + 1, h => arr_step (cntA_fct hf k (by omega)) (runN_count hf k (by omega))
theorem sorted_at {l : List Int} (h : Arr.Asc l) : ∀ i j, i ≤ j → j < l.length → atL l i ≤ atL l j := fun i j hij hj => by
  rw [atL_of (List.getElem?_eq_getElem hj), atL_of (List.getElem?_eq_getElem (show i < l.length by omega))]
  rcases Nat.eq_or_lt_of_le hij with rfl | hlt
  · exact Int.le_refl _
  · exact (List.pairwise_iff_getElem.1 h) i j (by omega) hj hlt
theorem cnt_eq (l : List Int) : cntA (atL (sortL l)) l.length = arrR (atL l) l.length := by
  have hp := sortL_perm l
  have h1 := cntA_fct (sorted_at (sortL_asc l)) (sortL l).length (Nat.le_refl _)
  rw [prfL_list, hp.length_eq, fctL_perm hp] at h1
  have h2 := arrR_fac (atL l) l.length
  rw [prfL_list] at h2
  exact Nat.eq_of_mul_eq_mul_right (fctL_pos l) (h1.trans h2.symm)
end Go.Proofs.YtodckaioeomccaaGreat
