/- The pieces of the program's Order: its closures, and the search for a step. -/
import Derived.Test.YtodckaioeomccaaGreatPart07
import Derived.Test.YtodckaioeomccaaGreatPart08
import Derived.Test.YtodckaioeomccaaGreatPart09
import Derived.RangeFuncBox
namespace Go.Proofs.YtodckaioeomccaaGreat
open Go.RowKit Go.Proofs.OrdS
set_option linter.unusedVariables false
set_option linter.unusedSimpArgs false
theorem enters_ord1 : ∀ args w, (callFunc 137 args).run Tryz.prog w = .ok (.enter 137 args) w := enters_of Tryz.func137 (by kernel_rfl) rfl
theorem enters_ord2 : ∀ args w, (callFunc 139 args).run Tryz.prog w = .ok (.enter 139 args) w := enters_of Tryz.func139 (by kernel_rfl) rfl
theorem enters_ord3 : ∀ args w, (callFunc 142 args).run Tryz.prog w = .ok (.enter 142 args) w := enters_of Tryz.func142 (by kernel_rfl) rfl
theorem RdB.vals {w : World} {v : Value} {l : List ByteArray} (h : RdB w v l) : Rd id w (fun _ => True) v (l.map Value.string) := by
  obtain ⟨A, cap, rfl, h1, h2, h3⟩ := h
  refine ⟨A, cap, by simp, by simpa using h1, h2, fun hn => ?_⟩
  obtain ⟨b, off, rfl, hb, hc⟩ := h3 (fun e => hn (by rw [e]; rfl))
  refine ⟨b, off, rfl, trivial, fun k hk => ?_⟩
  have hk' : k < l.length := by simpa using hk
  rw [hc k hk']; simp
/-- Some place of a list of names at which p holds. -/
theorem any_vals (l : List ByteArray) (p : ByteArray → Bool) : anyIdx (fun i => p (l.getD i ⟨#[]⟩)) (l.map Value.string).length = l.any p := by
  unfold anyIdx
  rw [List.length_map, Bool.eq_iff_iff, List.any_eq_true, List.any_eq_true]
  constructor
  · rintro ⟨i, hi, h⟩
    have hi := List.mem_range.1 hi
    refine ⟨l[i], List.getElem_mem hi, ?_⟩
    simpa [List.getD, List.getElem?_eq_getElem hi] using h
  · rintro ⟨x, hx, h⟩
    obtain ⟨i, hi, rfl⟩ := List.mem_iff_getElem.1 hx
    refine ⟨i, List.mem_range.2 hi, ?_⟩
    simpa [List.getD, List.getElem?_eq_getElem hi] using h
set_option maxRecDepth 100000 in
theorem ord1_any (nm : ByteArray) (b mb c : Nat) (m : ByteArray → Bool) (w : World) (hnm : nm.size ≤ maxLen) (h1 : w.cell? ⟨b, 0, none⟩ = some (.map (some mb))) (h2 : SetIs w mb c m) :
    Calls Tryz.prog 137 #[.string nm, .pointer (some ⟨b, 0, none⟩)] w fun e w' => e = .returned (.bool (!m nm)) ∧ w' = w := by
  have hlk := h2.look hnm
  obtain ⟨q, hq⟩ : ∃ q, q = m nm := ⟨_, rfl⟩
  rw [← hq] at hlk ⊢
  clear hq h2 hnm
  go_enter Tryz.func137, Tryz.ntmps137
  go_wp2_with fail
  go_ret
  exact ⟨rfl, rfl⟩
set_option maxRecDepth 100000 in
theorem ord2_any (nm : ByteArray) (b : Nat) (ov : Value) (out : List ByteArray) (w : World) (h1 : w.cell? ⟨b, 0, none⟩ = some ov) (h2 : RdB w ov out) :
    Calls Tryz.prog 139 #[.string nm, .pointer (some ⟨b, 0, none⟩)] w fun e w' => e = .returned (.bool (!has out nm)) ∧ w' = w := by
  have HC := Lib.hid (containsS_any ov out nm w h2)
  obtain ⟨A, cap, rfl, _⟩ := h2.at_
  obtain ⟨q, hq⟩ : ∃ q, q = has out nm := ⟨_, rfl⟩
  rw [← hq] at HC ⊢
  clear hq h2
  go_enter Tryz.func139, Tryz.ntmps139
  go_wp2_with fail
  refine HC.out.mono ?_
  rintro e w1 ⟨rfl, hwx⟩
  obtain rfl := hwx
  go_wp2_with fail
  go_ret
  exact ⟨rfl, rfl⟩
/-- Some of the names is not known. -/
theorem unk_any (v : Value) (l : List ByteArray) (b mb c : Nat) (m : ByteArray → Bool) (w : World) (hv : RdB w v l) (hl : ∀ s ∈ l, s.size ≤ maxLen) (h1 : w.cell? ⟨b, 0, none⟩ = some (.map (some mb))) (h2 : SetIs w mb c m) :
    Calls Tryz.prog 138 #[v, .func (.func 137) #[] #[.pointer (some ⟨b, 0, none⟩)]] w fun e w' => e = .returned (.bool (l.any fun a => !m a)) ∧ Below w.heap.size w w' := by
  rw [← any_vals l (fun a => !m a)]
  refine containsFuncS_any v (l.map Value.string) (fun _ => True) 137 #[.pointer (some ⟨b, 0, none⟩)] enters_ord1 _ w hv.vals (fun i u hu w' hb => ?_)
  rw [List.getElem?_map] at hu
  obtain ⟨y, hy, rfl⟩ := Option.map_eq_some_iff.1 hu
  have e : l.getD i ⟨#[]⟩ = y := by simp [List.getD, hy]
  rw [e]
  refine (ord1_any y b mb c m w' (hl y (List.mem_of_getElem? hy)) ((hb.cell (p := ⟨b, 0, none⟩) (World.block_lt_of_cell? w ⟨b, _, none⟩ h1)).trans h1) (h2.same (hb.block _ h2.lt))).mono ?_
  rintro e w1 ⟨rfl, rfl⟩
  exact ⟨rfl, Below.refl _ _⟩
/-- Some of the names is not done. -/
theorem wait_any (v : Value) (l : List ByteArray) (b : Nat) (ov : Value) (out : List ByteArray) (w : World) (hv : RdB w v l) (h1 : w.cell? ⟨b, 0, none⟩ = some ov) (h2 : RdB w ov out) :
    Calls Tryz.prog 138 #[v, .func (.func 139) #[] #[.pointer (some ⟨b, 0, none⟩)]] w fun e w' => e = .returned (.bool (l.any fun a => !has out a)) ∧ Below w.heap.size w w' := by
  rw [← any_vals l (fun a => !has out a)]
  refine containsFuncS_any v (l.map Value.string) (fun _ => True) 139 #[.pointer (some ⟨b, 0, none⟩)] enters_ord2 _ w hv.vals (fun i u hu w' hb => ?_)
  rw [List.getElem?_map] at hu
  obtain ⟨y, hy, rfl⟩ := Option.map_eq_some_iff.1 hu
  have e : l.getD i ⟨#[]⟩ = y := by simp [List.getD, hy]
  rw [e]
  refine (ord2_any y b ov out w' ((hb.cell (p := ⟨b, 0, none⟩) (World.block_lt_of_cell? w ⟨b, _, none⟩ h1)).trans h1) (h2.below hb)).mono ?_
  rintro e w1 ⟨rfl, rfl⟩
  exact ⟨rfl, Below.refl _ _⟩
theorem ready_eq (out : List ByteArray) (x : StepD) : readyB out x = (!has out x.name && !(x.after.any fun a => !has out a)) := by
  unfold readyB
  congr 1
  rw [List.all_eq_not_any_not]
set_option maxRecDepth 100000 in
set_option maxHeartbeats 1000000 in
theorem ord3_any (x : StepD) (f : Value) (wb ob : Nat) (ov : Value) (out : List ByteArray) (w : World) (hf : RdB w f x.after) (h1 : w.cell? ⟨wb, 0, none⟩ = some (.func (.func 139) #[] #[.pointer (some ⟨ob, 0, none⟩)]))
    (h2 : w.cell? ⟨ob, 0, none⟩ = some ov) (h3 : RdB w ov out) :
    Calls Tryz.prog 142 #[.agg #[.string x.name, f], .pointer (some ⟨wb, 0, none⟩)] w fun e w' => e = .returned (.bool (readyB out x)) ∧ Below w.heap.size w w' := by
  have hBB : Below w.heap.size w (w.alloc (.cells #[.string x.name, f] 101)) := (Below.refl _ _).alloc (Nat.le_refl _) _
  have d1 := (hBB.cell (p := ⟨wb, 0, none⟩) (World.block_lt_of_cell? w ⟨wb, _, none⟩ h1)).trans h1
  have HN := Lib.hid (ord2_any x.name ob ov out _ ((hBB.cell (p := ⟨ob, 0, none⟩) (World.block_lt_of_cell? w ⟨ob, _, none⟩ h2)).trans h2) (h3.below hBB))
  have HW := Lib.hid (wait_any f x.after ob ov out _ (hf.below hBB) ((hBB.cell (p := ⟨ob, 0, none⟩) (World.block_lt_of_cell? w ⟨ob, _, none⟩ h2)).trans h2) (h3.below hBB))
  have HB := Lib.hid hBB
  have HR : Hid (readyB out x = (!has out x.name && !(x.after.any fun a => !has out a))) := ready_eq out x
  obtain ⟨p, hp⟩ : ∃ p, p = has out x.name := ⟨_, rfl⟩
  obtain ⟨q, hq⟩ : ∃ q, q = (x.after.any fun a => !has out a) := ⟨_, rfl⟩
  rw [← hp] at HN HR
  rw [← hq] at HW HR
  rw [HR.out]
  obtain ⟨A, cap, rfl, _⟩ := hf.at_
  have eg := enters_ord2
  clear hBB hp hq hf h2 h3 HR
  cases p with
  | true =>
    go_enter Tryz.func142, Tryz.ntmps142
    go_wp2_with fail
    refine HN.out.mono ?_
    rintro e w1 ⟨rfl, hwx⟩
    obtain rfl := hwx.symm
    go_wp2_with fail
    go_ret
    exact ⟨rfl, HB.out⟩
  | false =>
    go_enter Tryz.func142, Tryz.ntmps142
    go_wp2_with fail
    refine HN.out.mono ?_
    rintro e w1 ⟨rfl, hwx⟩
    obtain rfl := hwx.symm
    go_wp2_with fail
    refine HW.out.mono ?_
    rintro e w2 ⟨rfl, hb2⟩
    have HB2 := Lib.hid (HB.out.trans (hb2.mono HB.out.size))
    clear hb2
    go_wp2_with fail
    go_ret
    exact ⟨rfl, HB2.out⟩
/-- The place of the first step at which p holds. -/
def FoundT (xs : List StepD) (p : StepD → Bool) (fd : Int) : Prop := (fd = -1 ∧ xs.find? p = none) ∨ ∃ (q : Nat) (x : StepD), fd = (q : Int) ∧ xs[q]? = some x ∧ xs.find? p = some x
theorem FoundT.hit {xs : List StepD} {p : StepD → Bool} {q : Nat} {x : StepD} (hx : xs[q]? = some x) (hp : p x = true) (hn : ∀ j y, j < q → xs[j]? = some y → p y = false) : FoundT xs p (q : Int) := by
  refine .inr ⟨q, x, rfl, hx, ?_⟩
  rw [List.find?_eq_some_iff_append]
  obtain ⟨hq, hxq⟩ := List.getElem?_eq_some_iff.1 hx
  refine ⟨hp, xs.take q, xs.drop (q + 1), ?_, fun y hy => ?_⟩
  · rw [← hxq, ← List.drop_eq_getElem_cons hq, List.take_append_drop]
  · obtain ⟨j, hj, rfl⟩ := List.mem_iff_getElem.1 hy
    rw [List.length_take] at hj
    rw [List.getElem_take, hn j _ (by omega) (List.getElem?_eq_getElem (by omega))]; rfl
theorem FoundT.miss {xs : List StepD} {p : StepD → Bool} (hn : ∀ j y, j < xs.length → xs[j]? = some y → p y = false) : FoundT xs p (-1) := by
  refine .inl ⟨rfl, ?_⟩
  rw [List.find?_eq_none]
  intro x hx
  obtain ⟨j, hj, rfl⟩ := List.mem_iff_getElem.1 hx
  rw [hn j _ hj (List.getElem?_eq_getElem hj)]; decide
set_option maxRecDepth 100000 in
set_option maxHeartbeats 1000000 in
theorem indexFuncT_any (v : Value) (xs : List StepD) (fid : FuncId) (cpt : Array Value) (eg : ∀ args w, (callFunc fid args).run Tryz.prog w = .ok (.enter fid args) w) (p : StepD → Bool) (w : World) (hv : RdT w v xs)
    (hf : ∀ x f w', Below w.heap.size w w' → RdB w' f x.after → Calls Tryz.prog fid (#[.agg #[.string x.name, f]] ++ cpt) w' fun e w'' => e = .returned (.bool (p x)) ∧ Below w'.heap.size w' w'') :
    Calls Tryz.prog 141 #[v, .func (.func fid) #[] cpt] w fun e w' => (∃ fd, e = .returned (.int .i64 fd) ∧ FoundT xs p fd) ∧ Below w.heap.size w w' := by
  obtain ⟨A, n, cap, rfl, hn, hcap, hmax, hcm, hc⟩ := hv.open_
  have HF := Lib.hid hf
  have HC := Lib.hid hc
  have HH := Lib.hid (fun q x => @FoundT.hit xs p q x)
  have HM := Lib.hid (@FoundT.miss xs p)
  rw [hn] at HM
  clear hn hf hc hv hcm
  go_enter Tryz.func141, Tryz.ntmps141
  go_wp2_with fail
  go_loopw [8] (fun i wr => ∃ k : Nat, k ≤ n ∧ i = .int .i64 (k : Int) ∧ Hid (∀ j y, j < k → xs[j]? = some y → p y = false) ∧ Hid (Below w.heap.size w wr)) (fun i _ => n - (intOf i).toNat)
  case atStart => exact ⟨0, by omega, rfl, fun j y hj => absurd hj (by omega), Below.refl _ _⟩
  case round =>
    obtain ⟨k, hk, rfl, HK, HB⟩ := hrel
    by_cases hlt : k < n
    · obtain ⟨b, off, x, f, rfl, hbw, hx, hcx, hcf, hrf⟩ := HC.out k hlt
      have c1 := (HB.out.cell (p := ⟨b, off + k * 2, none⟩) hbw).trans hcx
      have c2 := (HB.out.cell (p := ⟨b, off + k * 2 + 1, none⟩) hbw).trans hcf
      have HCO := Lib.hid (HF.out x f wr HB.out (hrf.below HB.out))
      have HX := Lib.hid hx
      clear hcx hcf hrf hx hbw
      cases hp : p x with
      | true =>
        have HR := Lib.hid (HH.out k x HX.out hp HK.out)
        rw [hp] at HCO
        clear hp
        go_wp2_with fail
        refine HCO.out.mono ?_
        rintro e w1 ⟨rfl, hb1⟩
        have HB1 := Lib.hid (HB.out.trans (hb1.mono HB.out.size))
        clear hb1
        go_wp2_with fail
        go_ret
        exact ⟨⟨_, rfl, HR.out⟩, HB1.out⟩
      | false =>
        have HK1 : Hid (∀ j y, j < k + 1 → xs[j]? = some y → p y = false) := fun j y hj hy => by
          rcases Nat.lt_or_ge j k with h | h
          · exact HK.out j y h hy
          · obtain rfl : j = k := by omega
            obtain rfl := Option.some.inj (HX.out.symm.trans hy)
            exact hp
        rw [hp] at HCO
        clear hp
        go_wp2_with fail
        refine HCO.out.mono ?_
        rintro e w1 ⟨rfl, hb1⟩
        have HB1 := Lib.hid (HB.out.trans (hb1.mono HB.out.size))
        clear hb1
        go_wp2_with fail
        go_roundw
        case rel => exact ⟨k + 1, by omega, by go_num, HK1, HB1⟩
        case measure => simp [intOf]; omega
    · obtain rfl : n = k := by omega
      have HR := Lib.hid (HM.out HK.out)
      go_wp2_with fail
      go_ret
      exact ⟨⟨_, rfl, HR.out⟩, HB.out⟩
/-- The first step that is ready. -/
theorem seek_any (v : Value) (xs : List StepD) (wb ob : Nat) (ov : Value) (out : List ByteArray) (w : World) (hv : RdT w v xs) (h1 : w.cell? ⟨wb, 0, none⟩ = some (.func (.func 139) #[] #[.pointer (some ⟨ob, 0, none⟩)]))
    (h2 : w.cell? ⟨ob, 0, none⟩ = some ov) (h3 : RdB w ov out) :
    Calls Tryz.prog 141 #[v, .func (.func 142) #[] #[.pointer (some ⟨wb, 0, none⟩)]] w fun e w' => (∃ fd, e = .returned (.int .i64 fd) ∧ FoundT xs (readyB out) fd) ∧ Below w.heap.size w w' :=
  indexFuncT_any v xs 142 #[.pointer (some ⟨wb, 0, none⟩)] enters_ord3 (readyB out) w hv (fun x f w' hb hrf =>
    ord3_any x f wb ob ov out w' hrf ((hb.cell (p := ⟨wb, 0, none⟩) (World.block_lt_of_cell? w ⟨wb, _, none⟩ h1)).trans h1) ((hb.cell (p := ⟨ob, 0, none⟩) (World.block_lt_of_cell? w ⟨ob, _, none⟩ h2)).trans h2) (h3.below hb))
end Go.Proofs.YtodckaioeomccaaGreat
