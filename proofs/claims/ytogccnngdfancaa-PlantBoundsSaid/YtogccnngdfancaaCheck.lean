/- The walk of Book.check. -/
import Derived.Test.YtogccnngdfancaaCheckA
import Derived.Shelf.Abstract
import Derived.WalkSmall
namespace Go.Proofs.Ytogccnngdfancaa
open Go.RowKit Go.Shelf

/-- What the loops of Book.check keep: all old memory, and the boxed item. -/
def ChkW (w : World) (nm : ByteArray) (kd a : Int) (vf : Value) (wr : World) : Prop := Below w.heap.size w wr ∧ wr.heap[w.heap.size]? = some (.cells #[Value.string nm, .int .i64 kd, .int .i64 a, vf] 57)
theorem ChkW.drewN {w wr : World} {nm : ByteArray} {kd a : Int} {vf : Value} (h : ChkW w nm kd a vf wr) (q : Nat) : ChkW w nm kd a vf (wr.drewN q) := ⟨below_drewN h.1 q, h.2⟩
theorem ChkW.cell {w wr : World} {nm : ByteArray} {kd a : Int} {vf : Value} (h : ChkW w nm kd a vf wr) (j : Nat) : wr.cell? ⟨w.heap.size, j, none⟩ = #[Value.string nm, .int .i64 kd, .int .i64 a, vf][j]? := cell_of_row wr _ j _ _ _ h.2
theorem firstNZ_map_zero {α : Type} {l : List α} {f : α → Int} (h : ∀ (j : Nat) (x : α), l[j]? = some x → f x = 0) : firstNZ (l.map f) = 0 := firstNZ_zero fun e he => by
  obtain ⟨x, hx, rfl⟩ := List.mem_map.1 he
  obtain ⟨j, hj⟩ := List.mem_iff_getElem?.1 hx
  exact h j x hj
theorem firstNZ_map_hit {α : Type} {l : List α} {f : α → Int} {k : Nat} {x : α} {e : Int} (hx : l[k]? = some x) (he : f x = e) (hne : e ≠ 0) (h : ∀ j, j < k → ∀ y, l[j]? = some y → f y = 0) : firstNZ (l.map f) = e :=
  firstNZ_hit (k := k) (by rw [List.getElem?_map, hx, Option.map_some, he]) hne (fun j hj y hy => by
    rw [List.getElem?_map, Option.map_eq_some_iff] at hy
    obtain ⟨z, hz, rfl⟩ := hy
    exact h j hj z hz)
theorem chkC_hit {xs : List ItemD} {x : ItemD} {c : List ByteArray} {k : Nat} {e : Int} (hk : k < c.length) (he : chkAt xs x c k = e) (hne : e ≠ 0) (h : ∀ j, j < k → chkAt xs x c j = 0) : chkC xs x c = e :=
  firstNZ_map_hit (k := k) (x := k) (List.getElem?_range hk) he hne (fun j hj y hy => by
    rw [List.getElem?_range (by omega)] at hy
    obtain rfl := Option.some.inj hy
    exact h j hj)
theorem chkC_zero {xs : List ItemD} {x : ItemD} {c : List ByteArray} (h : ∀ j, j < c.length → chkAt xs x c j = 0) : chkC xs x c = 0 :=
  firstNZ_map_zero (fun j y hy => by
    obtain ⟨hj, e⟩ := List.getElem?_eq_some_iff.1 hy
    rw [List.getElem_range] at e
    subst e
    exact h j (by simpa using hj))

theorem Rd.take {α : Type} {f : α → Value} {w : World} {S : Nat → Prop} {A : Option Addr} {n cap : Nat} {xs : List α} (h : Rd f w S (.slice A n cap) xs) {j : Nat} (hj : j ≤ n) : Rd f w S (.slice A j cap) (xs.take j) := by
  obtain ⟨A', cap', he, h1, h2, h3⟩ := h
  simp only [Value.slice.injEq] at he
  obtain ⟨rfl, rfl, rfl⟩ := he
  have hl : (xs.take j).length = j := by rw [List.length_take]; omega
  refine ⟨A, cap, by rw [hl], by omega, h2, fun hn => ?_⟩
  obtain ⟨b, off, rfl, hb, hc⟩ := h3 (fun e => hn (by rw [e]; simp))
  exact ⟨b, off, rfl, hb, fun i hi => by rw [List.getElem_take]; exact hc i (by omega)⟩
theorem chkAt_none {xs : List ItemD} {x : ItemD} {c : List ByteArray} {k : Nat} {nm : ByteArray} (h : c[k]? = some nm) (hi : idx xs nm = none) : chkAt xs x c k = 5 := by
  unfold chkAt; simp only [List.getD, h, Option.getD_some, hi]
theorem chkAt_some {xs : List ItemD} {x : ItemD} {c : List ByteArray} {k i : Nat} {nm : ByteArray} {y : ItemD} (h : c[k]? = some nm) (hi : idx xs nm = some i) (hy : xs[i]? = some y) :
    chkAt xs x c k = if y.kind = 3 then 1 else if x.at_ < y.at_ then 7 else if hasN (c.take k) nm then 8 else 0 := by
  unfold chkAt; simp only [List.getD, h, Option.getD_some, hi, hy]

theorem enters93 : ∀ args w, (callFunc 49 args).run Try.prog w = .ok (.enter 49 args) w := enters_of Try.func49 (by kernel_rfl) rfl

set_option maxRecDepth 100000 in
set_option maxHeartbeats 2000000 in
theorem check_good (p vf : Value) (B : Nat) (F S : Nat → Prop) (xs : List ItemD) (x : ItemD) (w : World) (hb : Bk w B p F xs) (hv : Rd2 w S vf x.frm) (hnm : x.name.size ≤ maxLen) (hnms : ∀ c ∈ x.frm, ∀ s ∈ c, s.size ≤ maxLen)
    (hname : nameB x.name.data.toList = true) (h1 : 0 ≤ x.kind) (h2 : x.kind ≤ 3) (h3 : 0 ≤ x.at_) (h4 : x.kind = 0 ↔ x.frm.length = 0) :
    Calls Try.prog 32 #[p, .agg #[.string x.name, .int .i64 x.kind, .int .i64 x.at_, vf]] w fun e w' => e = .returned (.int .i64 (chk xs x)) ∧ Below w.heap.size w w' := by
  obtain ⟨vs, hvs, hlen, hin⟩ := hv
  have hvs0 := hvs.lt
  obtain ⟨A, n, cap, rfl, hn, hcap, hmax, hc⟩ := hvs0.open_
  have hn' : n = x.frm.length := by omega
  obtain ⟨bb, vi, r, fs, rfl, hbk⟩ := hb
  have HCHK : Hid (chk xs x = if 8 < n ∨ x.frm.any badC = true then 4 else if (idx xs x.name).isSome then 8 else firstNZ (x.frm.map (chkC xs x))) := by
    unfold chk Hid
    rw [if_neg, hn']
    rintro (h | h | h | h | h)
    · simp [hname] at h
    · omega
    · omega
    · omega
    · exact h h4
  obtain ⟨nm, kd, a, frm⟩ := x
  simp only at *
  have hk : ∃ b : Bool, (kd == 0) = b ∧ ((n : Int) == 0) = b := by
    by_cases h0 : kd = 0
    · exact ⟨true, by simpa using h0, by simp; omega⟩
    · exact ⟨false, by simpa using h0, by simp; omega⟩
  obtain ⟨b0, hk1, hk2⟩ := hk
  have hcf : ∀ w1, Below w.heap.size w w1 → Calls Try.prog 48 #[.slice A n cap, .func (.func 49) #[] #[]] w1 fun e w' => e = .returned (.bool (frm.any badC)) ∧ Below w1.heap.size w1 w' := fun w1 hb1 => by
    refine (containsFunc92_any (.slice A n cap) vs S 49 #[] enters93 (fun i => badC (frm.getD i [])) w1 (hvs.below hb1) (fun i u hu w' hb' => ?_)).mono fun e w' ⟨h1, h2⟩ => ⟨by rw [h1, hlen, badAny], h2⟩
    have hi : i < frm.length := by rw [← hlen]; exact (List.getElem?_eq_some_iff.1 hu).1
    obtain ⟨u', hu', hr⟩ := hin i frm[i] (List.getElem?_eq_getElem hi)
    obtain rfl := Option.some.inj (hu.symm.trans hu')
    have := check1_any u frm[i] S w' ((hr.below hb1).below hb')
    refine this.mono fun e w'' ⟨h1, h2⟩ => ⟨by rw [h1]; simp [List.getD, List.getElem?_eq_getElem hi], by rw [← h2]; exact Below.refl _ _⟩
  have hq := isName_any nm
  rw [hname] at hq
  obtain ⟨ba, hba⟩ : ∃ ba, ba = frm.any badC := ⟨_, rfl⟩
  rw [← hba] at hcf HCHK
  have HV := Lib.hid hvs
  have HIN := Lib.hid hin
  have HN := Lib.hid hn'
  have HNAME := Lib.hid hq
  have HCF := Lib.hid hcf
  have HVC := Lib.hid hc
  have HNMS := Lib.hid hnms
  clear hvs hin hc hn hlen hn' hq hname hcf hba h4 hnms
  go_enter Try.func32, Try.ntmps32
  go_wp2_with fail
  refine (HNAME.out _).mono ?_
  rintro e w1 ⟨rfl, hb1⟩
  have hm := box_cells hb1
  have c0 : w1.cell? ⟨w.heap.size, 0, none⟩ = some (.string nm) := cell_of_row w1 _ 0 _ _ _ hm
  have c1 : w1.cell? ⟨w.heap.size, 1, none⟩ = some (.int .i64 kd) := cell_of_row w1 _ 1 _ _ _ hm
  have c2 : w1.cell? ⟨w.heap.size, 2, none⟩ = some (.int .i64 a) := cell_of_row w1 _ 2 _ _ _ hm
  have c3 : w1.cell? ⟨w.heap.size, 3, none⟩ = some (.slice A n cap) := cell_of_row w1 _ 3 _ _ _ hm
  have hbw : Below w.heap.size w w1 := ((Below.refl _ w).alloc (Nat.le_refl _) _).trans (hb1.mono (by simp))
  have hwlt : w.heap.size < w1.heap.size := (Array.getElem?_eq_some_iff.1 hm).1
  clear hb1
  by_cases hn8 : 8 < n
  · have HE := Lib.hid (HCHK.out.trans (if_pos (.inl hn8)))
    go_wp2_with fail
    go_ret
    exact ⟨ret_int HE.out.symm, hbw⟩
  · cases ba with
    | true =>
      have HE := Lib.hid (HCHK.out.trans (if_pos (.inr rfl)))
      go_wp2_with fail
      refine (HCF.out _ hbw).mono ?_
      rintro e w2 ⟨rfl, hb2⟩
      go_wp2_with fail
      go_ret
      exact ⟨ret_int HE.out.symm, hbw.trans (hb2.mono hbw.size)⟩
    | false =>
      have hcc := HCHK.out.trans (if_neg (by simp; omega))
      have HCC := Lib.hid hcc
      clear hcc HCHK
      go_wp2_with fail
      refine (HCF.out _ hbw).mono ?_
      rintro e w2 ⟨rfl, hb2⟩
      have hbw2 : Below w.heap.size w w2 := hbw.trans (hb2.mono hbw.size)
      have hbk2 := hbk.below hbw2
      have d0 : w2.cell? ⟨w.heap.size, 0, none⟩ = some (.string nm) := (hb2.cell (p := ⟨w.heap.size, 0, none⟩) hwlt).trans c0
      have d2 : w2.cell? ⟨w.heap.size, 2, none⟩ = some (.int .i64 a) := (hb2.cell (p := ⟨w.heap.size, 2, none⟩) hwlt).trans c2
      have d3 : w2.cell? ⟨w.heap.size, 3, none⟩ = some (.slice A n cap) := (hb2.cell (p := ⟨w.heap.size, 3, none⟩) hwlt).trans c3
      have e1 := hbk2.cell1
      have hcw : ChkW w nm kd a (.slice A n cap) w2 := ⟨hbw2, (hb2.block _ hwlt).trans hm⟩
      have hlook : ∀ nq, (Instr.lookup 77 (.map r) (.string nm) true).run Try.prog (w2.drewN nq) = .ok (.tuple #[.int .i64 (idxI xs nm), .bool (idx xs nm).isSome]) (w2.drewN nq) := fun nq => MapV.look_ok hbk2.map hnm
      have HCW := Lib.hid hcw
      obtain ⟨bs, hbs⟩ : ∃ bs, bs = (idx xs nm).isSome := ⟨_, rfl⟩
      rw [← hbs] at hlook HCC
      clear c0 c1 c2 c3 hb2 hcw hm hbs
      cases bs with
      | true =>
        have HE := Lib.hid (HCC.out.trans (if_pos rfl))
        clear HCC
        go_wp2_with fail
        go_quiet (fail)
        go_wp2_with fail
        go_ret
        exact ⟨ret_int HE.out.symm, below_drewN hbw2 _⟩
      | false =>
        have HE := Lib.hid (HCC.out.trans (if_neg (by simp)))
        go_wp2_with fail
        go_quiet (fail)
        clear hlook
        go_wp2_with fail
        have HCW1 := Lib.hid (HCW.out.drewN nq)
        clear d0 d2 d3 e1 hbk2 hbw2 HCW HCC hbw hwlt
        go_loopw [65] (fun i wr => ∃ k : Nat, k ≤ n ∧ i = .int .i64 k ∧ ChkW w nm kd a (.slice A n cap) wr ∧ Hid (∀ j, j < k → ∀ c, frm[j]? = some c → chkC xs ⟨nm, kd, a, frm⟩ c = 0)) (fun i _ => n - (intOf i).toNat)
        case atStart => exact ⟨0, Nat.zero_le _, rfl, HCW1.out, fun j hj => absurd hj (by omega)⟩
        case round =>
          clear HCW1
          obtain ⟨k, hk, rfl, hcw, HK⟩ := hrel
          by_cases hlt : k < n
          · obtain ⟨b, off, u, rfl, ⟨_, hbw⟩, hu, hcell⟩ := HVC.out k hlt
            obtain ⟨c, hc⟩ : ∃ c, frm[k]? = some c := ⟨frm[k]'(by have := HN.out; omega), List.getElem?_eq_getElem (by have := HN.out; omega)⟩
            obtain ⟨u', hu', hrd⟩ := HIN.out k c hc
            obtain rfl := Option.some.inj (hu.symm.trans hu')
            obtain ⟨A2, m, c2, rfl, hm, hcap2, hmax2, hc2⟩ := hrd.lt.open_
            have hcell' : wr.cell? ⟨b, off + k, none⟩ = some (.slice A2 m c2) := (hcw.1.cell (p := ⟨b, off + k, none⟩) hbw).trans hcell
            have HC := Lib.hid hc
            have HM := Lib.hid hm
            have HC2 := Lib.hid hc2
            have HRD := Lib.hid hrd
            have HCW := Lib.hid hcw
            clear hu hu' hc hm hc2 hrd hcell hcw
            go_wp2_with fail
            go_loopw [71] (fun i wr => ∃ j : Nat, j ≤ m ∧ i = .int .i64 j ∧ ChkW w nm kd a (.slice (some ⟨b, off, none⟩) n cap) wr ∧ Hid (∀ l, l < j → chkAt xs ⟨nm, kd, a, frm⟩ c l = 0)) (fun i _ => m - (intOf i).toNat)
            case atStart => exact ⟨0, Nat.zero_le _, rfl, HCW.out, fun l hl => absurd hl (by omega)⟩
            case round =>
              clear HCW hcell'
              obtain ⟨j, hj, rfl, hcw, HJ⟩ := hrel
              by_cases hjm : j < m
              · obtain ⟨b2, off2, nm2, rfl, ⟨_, hb2w⟩, hnm2, hcell2⟩ := HC2.out j hjm
                have hcell2' : wr.cell? ⟨b2, off2 + j, none⟩ = some (.string nm2) := (hcw.1.cell (p := ⟨b2, off2 + j, none⟩) hb2w).trans hcell2
                have hbk3 := hbk.below hcw.1
                have e1 := hbk3.cell1
                have hsz := HNMS.out c (mem_of_get? HC.out) nm2 (mem_of_get? hnm2)
                have hjc : j < c.length := by rw [HM.out]; exact hjm
                have hfin : ∀ e : Int, chkAt xs ⟨nm, kd, a, frm⟩ c j = e → e ≠ 0 → chk xs ⟨nm, kd, a, frm⟩ = e := fun e he hne => HE.out.trans (firstNZ_map_hit HC.out (chkC_hit hjc he hne HJ.out) hne HK.out)
                have hlk := MapV.look_ok hbk3.map hsz
                have hbelow := hcw.1
                cases hi : idx xs nm2 with
                | none =>
                  have HR := Lib.hid (hfin 5 (chkAt_none hnm2 hi) (by decide))
                  rw [show idxI xs nm2 = 0 from by simp [idxI, hi], hi] at hlk
                  clear hfin hi hnm2 hcell2 hjc
                  go_wp2_with fail
                  go_ret
                  exact ⟨ret_int HR.out.symm, hbelow⟩
                | some i =>
                  obtain ⟨y, hy, _⟩ := idx_get hi
                  have hil := idx_lt hi
                  have hca := chkAt_some (x := ⟨nm, kd, a, frm⟩) hnm2 hi hy
                  rw [show idxI xs nm2 = i from by simp [idxI, hi], hi] at hlk
                  obtain ⟨g, cp, f, rfl, hgc, hg1, hg2, i0, i1, i2, i3, _⟩ := hbk3.item hy
                  have e0 := hbk3.cell0
                  obtain ⟨yn, yk, ya, yf⟩ := y
                  simp only at hca i1 i2
                  obtain ⟨len, hlen⟩ : ∃ len, len = xs.length := ⟨_, rfl⟩
                  rw [← hlen] at hil hgc e0
                  have HHB := Lib.hid hbk3
                  have HRJ := Lib.hid ((HRD.out.below hbelow).take (j := j) (by omega))
                  have hd2 : wr.cell? ⟨w.heap.size, 2, none⟩ = some (.int .i64 a) := hcw.cell 2
                  clear hi hnm2 hcell2 hjc hy hlen hbk hbk3 hvs0
                  by_cases hk3 : yk = 3
                  · have HR := Lib.hid (hfin 1 (by rw [hca, if_pos hk3]) (by decide))
                    have hkb : (yk == 3) = true := by simpa using hk3
                    clear hfin hca hk3
                    go_wp2_with fail
                    go_ret
                    exact ⟨ret_int HR.out.symm, hbelow⟩
                  · rw [if_neg hk3] at hca
                    have hkb : (yk == 3) = false := by simpa using hk3
                    clear hk3
                    by_cases hat : a < ya
                    · have HR := Lib.hid (hfin 7 (by rw [hca, if_pos hat]) (by decide))
                      clear hfin hca
                      go_wp2_with fail
                      go_quiet (fail)
                      go_wp2_with fail
                      go_ret
                      exact ⟨ret_int HR.out.symm, below_drewN hbelow _⟩
                    · rw [if_neg hat] at hca
                      cases hh : hasN (c.take j) nm2 with
                      | true =>
                        have HR := Lib.hid (hfin 8 (by rw [hca, hh]; rfl) (by decide))
                        have HCT := fun q => contains94_any _ _ _ nm2 (wr.drewN q) (HRJ.out.below (below_drewN (Below.refl _ _) q))
                        rw [hh] at HCT
                        have HCT1 := Lib.hid HCT
                        clear hfin hca hh HCT
                        go_wp2_with fail
                        go_quiet (fail)
                        go_wp2_with fail
                        refine (HCT1.out _).mono ?_
                        rintro e w' ⟨rfl, rfl⟩
                        go_wp2_with fail
                        go_ret
                        exact ⟨ret_int HR.out.symm, below_drewN hbelow _⟩
                      | false =>
                        have HJ1 : Hid (∀ l, l < j + 1 → chkAt xs ⟨nm, kd, a, frm⟩ c l = 0) := fun l hl => by
                          rcases Nat.lt_or_ge l j with h | h
                          · exact HJ.out l h
                          · obtain rfl : l = j := by omega
                            rw [hca, hh]; rfl
                        have HCT := fun q => contains94_any _ _ _ nm2 (wr.drewN q) (HRJ.out.below (below_drewN (Below.refl _ _) q))
                        rw [hh] at HCT
                        have HCT1 := Lib.hid HCT
                        have HCW := Lib.hid hcw
                        clear hfin hca hh HCT hcw
                        go_wp2_with fail
                        go_quiet (fail)
                        go_wp2_with fail
                        refine (HCT1.out _).mono ?_
                        rintro e w' ⟨rfl, rfl⟩
                        go_wp2_with fail
                        go_roundw
                        case rel => exact ⟨j + 1, by omega, by go_num, HCW.out.drewN _, HJ1⟩
                        case measure => simp [intOf]; omega
              · have HCZ := Lib.hid (chkC_zero (xs := xs) (x := ⟨nm, kd, a, frm⟩) (c := c) (fun l hl => HJ.out l (by have := HM.out; omega)))
                have HK1 : Hid (∀ j, j < k + 1 → ∀ c, frm[j]? = some c → chkC xs ⟨nm, kd, a, frm⟩ c = 0) := fun j hj c' hc' => by
                  rcases Nat.lt_or_ge j k with h | h
                  · exact HK.out j h c' hc'
                  · obtain rfl : j = k := by omega
                    obtain rfl := Option.some.inj (HC.out.symm.trans hc')
                    exact HCZ.out
                go_wp2_with fail
                go_roundw
                case rel => exact ⟨k + 1, by omega, by go_num, hcw, HK1⟩
                case measure => simp [intOf]; omega
          · have HZ := Lib.hid (HE.out.trans (firstNZ_map_zero (fun j c hc => HK.out j (by have := (List.getElem?_eq_some_iff.1 hc).1; have := HN.out; omega) c hc)))
            go_wp2_with fail
            go_ret
            exact ⟨ret_int HZ.out.symm, hcw.1⟩

/-- Book.check: the error of an item for a book. -/
theorem check_any (p vf : Value) (B : Nat) (F S : Nat → Prop) (xs : List ItemD) (x : ItemD) (w : World) (hb : Bk w B p F xs) (hv : Rd2 w S vf x.frm) (hnm : x.name.size ≤ maxLen) (hnms : ∀ c ∈ x.frm, ∀ s ∈ c, s.size ≤ maxLen) :
    Calls Try.prog 32 #[p, .agg #[.string x.name, .int .i64 x.kind, .int .i64 x.at_, vf]] w fun e w' => e = .returned (.int .i64 (chk xs x)) ∧ Below w.heap.size w w' := by
  by_cases h : nameB x.name.data.toList = false ∨ x.kind < 0 ∨ 3 < x.kind ∨ x.at_ < 0 ∨ ¬ (x.kind = 0 ↔ x.frm.length = 0)
  · exact check_bad p vf B F S xs x w hb hv h
  · simp only [not_or, Decidable.not_not, Bool.not_eq_false] at h
    exact check_good p vf B F S xs x w hb hv hnm hnms h.1 (by omega) (by omega) (by omega) h.2.2.2.2
end Go.Proofs.Ytogccnngdfancaa
