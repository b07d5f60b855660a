/- The walk of Book.check. The walk of Book.Enter. -/
import Derived.Test.YtogccnngdfancaaGreatPart46
import Derived.Shelf.Abstract
import Derived.WalkSmall
import Derived.Test.YtogccnngdfancaaGreatPart44
import Derived.StillTailTactics
import Derived.Deep.RegionLaw
namespace Go.Proofs.YtogccnngdfancaaGreat
open Go.RowKit Go.Shelf

/-- What the loops of Book.check keep: all old memory, and the boxed item. -/
def ChkW (w : World) (nm : ByteArray) (kd a : Int) (vf : Value) (wr : World) : Prop := Below w.heap.size w wr ∧ wr.heap[w.heap.size]? = some (.cells #[Value.string nm, .int .i64 kd, .int .i64 a, vf] 71)
theorem ChkW.drewN {w wr : World} {nm : ByteArray} {kd a : Int} {vf : Value} (h : ChkW w nm kd a vf wr) (q : Nat) : ChkW w nm kd a vf (wr.drewN q) := ⟨below_drewN h.1 q, h.2⟩
theorem ChkW.cell {w wr : World} {nm : ByteArray} {kd a : Int} {vf : Value} (h : ChkW w nm kd a vf wr) (j : Nat) : wr.cell? ⟨w.heap.size, j, none⟩ = #[Value.string nm, .int .i64 kd, .int .i64 a, vf][j]? := cell_of_row wr _ j _ _ _ h.2
theorem firstNZ_map_zero {α : Type} {l : List α} {f : α → Int} (h : ∀ (j : Nat) (x : α), l[j]? = some x → f x = 0) : firstNZ (l.map f) = 0 := firstNZ_zero fun e he => by
  obtain ⟨x, hx, rfl⟩ := List.mem_map.1 he
  obtain ⟨j, hj⟩ := List.mem_iff_getElem?.1 hx
  exact h j x hj
theorem firstNZ_map_hit {α : Type} {l : List α} {f : α → Int} {k : Nat} {x : α} {e : Int} (hx : l[k]? = some x) (he : f x = e) (hne : e ≠ 0) (h : ∀ j, j < k → ∀ y, l[j]? = some y → f y = 0) : firstNZ (l.map f) = e :=
  firstNZ_hit (k := k) (by rw [List.getElem?_map, hx, Option.map_some, he]) hne (fun j hj y hy => by
    rw [List.getElem?_map, Option.map_eq_some_iff] at hy
    obtain ⟨z, hz, rfl⟩ := hy
    exact h j hj z hz)
theorem chkC_hit {xs : List ItemD} {x : ItemD} {c : List ByteArray} {k : Nat} {e : Int} (hk : k < c.length) (he : chkAt xs x c k = e) (hne : e ≠ 0) (h : ∀ j, j < k → chkAt xs x c j = 0) : chkC xs x c = e :=
  firstNZ_map_hit (k := k) (x := k) (List.getElem?_range hk) he hne (fun j hj y hy => by
    rw [List.getElem?_range (by omega)] at hy
    obtain rfl := Option.some.inj hy
    exact h j hj)
theorem chkC_zero {xs : List ItemD} {x : ItemD} {c : List ByteArray} (h : ∀ j, j < c.length → chkAt xs x c j = 0) : chkC xs x c = 0 :=
  firstNZ_map_zero (fun j y hy => by
    obtain ⟨hj, e⟩ := List.getElem?_eq_some_iff.1 hy
    rw [List.getElem_range] at e
    subst e
    exact h j (by simpa using hj))

theorem Rd.take {α : Type} {f : α → Value} {w : World} {S : Nat → Prop} {A : Option Addr} {n cap : Nat} {xs : List α} (h : Rd f w S (.slice A n cap) xs) {j : Nat} (hj : j ≤ n) : Rd f w S (.slice A j cap) (xs.take j) := by
  obtain ⟨A', cap', he, h1, h2, h3⟩ := h
  simp only [Value.slice.injEq] at he
  obtain ⟨rfl, rfl, rfl⟩ := he
  have hl : (xs.take j).length = j := by rw [List.length_take]; omega
  refine ⟨A, cap, by rw [hl], by omega, h2, fun hn => ?_⟩
  obtain ⟨b, off, rfl, hb, hc⟩ := h3 (fun e => hn (by rw [e]; simp))
  exact ⟨b, off, rfl, hb, fun i hi => by rw [List.getElem_take]; exact hc i (by omega)⟩
theorem chkAt_none {xs : List ItemD} {x : ItemD} {c : List ByteArray} {k : Nat} {nm : ByteArray} (h : c[k]? = some nm) (hi : idx xs nm = none) : chkAt xs x c k = 5 := by
  unfold chkAt; simp only [List.getD, h, Option.getD_some, hi]
theorem chkAt_some {xs : List ItemD} {x : ItemD} {c : List ByteArray} {k i : Nat} {nm : ByteArray} {y : ItemD} (h : c[k]? = some nm) (hi : idx xs nm = some i) (hy : xs[i]? = some y) :
    chkAt xs x c k = if y.kind = 3 then 1 else if x.at_ < y.at_ then 7 else if hasN (c.take k) nm then 8 else 0 := by
  unfold chkAt; simp only [List.getD, h, Option.getD_some, hi, hy]

theorem enters93 : ∀ args w, (callFunc 74 args).run Tryz.prog w = .ok (.enter 74 args) w := enters_of Tryz.func74 (by kernel_rfl) rfl

set_option maxRecDepth 100000 in
set_option maxHeartbeats 2000000 in
theorem check_good (p vf : Value) (B : Nat) (F S : Nat → Prop) (xs : List ItemD) (x : ItemD) (w : World) (hb : Bk w B p F xs) (hv : Rd2 w S vf x.frm) (hnm : x.name.size ≤ maxLen) (hnms : ∀ c ∈ x.frm, ∀ s ∈ c, s.size ≤ maxLen)
    (hname : nameB x.name.data.toList = true) (h1 : 0 ≤ x.kind) (h2 : x.kind ≤ 3) (h3 : 0 ≤ x.at_) (h4 : x.kind = 0 ↔ x.frm.length = 0) :
    Calls Tryz.prog 45 #[p, .agg #[.string x.name, .int .i64 x.kind, .int .i64 x.at_, vf]] w fun e w' => e = .returned (.int .i64 (chk xs x)) ∧ Below w.heap.size w w' := by
  obtain ⟨vs, hvs, hlen, hin⟩ := hv
  have hvs0 := hvs.lt
  obtain ⟨A, n, cap, rfl, hn, hcap, hmax, hc⟩ := hvs0.open_
  have hn' : n = x.frm.length := by omega
  obtain ⟨bb, vi, r, fs, rfl, hbk⟩ := hb
  have HCHK : Hid (chk xs x = if 8 < n ∨ x.frm.any badC = true then 4 else if (idx xs x.name).isSome then 8 else firstNZ (x.frm.map (chkC xs x))) := by
    unfold chk Hid
    rw [if_neg, hn']
    rintro (h | h | h | h | h)
    · simp [hname] at h
    · omega
    · omega
    · omega
    · exact h h4
  obtain ⟨nm, kd, a, frm⟩ := x
  simp only at *
  have hk : ∃ b : Bool, (kd == 0) = b ∧ ((n : Int) == 0) = b := by
    by_cases h0 : kd = 0
    · exact ⟨true, by simpa using h0, by simp; omega⟩
    · exact ⟨false, by simpa using h0, by simp; omega⟩
  obtain ⟨b0, hk1, hk2⟩ := hk
  have hcf : ∀ w1, Below w.heap.size w w1 → Calls Tryz.prog 73 #[.slice A n cap, .func (.func 74) #[] #[]] w1 fun e w' => e = .returned (.bool (frm.any badC)) ∧ Below w1.heap.size w1 w' := fun w1 hb1 => by
    refine (containsFunc92_any (.slice A n cap) vs S 74 #[] enters93 (fun i => badC (frm.getD i [])) w1 (hvs.below hb1) (fun i u hu w' hb' => ?_)).mono fun e w' ⟨h1, h2⟩ => ⟨by rw [h1, hlen, badAny], h2⟩
    have hi : i < frm.length := by rw [← hlen]; exact (List.getElem?_eq_some_iff.1 hu).1
    obtain ⟨u', hu', hr⟩ := hin i frm[i] (List.getElem?_eq_getElem hi)
    obtain rfl := Option.some.inj (hu.symm.trans hu')
    have := check1_any u frm[i] S w' ((hr.below hb1).below hb')
    refine this.mono fun e w'' ⟨h1, h2⟩ => ⟨by rw [h1]; simp [List.getD, List.getElem?_eq_getElem hi], by rw [← h2]; exact Below.refl _ _⟩
  have hq := isName_any nm
  rw [hname] at hq
  obtain ⟨ba, hba⟩ : ∃ ba, ba = frm.any badC := ⟨_, rfl⟩
  rw [← hba] at hcf HCHK
  have HV := Lib.hid hvs
  have HIN := Lib.hid hin
  have HN := Lib.hid hn'
  have HNAME := Lib.hid hq
  have HCF := Lib.hid hcf
  have HVC := Lib.hid hc
  have HNMS := Lib.hid hnms
  clear hvs hin hc hn hlen hn' hq hname hcf hba h4 hnms
  go_enter Tryz.func45, Tryz.ntmps45
  go_wp2_with fail
  refine (HNAME.out _).mono ?_
  rintro e w1 ⟨rfl, hb1⟩
  have hm := box_cells hb1
  have c0 : w1.cell? ⟨w.heap.size, 0, none⟩ = some (.string nm) := cell_of_row w1 _ 0 _ _ _ hm
  have c1 : w1.cell? ⟨w.heap.size, 1, none⟩ = some (.int .i64 kd) := cell_of_row w1 _ 1 _ _ _ hm
  have c2 : w1.cell? ⟨w.heap.size, 2, none⟩ = some (.int .i64 a) := cell_of_row w1 _ 2 _ _ _ hm
  have c3 : w1.cell? ⟨w.heap.size, 3, none⟩ = some (.slice A n cap) := cell_of_row w1 _ 3 _ _ _ hm
  have hbw : Below w.heap.size w w1 := ((Below.refl _ w).alloc (Nat.le_refl _) _).trans (hb1.mono (by simp))
  have hwlt : w.heap.size < w1.heap.size := (Array.getElem?_eq_some_iff.1 hm).1
  clear hb1
  by_cases hn8 : 8 < n
  · have HE := Lib.hid (HCHK.out.trans (if_pos (.inl hn8)))
    go_wp2_with fail
    go_ret
    exact ⟨ret_int HE.out.symm, hbw⟩
  · cases ba with
    | true =>
      have HE := Lib.hid (HCHK.out.trans (if_pos (.inr rfl)))
      go_wp2_with fail
      refine (HCF.out _ hbw).mono ?_
      rintro e w2 ⟨rfl, hb2⟩
      go_wp2_with fail
      go_ret
      exact ⟨ret_int HE.out.symm, hbw.trans (hb2.mono hbw.size)⟩
    | false =>
      have hcc := HCHK.out.trans (if_neg (by simp; omega))
      have HCC := Lib.hid hcc
      clear hcc HCHK
      go_wp2_with fail
      refine (HCF.out _ hbw).mono ?_
      rintro e w2 ⟨rfl, hb2⟩
      have hbw2 : Below w.heap.size w w2 := hbw.trans (hb2.mono hbw.size)
      have hbk2 := hbk.below hbw2
      have d0 : w2.cell? ⟨w.heap.size, 0, none⟩ = some (.string nm) := (hb2.cell (p := ⟨w.heap.size, 0, none⟩) hwlt).trans c0
      have d2 : w2.cell? ⟨w.heap.size, 2, none⟩ = some (.int .i64 a) := (hb2.cell (p := ⟨w.heap.size, 2, none⟩) hwlt).trans c2
      have d3 : w2.cell? ⟨w.heap.size, 3, none⟩ = some (.slice A n cap) := (hb2.cell (p := ⟨w.heap.size, 3, none⟩) hwlt).trans c3
      have e1 := hbk2.cell1
      have hcw : ChkW w nm kd a (.slice A n cap) w2 := ⟨hbw2, (hb2.block _ hwlt).trans hm⟩
      have hlook : ∀ nq, (Instr.lookup 102 (.map r) (.string nm) true).run Tryz.prog (w2.drewN nq) = .ok (.tuple #[.int .i64 (idxI xs nm), .bool (idx xs nm).isSome]) (w2.drewN nq) := fun nq => MapV.look_ok hbk2.map hnm
      have HCW := Lib.hid hcw
      obtain ⟨bs, hbs⟩ : ∃ bs, bs = (idx xs nm).isSome := ⟨_, rfl⟩
      rw [← hbs] at hlook HCC
      clear c0 c1 c2 c3 hb2 hcw hm hbs
      cases bs with
      | true =>
        have HE := Lib.hid (HCC.out.trans (if_pos rfl))
        clear HCC
        go_wp2_with fail
        go_quiet (fail)
        go_wp2_with fail
        go_ret
        exact ⟨ret_int HE.out.symm, below_drewN hbw2 _⟩
      | false =>
        have HE := Lib.hid (HCC.out.trans (if_neg (by simp)))
        go_wp2_with fail
        go_quiet (fail)
        clear hlook
        go_wp2_with fail
        have HCW1 := Lib.hid (HCW.out.drewN nq)
        clear d0 d2 d3 e1 hbk2 hbw2 HCW HCC hbw hwlt
        go_loopw [65] (fun i wr => ∃ k : Nat, k ≤ n ∧ i = .int .i64 k ∧ ChkW w nm kd a (.slice A n cap) wr ∧ Hid (∀ j, j < k → ∀ c, frm[j]? = some c → chkC xs ⟨nm, kd, a, frm⟩ c = 0)) (fun i _ => n - (intOf i).toNat)
        case atStart => exact ⟨0, Nat.zero_le _, rfl, HCW1.out, fun j hj => absurd hj (by omega)⟩
        case round =>
          clear HCW1
          obtain ⟨k, hk, rfl, hcw, HK⟩ := hrel
          by_cases hlt : k < n
          · obtain ⟨b, off, u, rfl, ⟨_, hbw⟩, hu, hcell⟩ := HVC.out k hlt
            obtain ⟨c, hc⟩ : ∃ c, frm[k]? = some c := ⟨frm[k]'(by have := HN.out; omega), List.getElem?_eq_getElem (by have := HN.out; omega)⟩
            obtain ⟨u', hu', hrd⟩ := HIN.out k c hc
            obtain rfl := Option.some.inj (hu.symm.trans hu')
            obtain ⟨A2, m, c2, rfl, hm, hcap2, hmax2, hc2⟩ := hrd.lt.open_
            have hcell' : wr.cell? ⟨b, off + k, none⟩ = some (.slice A2 m c2) := (hcw.1.cell (p := ⟨b, off + k, none⟩) hbw).trans hcell
            have HC := Lib.hid hc
            have HM := Lib.hid hm
            have HC2 := Lib.hid hc2
            have HRD := Lib.hid hrd
            have HCW := Lib.hid hcw
            clear hu hu' hc hm hc2 hrd hcell hcw
            go_wp2_with fail
            go_loopw [71] (fun i wr => ∃ j : Nat, j ≤ m ∧ i = .int .i64 j ∧ ChkW w nm kd a (.slice (some ⟨b, off, none⟩) n cap) wr ∧ Hid (∀ l, l < j → chkAt xs ⟨nm, kd, a, frm⟩ c l = 0)) (fun i _ => m - (intOf i).toNat)
            case atStart => exact ⟨0, Nat.zero_le _, rfl, HCW.out, fun l hl => absurd hl (by omega)⟩
            case round =>
              clear HCW hcell'
              obtain ⟨j, hj, rfl, hcw, HJ⟩ := hrel
              by_cases hjm : j < m
              · obtain ⟨b2, off2, nm2, rfl, ⟨_, hb2w⟩, hnm2, hcell2⟩ := HC2.out j hjm
                have hcell2' : wr.cell? ⟨b2, off2 + j, none⟩ = some (.string nm2) := (hcw.1.cell (p := ⟨b2, off2 + j, none⟩) hb2w).trans hcell2
                have hbk3 := hbk.below hcw.1
                have e1 := hbk3.cell1
                have hsz := HNMS.out c (mem_of_get? HC.out) nm2 (mem_of_get? hnm2)
                have hjc : j < c.length := by rw [HM.out]; exact hjm
                have hfin : ∀ e : Int, chkAt xs ⟨nm, kd, a, frm⟩ c j = e → e ≠ 0 → chk xs ⟨nm, kd, a, frm⟩ = e := fun e he hne => HE.out.trans (firstNZ_map_hit HC.out (chkC_hit hjc he hne HJ.out) hne HK.out)
                have hlk := MapV.look_ok hbk3.map hsz
                have hbelow := hcw.1
                cases hi : idx xs nm2 with
                | none =>
                  have HR := Lib.hid (hfin 5 (chkAt_none hnm2 hi) (by decide))
                  rw [show idxI xs nm2 = 0 from by simp [idxI, hi], hi] at hlk
                  clear hfin hi hnm2 hcell2 hjc
                  go_wp2_with fail
                  go_ret
                  exact ⟨ret_int HR.out.symm, hbelow⟩
                | some i =>
                  obtain ⟨y, hy, _⟩ := idx_get hi
                  have hil := idx_lt hi
                  have hca := chkAt_some (x := ⟨nm, kd, a, frm⟩) hnm2 hi hy
                  rw [show idxI xs nm2 = i from by simp [idxI, hi], hi] at hlk
                  obtain ⟨g, cp, f, rfl, hgc, hg1, hg2, i0, i1, i2, i3, _⟩ := hbk3.item hy
                  have e0 := hbk3.cell0
                  obtain ⟨yn, yk, ya, yf⟩ := y
                  simp only at hca i1 i2
                  obtain ⟨len, hlen⟩ : ∃ len, len = xs.length := ⟨_, rfl⟩
                  rw [← hlen] at hil hgc e0
                  have HHB := Lib.hid hbk3
                  have HRJ := Lib.hid ((HRD.out.below hbelow).take (j := j) (by omega))
                  have hd2 : wr.cell? ⟨w.heap.size, 2, none⟩ = some (.int .i64 a) := hcw.cell 2
                  clear hi hnm2 hcell2 hjc hy hlen hbk hbk3 hvs0
                  by_cases hk3 : yk = 3
                  · have HR := Lib.hid (hfin 1 (by rw [hca, if_pos hk3]) (by decide))
                    have hkb : (yk == 3) = true := by simpa using hk3
                    clear hfin hca hk3
                    go_wp2_with fail
                    go_ret
                    exact ⟨ret_int HR.out.symm, hbelow⟩
                  · rw [if_neg hk3] at hca
                    have hkb : (yk == 3) = false := by simpa using hk3
                    clear hk3
                    by_cases hat : a < ya
                    · have HR := Lib.hid (hfin 7 (by rw [hca, if_pos hat]) (by decide))
                      clear hfin hca
                      go_wp2_with fail
                      go_quiet (fail)
                      go_wp2_with fail
                      go_ret
                      exact ⟨ret_int HR.out.symm, below_drewN hbelow _⟩
                    · rw [if_neg hat] at hca
                      cases hh : hasN (c.take j) nm2 with
                      | true =>
                        have HR := Lib.hid (hfin 8 (by rw [hca, hh]; rfl) (by decide))
                        have HCT := fun q => contains94_any _ _ _ nm2 (wr.drewN q) (HRJ.out.below (below_drewN (Below.refl _ _) q))
                        rw [hh] at HCT
                        have HCT1 := Lib.hid HCT
                        clear hfin hca hh HCT
                        go_wp2_with fail
                        go_quiet (fail)
                        go_wp2_with fail
                        refine (HCT1.out _).mono ?_
                        rintro e w' ⟨rfl, rfl⟩
                        go_wp2_with fail
                        go_ret
                        exact ⟨ret_int HR.out.symm, below_drewN hbelow _⟩
                      | false =>
                        have HJ1 : Hid (∀ l, l < j + 1 → chkAt xs ⟨nm, kd, a, frm⟩ c l = 0) := fun l hl => by
                          rcases Nat.lt_or_ge l j with h | h
                          · exact HJ.out l h
                          · obtain rfl : l = j := by omega
                            rw [hca, hh]; rfl
                        have HCT := fun q => contains94_any _ _ _ nm2 (wr.drewN q) (HRJ.out.below (below_drewN (Below.refl _ _) q))
                        rw [hh] at HCT
                        have HCT1 := Lib.hid HCT
                        have HCW := Lib.hid hcw
                        clear hfin hca hh HCT hcw
                        go_wp2_with fail
                        go_quiet (fail)
                        go_wp2_with fail
                        refine (HCT1.out _).mono ?_
                        rintro e w' ⟨rfl, rfl⟩
                        go_wp2_with fail
                        go_roundw
                        case rel => exact ⟨j + 1, by omega, by go_num, HCW.out.drewN _, HJ1⟩
                        case measure => simp [intOf]; omega
              · have HCZ := Lib.hid (chkC_zero (xs := xs) (x := ⟨nm, kd, a, frm⟩) (c := c) (fun l hl => HJ.out l (by have := HM.out; omega)))
                have HK1 : Hid (∀ j, j < k + 1 → ∀ c, frm[j]? = some c → chkC xs ⟨nm, kd, a, frm⟩ c = 0) := fun j hj c' hc' => by
                  rcases Nat.lt_or_ge j k with h | h
                  · exact HK.out j h c' hc'
                  · obtain rfl : j = k := by omega
                    obtain rfl := Option.some.inj (HC.out.symm.trans hc')
                    exact HCZ.out
                go_wp2_with fail
                go_roundw
                case rel => exact ⟨k + 1, by omega, by go_num, hcw, HK1⟩
                case measure => simp [intOf]; omega
          · have HZ := Lib.hid (HE.out.trans (firstNZ_map_zero (fun j c hc => HK.out j (by have := (List.getElem?_eq_some_iff.1 hc).1; have := HN.out; omega) c hc)))
            go_wp2_with fail
            go_ret
            exact ⟨ret_int HZ.out.symm, hcw.1⟩

/-- Book.check: the error of an item for a book. -/
theorem check_any (p vf : Value) (B : Nat) (F S : Nat → Prop) (xs : List ItemD) (x : ItemD) (w : World) (hb : Bk w B p F xs) (hv : Rd2 w S vf x.frm) (hnm : x.name.size ≤ maxLen) (hnms : ∀ c ∈ x.frm, ∀ s ∈ c, s.size ≤ maxLen) :
    Calls Tryz.prog 45 #[p, .agg #[.string x.name, .int .i64 x.kind, .int .i64 x.at_, vf]] w fun e w' => e = .returned (.int .i64 (chk xs x)) ∧ Below w.heap.size w w' := by
  by_cases h : nameB x.name.data.toList = false ∨ x.kind < 0 ∨ 3 < x.kind ∨ x.at_ < 0 ∨ ¬ (x.kind = 0 ↔ x.frm.length = 0)
  · exact check_bad p vf B F S xs x w hb hv h
  · simp only [not_or, Decidable.not_not, Bool.not_eq_false] at h
    exact check_good p vf B F S xs x w hb hv hnm hnms h.1 (by omega) (by omega) (by omega) h.2.2.2.2
end Go.Proofs.YtogccnngdfancaaGreat
namespace Go.Proofs.YtogccnngdfancaaGreat
open Go.RowKit

theorem info37 : (Tryz.prog.info? 71).map (fun i => (i.zero, i.size, i.bytes)) = some (some (.agg #[.string ⟨#[]⟩, .int .i64 0, .int .i64 0, .slice none 0 0]), 4, 56) := by kernel_rfl
def entErr (xs : List ItemD) (x : ItemD) : Int := if chk xs x = 0 then if 1024 ≤ xs.length then 9 else 0 else chk xs x
def entNew (xs : List ItemD) (x : ItemD) : List ItemD := if entErr xs x = 0 then xs ++ [x] else xs
theorem chk_zero {xs : List ItemD} {x : ItemD} (h : chk xs x = 0) : nameB x.name.data.toList = true ∧ 0 ≤ x.kind ∧ x.kind ≤ 3 ∧ 0 ≤ x.at_ ∧ (x.kind = 0 ↔ x.frm.length = 0) ∧ x.frm.length ≤ 8 ∧ (∀ c ∈ x.frm, 1 ≤ c.length ∧ c.length ≤ 8) ∧ idx xs x.name = none ∧ ∀ c ∈ x.frm, chkC xs x c = 0 := by
  unfold chk at h
  split at h
  · cases h
  rename_i h1
  split at h
  · cases h
  rename_i h2
  split at h
  · cases h
  rename_i h3
  simp only [not_or, Decidable.not_not, Bool.not_eq_false] at h1
  refine ⟨h1.1, by omega, by omega, by omega, h1.2.2.2.2, by omega, fun c hc => ?_, ?_, fun c hc => ?_⟩
  · have h4 : x.frm.any badC = false := by cases hh : x.frm.any badC with
      | false => rfl
      | true => exact absurd (.inr hh) h2
    rw [List.any_eq_false] at h4
    have := h4 c hc
    simp only [badC, Bool.or_eq_true, decide_eq_true_eq, not_or] at this
    omega
  · cases hi : idx xs x.name with
    | none => rfl
    | some i => simp [hi] at h3
  · by_cases hz : chkC xs x c = 0
    · exact hz
    · exfalso
      have key : ∀ l : List Int, firstNZ l = 0 → ∀ e ∈ l, e = 0 := by
        intro l
        induction l with
        | nil => intro _ e he; simp at he
        | cons y l ih =>
          intro hl e he
          simp only [firstNZ] at hl
          split at hl
          · rename_i hy
            rcases List.mem_cons.1 he with rfl | he
            · exact hy
            · exact ih hl e he
          · exact absurd hl ‹_›
      exact hz (key _ h _ (List.mem_map.2 ⟨c, hc, rfl⟩))
theorem Own2.slice {w : World} {B : Nat} {vf : Value} {xss : List (List ByteArray)} (h : Own2 w B vf xss) : ∃ A c, vf = .slice A xss.length c := let ⟨_, ho, _⟩ := h; ownsRow_slice ho
/-- What Enter leaves. -/
def EnterPost (w : World) (B : Nat) (p : Value) (F : Nat → Prop) (xs : List ItemD) (x : ItemD) (e : Ending) (w' : World) : Prop :=
  e = .returned (.int .i64 (entErr xs x)) ∧ ∃ F', Bk w' B p F' (entNew xs x) ∧ Keep (fun k => k < w.heap.size ∧ ¬ F k) w w' ∧ ∀ k, F' k → F k ∨ w.heap.size ≤ k

set_option maxRecDepth 100000 in
set_option maxHeartbeats 2000000 in
theorem enter_any (p vf : Value) (B : Nat) (F S : Nat → Prop) (xs : List ItemD) (x : ItemD) (w : World) (hb : Bk w B p F xs) (hv : Rd2 w S vf x.frm) (hS : ∀ k, S k → ¬ F k) (hnm : x.name.size ≤ maxLen) (hnms : ∀ c ∈ x.frm, ∀ s ∈ c, s.size ≤ maxLen) (hB : B ≤ w.heap.size) (hxl : xs.length ≤ 1024) :
    Calls Tryz.prog 20 #[p, .agg #[.string x.name, .int .i64 x.kind, .int .i64 x.at_, vf]] w (EnterPost w B p F xs x) := by
  have hb0 := hb
  have hck := fun w' (h : Below w.heap.size w w') => check_any p vf B F S xs x w' (hb.below h) (hv.below h) hnm hnms
  obtain ⟨bb, vi, r, fs, rfl, hbk⟩ := hb
  have HCK := Lib.hid hck
  obtain ⟨nm, kd, a, frm⟩ := x
  simp only at *
  obtain ⟨ce, hce⟩ : ∃ ce, ce = chk xs ⟨nm, kd, a, frm⟩ := ⟨_, rfl⟩
  rw [← hce] at HCK
  have HCE := Lib.hid hce
  have HB0 := Lib.hid hb0
  clear hck hce hb0
  have hw0 : Below w.heap.size w (w.alloc (.cells #[Value.string nm, .int .i64 kd, .int .i64 a, vf] 71)) := (Below.refl _ w).alloc (Nat.le_refl _) _
  by_cases hz : ce = 0
  · have hz' : (ce != 0) = false := by simpa using hz
    have HZ := Lib.hid hz
    clear hz
    have hli : ∃ A c, vi = .slice A xs.length c := ownsRow_slice hbk.own
    obtain ⟨A, ci, rfl⟩ := hli
    obtain ⟨n, hn⟩ : ∃ n, n = xs.length := ⟨_, rfl⟩
    have HN := Lib.hid hn
    rw [← hn] at hbk hxl
    by_cases hfull : 1024 ≤ n
    · have HE : Hid (entErr xs ⟨nm, kd, a, frm⟩ = 9) := by unfold entErr Hid; rw [if_pos (HCE.out.symm.trans HZ.out), if_pos (by omega)]
      clear hn
      go_enter Tryz.func20, Tryz.ntmps20
      go_wp2_with fail
      refine (HCK.out _ hw0).mono ?_
      rintro e w1 ⟨rfl, hb1⟩
      have hbw : Below w.heap.size w w1 := hw0.trans (hb1.mono (by simp))
      have e0 := (hbk.below hbw).cell0
      clear hb1
      go_wp2_with fail
      go_ret
      exact ⟨ret_int HE.out.symm, F, by unfold entNew; rw [HE.out]; exact HB0.out.below hbw, (Keep.of_below hbw).mono (fun k h => h.1), fun k h => .inl h⟩
    · clear hn
      go_enter Tryz.func20, Tryz.ntmps20
      go_wp2_with fail
      refine (HCK.out _ hw0).mono ?_
      rintro e w1 ⟨rfl, hb1⟩
      have hbw : Below w.heap.size w w1 := hw0.trans (hb1.mono (by simp))
      have hm := box_cells hb1
      have hbk1 := hbk.below hbw
      have e0 := hbk1.cell0
      have e1 := hbk1.cell1
      have f1 : w1.frozen? ⟨bb, 1, none⟩ = false := frozen_of_row w1 _ 1 _ _ hbk1.blk
      have hbl : bb < w1.heap.size := (Array.getElem?_eq_some_iff.1 hbk1.blk).1
      have hxl' : w.heap.size < w1.heap.size := (Array.getElem?_eq_some_iff.1 hm).1
      clear hb1
      have hroad : ∃ mb w2 F2, BkMid w2 B bb (.slice A n ci) mb fs F2 xs xs ∧ Keep (fun k => k < w.heap.size ∧ ¬ F k) w w2 ∧ (∀ k, F2 k → F k ∨ w.heap.size ≤ k) ∧ w2.heap[w.heap.size]? = some (.cells #[Value.string nm, .int .i64 kd, .int .i64 a, vf] 71) ∧ w1.heap.size ≤ w2.heap.size ∧
          ((r = some mb ∧ w2 = w1) ∨ (r = none ∧ mb = w1.heap.size ∧ w2 = (w1.setCell ⟨bb, 1, none⟩ (.map (some w1.heap.size))).alloc (.map #[] 0))) := by
        cases r with
        | some mb => exact ⟨mb, w1, F, hbk1.mid, (Keep.of_below hbw).mono (fun k hk => hk.1), fun k hk => .inl hk, hm, Nat.le_refl _, .inl ⟨rfl, rfl⟩⟩
        | none =>
          obtain ⟨q1, q2⟩ := hbk1.made (by have := hbw.size; omega)
          refine ⟨w1.heap.size, _, _, q1, ?_, ?_, ?_, by simp, .inr ⟨rfl, rfl, ?_⟩⟩
          · refine ((Keep.of_below hbw).mono (fun k hk => hk.1)).trans (q2.mono fun k hk => ⟨by omega, fun h => hk.2 ?_⟩)
            rw [hbk.hF]; exact .inl h
          · intro k hk
            rw [hbk.hF]
            rcases hk with h | h | h
            · exact .inl (.inl h)
            · exact .inl (.inr (.inl h))
            · cases h; right; exact hbw.size
          · refine (q2.block _ ⟨hxl', fun h => ?_⟩).trans hm
            have := (Array.getElem?_eq_some_iff.1 hbk.blk).1
            omega
          · exact World.setCell_alloc_past _ _ _ _ hbl
      obtain ⟨mb, w2, F2, hmid, hk2, hF2, hm2, hs2, hroad⟩ := hroad
      rcases hroad with ⟨rfl, rfl⟩ | ⟨rfl, rfl, hw2⟩
      case' inl =>
        have hmn := fun w => run_eql_map_nil (P := Tryz.prog) w 102 9 3 (some mb) Tryz.underlying102
        go_wp2_with fail
        clear hmn
      case' inr =>
        have hmn := fun w => run_eql_map_nil (P := Tryz.prog) w 102 9 3 none Tryz.underlying102
        have hmm := @run_makeMap Tryz.prog
        have HW2 := Lib.hid hw2
        clear hw2
        go_wp2_with fail
        rw [← HW2.out]
        clear hmn hmm HW2
        obtain ⟨mb, hmb⟩ : ∃ mb, mb = w1.heap.size := ⟨_, rfl⟩
        rw [← hmb] at hmid ⊢
        clear hmb
      all_goals
        have e0 := hmid.cell0
        have e1 := hmid.cell1
        have c0 : w2.cell? ⟨w.heap.size, 0, none⟩ = some (.string nm) := cell_of_row w2 _ 0 _ _ _ hm2
        have hcz := chk_zero (HCE.out.symm.trans HZ.out)
        simp only at hcz
        have hidx := hcz.2.2.2.2.2.2.2.1
        have HCZ := Lib.hid hcz
        clear hcz
        have hmd := hmid.below (w' := w2.drew) ((Below.refl _ _).drew)
        obtain ⟨w5, hrun, hmid5, hg5⟩ := hmd.put (x := ⟨nm, kd, a, frm⟩) hidx hnm (by rw [← HN.out]; omega)
        rw [← HN.out] at hrun
        have hrun' : (Instr.mapUpdate 102 (.map (some mb)) (.string nm) (.int .i64 n)).run Tryz.prog w2.drew = .ok () w5 := hrun
        go_still_tail 11, (by kernel_rfl)
        change wpList _ _ _ _ _ w2.drew
        have HG5 := Lib.hid hg5
        have HMID5 := Lib.hid hmid5
        have hmne : mb ≠ w.heap.size := fun e => by
          obtain ⟨es, c, h⟩ := hmid.map.isMap
          rw [e, hm2] at h
          cases h
        clear hrun e1 c0 hmd hmid hidx hg5
        go_wp2_with fail
        clear hrun'
        have hmb2 : F mb ∨ w.heap.size ≤ mb := hF2 mb (by rw [HMID5.out.hF]; exact .inr (.inr rfl))
        have hk5 : Keep (fun k => k < w.heap.size ∧ ¬ F k) w w5 := by
          refine hk2.trans ⟨HG5.out.os, HG5.out.tape, HG5.out.output, HG5.out.size, fun k hk => HG5.out.block k (by have := hk2.size; have := hk.1; show k < w2.heap.size; omega) (fun e => ?_)⟩
          cases e
          rcases hmb2 with h | h
          · exact hk.2 h
          · have := hk.1; omega
        have hm5 : w5.heap[w.heap.size]? = some (.cells #[Value.string nm, .int .i64 kd, .int .i64 a, vf] 71) := by
          refine (HG5.out.block _ (by show _ < w2.heap.size; omega) (fun e => ?_)).trans hm2
          exact hmne (Option.some.inj e).symm
        have hv5 : Rd2 w5 (fun k => S k ∧ k < w.heap.size) vf frm := hv.lt.keep (hk5.mono fun k hk => ⟨hk.2, hS k hk.1⟩)
        have HCOP := Lib.hid (fun q => copied_any nm kd a vf frm (fun k => S k ∧ k < w.heap.size) (w5.drewN q) (hv5.below (below_drewN (Below.refl _ _) q)) (by have := HCZ.out.2.2.2.2.2.1; omega) (fun c hc => by have := (HCZ.out.2.2.2.2.2.2.1 c hc).2; omega))
        have HV5 := Lib.hid hv5
        have HK5 := Lib.hid hk5
        have b0 : w5.cell? ⟨w.heap.size, 0, none⟩ = some (.string nm) := cell_of_row w5 _ 0 _ _ _ hm5
        have b1 : w5.cell? ⟨w.heap.size, 1, none⟩ = some (.int .i64 kd) := cell_of_row w5 _ 1 _ _ _ hm5
        have b2 : w5.cell? ⟨w.heap.size, 2, none⟩ = some (.int .i64 a) := cell_of_row w5 _ 2 _ _ _ hm5
        have b3 : w5.cell? ⟨w.heap.size, 3, none⟩ = some vf := cell_of_row w5 _ 3 _ _ _ hm5
        have e5 := HMID5.out.cell0
        have hbb5 := (Array.getElem?_eq_some_iff.1 HMID5.out.blk).1
        have hB5 : B ≤ w5.heap.size := by have := hk5.size; omega
        obtain ⟨i0, hi, hz0, hz1, hz2⟩ := info_parts info37
        have HF2 := Lib.hid hF2
        have HMB := Lib.hid hmb2
        have HBK := Lib.hid hbk.hF
        clear hv5 hk5 hm5 e0 hm2 hs2 hk2 hF2 hbk hbk1 hmne hmb2 f1 hbl hxl' hm hbw hw0 hv hnms
        go_region_law (first | (refine step_append_own rfl _ _ 101 rfl B 71 i0 (.agg #[.string ⟨#[]⟩, .int .i64 0, .int .i64 0, .slice none 0 0]) 4 56 Tryz.underlying101 hi hz0 hz1 hz2 rfl (by decide) _ n (cellsOf xs fs) rfl (hown6.alloc _) ⟨w6.heap.size, 0, none⟩ 1 1 [.string nm, .int .i64 kd, .int .i64 a, .slice Af frm.length cf] rfl rfl (cells_new w6 #[.string nm, .int .i64 kd, .int .i64 a, .slice Af frm.length cf] 71 (0, 0)) (by intro u hu; simp at hu; rcases hu with rfl | rfl | rfl | rfl <;> rfl) (by unfold maxLen; omega) (by omega) (by simp; omega) ?_; intro v' w7 hown' hg' hfr'; obtain ⟨A', c', rfl⟩ := ownsRow_slice hown'; have HX7 := Lib.hid (And.intro hown' (And.intro hg' hfr')); have hm7 := (hg'.block bb (by simp; omega) (fun e => hmid6.ne e.symm)).trans ((Below.heap_alloc w6 _ bb hbb6).trans hmid6.blk); have e7 := cell_of_row w7 bb 0 _ _ _ hm7; have f7 := frozen_of_row w7 bb 0 _ _ hm7) | (go_simp; go_at_call 46; refine (HCOP.out _).mono ?_; rintro e w6 ⟨⟨vf', rfl, ho2⟩, hb6⟩; have hmid6 := HMID5.out.below (((below_drewN (Below.refl _ w5) _)).trans hb6); have hown6 := hmid6.own; rw [← HN.out] at hown6; have hB6 : B ≤ w6.heap.size := (by have := hb6.size; simp at this; omega); have hbb6 := (Array.getElem?_eq_some_iff.1 hmid6.blk).1; have e6 := hmid6.cell0; obtain ⟨Af, cf, rfl⟩ := ho2.slice))
        all_goals
          clear hmid6 hown6 hown' hg' hfr' hm7
          go_wp2_with fail
          go_ret
          have hE0 : entErr xs ⟨nm, kd, a, frm⟩ = ce := by unfold entErr; rw [← HCE.out, if_pos HZ.out, if_neg (by rw [← HN.out]; omega), HZ.out]
          have hb56 : Below w5.heap.size w5 w6 := (below_drewN (Below.refl _ w5) _).trans hb6
          obtain ⟨q1, q2⟩ := HMID5.out.finish rfl hb56 (by rw [← HN.out]; exact HX7.out.1) HX7.out.2.1 HX7.out.2.2 ho2 hB5
          refine ⟨ret_int ?_, (fun k => k = bb ∨ (Value.slice A' (n + 1) c').ownBlock = some k ∨ some mb = some k), ⟨bb, .slice A' (n + 1) c', some mb, fs ++ [.slice Af frm.length cf], rfl, ?_⟩, HK5.out.trans (q2.mono fun k hk => ⟨by have := HK5.out.size; omega, fun h => ?_⟩), fun k hk => ?_⟩
          · rw [hE0, HZ.out]
          · unfold entNew; rw [hE0, if_pos HZ.out]; exact q1
          · rcases HF2.out k h with h | h
            · exact hk.2 h
            · have := hk.1; omega
          · rw [HBK.out]
            rcases hk with h | h | h
            · exact .inl (.inl h)
            · rcases HX7.out.2.2 k h with h | h
              · exact .inl (.inr (.inl h))
              · right; have := HK5.out.size; have := hb56.size; simp at h; omega
            · cases h
              have := HMB.out
              rw [HBK.out] at this
              exact this
  · have hz' : (ce != 0) = true := by simpa using hz
    have HE : Hid (entErr xs ⟨nm, kd, a, frm⟩ = ce) := by unfold entErr Hid; rw [← HCE.out, if_neg hz]
    have HZ := Lib.hid hz
    clear hz
    go_enter Tryz.func20, Tryz.ntmps20
    go_wp2_with fail
    refine (HCK.out _ hw0).mono ?_
    rintro e w1 ⟨rfl, hb1⟩
    have hbw : Below w.heap.size w w1 := hw0.trans (hb1.mono (by simp))
    clear hb1
    go_wp2_with fail
    go_ret
    exact ⟨ret_int HE.out.symm, F, by unfold entNew; rw [HE.out, if_neg HZ.out]; exact HB0.out.below hbw, (Keep.of_below hbw).mono (fun k h => h.1), fun k h => .inl h⟩
end Go.Proofs.YtogccnngdfancaaGreat
