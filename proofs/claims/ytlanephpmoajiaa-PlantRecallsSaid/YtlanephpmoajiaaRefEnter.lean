/- The walk of the reference's Enter. -/
import Derived.Test.YtlanephpmoajiaaRefEnterA
import Derived.Test.YtlanephpmoajiaaRows4
namespace Go.Proofs.Ytlanephpmoajiaa
open Go.RowKit

/-- What the loops of the reference's Enter keep. -/
def RefW (w : World) (nm : ByteArray) (kd a : Int) (vf : Value) (wr : World) : Prop := Below w.heap.size w wr ∧ wr.heap[w.heap.size]? = some (.cells #[Value.string nm, .int .i64 kd, .int .i64 a, vf] 44)
theorem RefW.drewN {w wr : World} {nm : ByteArray} {kd a : Int} {vf : Value} (h : RefW w nm kd a vf wr) (q : Nat) : RefW w nm kd a vf (wr.drewN q) := ⟨below_drewN h.1 q, h.2⟩
theorem RefW.cell {w wr : World} {nm : ByteArray} {kd a : Int} {vf : Value} (h : RefW w nm kd a vf wr) (j : Nat) : wr.cell? ⟨w.heap.size, j, none⟩ = #[Value.string nm, .int .i64 kd, .int .i64 a, vf][j]? := cell_of_row wr _ j _ _ _ h.2
theorem hasN_take_miss {c : List ByteArray} {nm : ByteArray} {k : Nat} (h : ∀ j, j < k → ∀ x, c[j]? = some x → x ≠ nm) : hasN (c.take k) nm = false :=
  hasN_miss fun j x hx => by
    obtain ⟨hj, _⟩ := List.getElem?_eq_some_iff.1 hx
    rw [List.getElem?_take] at hx
    split at hx
    · exact h j ‹_› x hx
    · cases hx
theorem hasN_take_hit {c : List ByteArray} {nm : ByteArray} {k j : Nat} (hj : j < k) (h : c[j]? = some nm) : hasN (c.take k) nm = true :=
  hasN_hit (k := j) (by rw [List.getElem?_take, if_pos hj]; exact h)

theorem info44 : (Try.prog.info? 44).map (fun i => (i.zero, i.size, i.bytes)) = some (some (.agg #[.string ⟨#[]⟩, .int .i64 0, .int .i64 0, .slice none 0 0]), 4, 56) := by kernel_rfl
theorem RefEnterPost.done {w wr w1 w2 : World} {S T : Nat → Prop} {xs : List ItemD} {x : ItemD} {v1 v2 vf : Value} {m : Nat} {fs : List Value} {o : Obj} (hz : chk xs x = 0) (hm : xs.length = m) (hm2 : m ≤ 24) (hbel : Below w.heap.size w wr) (hv : Rd2 w T vf x.frm)
    (hfl : fs.length = xs.length) (hfs : ∀ (i : Nat) (x : ItemD), xs[i]? = some x → ∃ f, fs[i]? = some f ∧ Rd2 wr S f x.frm) (hb1 : Below wr.heap.size wr w1) (hown1 : w1.ownsRow wr.heap.size 44 4 v1 m (cellsOf xs fs))
    (hown2 : w2.ownsRow wr.heap.size 44 4 v2 (m + 1) (cellsOf xs fs ++ [.string x.name, .int .i64 x.kind, .int .i64 x.at_, vf])) (hg2 : (w1.alloc o).grownBy w2 v1.ownBlock) :
    RefEnterPost w S T xs x (.returned (.tuple #[v2, .int .i64 0])) w2 := by
  have he : entErr xs x = 0 := by unfold entErr; rw [if_pos hz, if_neg (by omega)]
  have hb2 : Below wr.heap.size wr w2 := (hb1.alloc hb1.size _).grown hg2 (by have := hb1.size; simp; omega) (fun k hk => (ownBlock_lt hown1 k hk).1)
  have hbw : Below w.heap.size w w2 := hbel.trans (hb2.mono hbel.size)
  refine ⟨⟨v2, by rw [he], ?_⟩, hbw⟩
  unfold entNew
  rw [if_pos he]
  refine RdI.of_own (e := 44) (n := m + 1) (fs := fs ++ [vf]) (base := wr.heap.size) ?_ (by simp [hm]) (by simp [hfl]) (fun i y hy => ?_) (fun k hk => .inr (.inr (Nat.le_trans hbel.size hk)))
  · rw [cellsOf_app _ _ _ _ hfl]; exact hown2
  · rcases Nat.lt_or_ge i xs.length with hi | hi
    · rw [List.getElem?_append_left hi] at hy
      obtain ⟨f, hf, hr⟩ := hfs i y hy
      exact ⟨f, by rw [List.getElem?_append_left (by omega)]; exact hf, (hr.below hb2).mono fun k hk => .inl hk⟩
    · have hi' : i = xs.length := by have := (List.getElem?_eq_some_iff.1 hy).1; simp at this; omega
      subst hi'
      rw [List.getElem?_append_right (Nat.le_refl _)] at hy
      simp at hy
      subst hy
      exact ⟨vf, by rw [List.getElem?_append_right (by omega)]; simp [hfl], (hv.below hbw).mono fun k hk => .inr (.inl hk)⟩

set_option maxRecDepth 100000 in
set_option maxHeartbeats 4000000 in
theorem refEnter_good (vb vf : Value) (xs : List ItemD) (x : ItemD) (S T : Nat → Prop) (w : World) (hb : RdI w S vb xs) (hv : Rd2 w T vf x.frm) (hxl : xs.length ≤ 24)
    (hname : nameB x.name.data.toList = true) (h1 : 0 ≤ x.kind) (h2 : x.kind ≤ 3) (h3 : 0 ≤ x.at_) (h4 : x.kind = 0 ↔ x.frm.length = 0) :
    Calls Try.prog 20 #[vb, .agg #[.string x.name, .int .i64 x.kind, .int .i64 x.at_, vf]] w (RefEnterPost w S T xs x) := by
  have HV := Lib.hid hv
  have HB := Lib.hid hb
  have HCHK : Hid (chk xs x = if 8 < x.frm.length ∨ x.frm.any badC = true then 4 else if (idx xs x.name).isSome then 8 else firstNZ (x.frm.map (chkC xs x))) := by
    unfold chk Hid
    rw [if_neg]
    rintro (h | h | h | h | h)
    · simp [hname] at h
    · omega
    · omega
    · omega
    · exact h h4
  obtain ⟨nm, kd, a, frm⟩ := x
  obtain ⟨vs, hvs, hlen, hin⟩ := hv.lt
  obtain ⟨A, n, cap, rfl, hn, hcap, hmax, hc⟩ := hvs.open_
  obtain ⟨A2, m, cap2, rfl, hm, hcap2, hmax2, hc2⟩ := hb.lt.open_
  simp only at *
  have hq := fun w => refName_any nm w
  rw [hname] at hq
  have hk : ∃ b : Bool, (kd == 0) = b ∧ ((n : Int) == 0) = b := by
    by_cases h0 : kd = 0
    · exact ⟨true, by simpa using h0, by simp; omega⟩
    · exact ⟨false, by simpa using h0, by simp; omega⟩
  obtain ⟨b0, hk1, hk2⟩ := hk
  have HN : Hid (frm.length = n) := by unfold Hid; omega
  have HM := Lib.hid hm
  have HIN := Lib.hid hin
  have HC := Lib.hid hc
  have HC2 := Lib.hid hc2
  have hfi := fun w' (h : Below w.heap.size w w') (s : ByteArray) => refFind_any (.slice A2 m cap2) xs S s w' (hb.below h)
  have HFI := Lib.hid hfi
  have HFX : Hid (∀ w' c, Below w.heap.size w w' → chk xs ⟨nm, kd, a, frm⟩ = c → c ≠ 0 → RefEnterPost w S T xs ⟨nm, kd, a, frm⟩ (.returned (.tuple #[.slice A2 m cap2, .int .i64 c])) w') := fun w' c hw hc h0 => RefEnterPost.fail (entErr_chk hc h0) h0 HB.out hw
  have hm24 : m ≤ 24 := by omega
  clear hc hc2 hin hvs hb hv hfi hn hm hlen h4 hname hxl
  have HQ := Lib.hid hq
  clear hq
  have hrw : RefW w nm kd a (.slice A n cap) (w.alloc (.cells #[Value.string nm, .int .i64 kd, .int .i64 a, .slice A n cap] 44)) := ⟨(Below.refl _ w).alloc (Nat.le_refl _) _, heap_alloc_new w _⟩
  have HRW := Lib.hid hrw
  clear hrw
  by_cases h8 : 8 < n
  · have HR := Lib.hid (HFX.out _ 4 HRW.out.1 (HCHK.out.trans (if_pos (.inl (by rw [HN.out]; exact h8)))) (by decide))
    go_enter Try.func20, Try.ntmps20
    go_wp2_with fail
    refine (HQ.out _).mono ?_
    rintro e w1 ⟨rfl, rfl⟩
    go_wp2_with fail
    go_ret2
    exact HR.out
  · go_enter Try.func20, Try.ntmps20
    go_wp2_with fail
    refine (HQ.out _).mono ?_
    rintro e w1 ⟨rfl, rfl⟩
    go_wp2_with fail
    obtain ⟨W1, hW1⟩ : ∃ W1, W1 = (w.alloc (.cells #[Value.string nm, .int .i64 kd, .int .i64 a, .slice A n cap] 44)) := ⟨_, rfl⟩
    rw [← hW1] at HRW ⊢
    clear hW1 hk1 hk2
    have d0 : W1.cell? ⟨w.heap.size, 0, none⟩ = some (.string nm) := HRW.out.cell 0
    have d2 : W1.cell? ⟨w.heap.size, 2, none⟩ = some (.int .i64 a) := HRW.out.cell 2
    have d3 : W1.cell? ⟨w.heap.size, 3, none⟩ = some (.slice A n cap) := HRW.out.cell 3
    go_loop [6] (fun i => ∃ k : Nat, k ≤ n ∧ i = .int .i64 k ∧ Hid (∀ j, j < k → ∀ c, frm[j]? = some c → badC c = false)) (fun i => n - (intOf i).toNat)
    case atStart => exact ⟨0, Nat.zero_le _, rfl, fun j hj => absurd hj (by omega)⟩
    case round =>
      obtain ⟨k, hk, rfl, HK⟩ := hrel
      by_cases hlt : k < n
      · obtain ⟨b, off, u, rfl, ⟨_, hbw⟩, hu, hcell⟩ := HC.out k hlt
        obtain ⟨c, hc⟩ : ∃ c, frm[k]? = some c := ⟨frm[k]'(by have := HN.out; omega), List.getElem?_eq_getElem _⟩
        obtain ⟨u', hu', hrd⟩ := HIN.out k c hc
        obtain rfl := Option.some.inj (hu.symm.trans hu')
        obtain ⟨A3, q, cap3, rfl, hq, hcap3, hmax3, -⟩ := hrd.open_
        have hcell' : W1.cell? ⟨b, off + k, none⟩ = some (.slice A3 q cap3) := (HRW.out.1.cell (p := ⟨b, off + k, none⟩) hbw).trans hcell
        have HCc := Lib.hid hc
        have HQ' := Lib.hid hq
        clear hu hu' hc hq hrd hcell
        have hcase : ((q : Int) == 0) = true ∨ (((q : Int) == 0) = false ∧ 8 < q) ∨ (((q : Int) == 0) = false ∧ ¬ 8 < q) := by
          by_cases h : q = 0
          · exact .inl (by simpa using h)
          · have : ((q : Int) == 0) = false := by simpa using h
            by_cases h8 : 8 < q
            · exact .inr (.inl ⟨this, h8⟩)
            · exact .inr (.inr ⟨this, h8⟩)
        rcases hcase with hq0 | ⟨hq0, hq8⟩ | ⟨hq0, hq8⟩
        case inr.inr =>
          have HB : Hid (badC c = false) := by unfold badC Hid; rw [HQ'.out]; simp at hq0 ⊢; omega
          go_wp2_with fail
          go_round
          case rel =>
            refine ⟨k + 1, by omega, by go_num, fun j hj y hy => ?_⟩
            rcases Nat.lt_or_ge j k with h | h
            · exact HK.out j h y hy
            · obtain rfl : j = k := by omega
              obtain rfl := Option.some.inj (HCc.out.symm.trans hy)
              exact HB.out
          case measure => simp [intOf]; omega
        all_goals
          have HB : badC c = true := by unfold badC; rw [HQ'.out]; simp at hq0 ⊢; omega
          have HR := Lib.hid (HFX.out _ 4 HRW.out.1 (HCHK.out.trans (if_pos (.inr (List.any_eq_true.2 ⟨c, mem_of_get? HCc.out, HB⟩)))) (by decide))
          clear HB
          go_wp2_with fail
          go_ret2
          exact HR.out
      · have hnb : ¬ (8 < frm.length ∨ frm.any badC = true) := by
          rintro (h | h)
          · have := HN.out; omega
          · rw [List.any_eq_true] at h
            obtain ⟨c, hc, h⟩ := h
            obtain ⟨t, ht⟩ := List.mem_iff_getElem?.1 hc
            have := (List.getElem?_eq_some_iff.1 ht).1
            have := HN.out
            rw [HK.out t (by omega) c ht] at h
            cases h
        have HCC := Lib.hid (HCHK.out.trans (if_neg hnb))
        clear hnb
        cases hi : idx xs nm with
        | some i =>
          have hfn : findI xs nm = i := by unfold findI; rw [hi]
          have HR := Lib.hid (HFX.out _ 8 HRW.out.1 (HCC.out.trans (if_pos (by rw [hi]; rfl))) (by decide))
          have HF := fun w' h => HFI.out w' h nm
          rw [hfn] at HF
          have HF1 := Lib.hid HF
          clear hfn HF hi
          go_wp2_with (go_at_call 27; refine (HF1.out _ HRW.out.1).mono ?_; rintro e w' ⟨rfl, rfl⟩)
          go_ret2
          exact HR.out
        | none =>
          have hfn : findI xs nm = -1 := by unfold findI; rw [hi]
          have HE := Lib.hid (HCC.out.trans (if_neg (by rw [hi]; simp)))
          have HF := fun w' h => HFI.out w' h nm
          rw [hfn] at HF
          have HF1 := Lib.hid HF
          have HI := Lib.hid hi
          clear hfn HF hi
          go_wp2_with (go_at_call 27; refine (HF1.out _ HRW.out.1).mono ?_; rintro e w' ⟨rfl, rfl⟩)
          clear d0 d2 d3
          go_loopw [7] (fun i wr => ∃ k : Nat, k ≤ n ∧ i = .int .i64 k ∧ RefW w nm kd a (.slice A n cap) wr ∧ Hid (∀ j, j < k → ∀ c, frm[j]? = some c → chkC xs ⟨nm, kd, a, frm⟩ c = 0)) (fun i _ => n - (intOf i).toNat)
          case atStart => exact ⟨0, Nat.zero_le _, rfl, HRW.out, fun j hj => absurd hj (by omega)⟩
          case round =>
            clear HRW HK HQ HF1
            clear hk hlt
            obtain ⟨k, hk, rfl, hcw, HK⟩ := hrel
            by_cases hlt : k < n
            · obtain ⟨b, off, u, rfl, ⟨_, hbw⟩, hu, hcell⟩ := HC.out k hlt
              obtain ⟨c, hc⟩ : ∃ c, frm[k]? = some c := ⟨frm[k]'(by have := HN.out; omega), List.getElem?_eq_getElem _⟩
              obtain ⟨u', hu', hrd⟩ := HIN.out k c hc
              obtain rfl := Option.some.inj (hu.symm.trans hu')
              obtain ⟨A3, q, cap3, rfl, hq, hcap3, hmax3, hc3⟩ := hrd.open_
              have hcell' : wr.cell? ⟨b, off + k, none⟩ = some (.slice A3 q cap3) := (hcw.1.cell (p := ⟨b, off + k, none⟩) hbw).trans hcell
              have d3 : wr.cell? ⟨w.heap.size, 3, none⟩ = some (.slice (some ⟨b, off, none⟩) n cap) := hcw.cell 3
              have HCc := Lib.hid hc
              have HQ' := Lib.hid hq
              have HC3 := Lib.hid hc3
              have HCW := Lib.hid hcw
              clear hu hu' hc hq hrd hcell hcw hc3
              go_wp2_with fail
              clear hcell' d3
              go_loopw [9] (fun i wr => ∃ j : Nat, j ≤ q ∧ i = .int .i64 j ∧ RefW w nm kd a (.slice (some ⟨b, off, none⟩) n cap) wr ∧ Hid (∀ l, l < j → chkAt xs ⟨nm, kd, a, frm⟩ c l = 0)) (fun i _ => q - (intOf i).toNat)
              case atStart => exact ⟨0, Nat.zero_le _, rfl, HCW.out, fun l hl => absurd hl (by omega)⟩
              case round =>
                clear HCW
                obtain ⟨j, hj, rfl, hcw, HJ⟩ := hrel
                by_cases hjq : j < q
                · obtain ⟨b2, off2, nm2, rfl, ⟨_, hb2w⟩, hnm2, hcell2⟩ := HC3.out j hjq
                  have hcell2' : wr.cell? ⟨b2, off2 + j, none⟩ = some (.string nm2) := (hcw.1.cell (p := ⟨b2, off2 + j, none⟩) hb2w).trans hcell2
                  have hbelow := hcw.1
                  have hjc : j < c.length := by rw [HQ'.out]; exact hjq
                  have hfin : ∀ e : Int, chkAt xs ⟨nm, kd, a, frm⟩ c j = e → e ≠ 0 → chk xs ⟨nm, kd, a, frm⟩ = e := fun e he hne => HE.out.trans (firstNZ_map_hit HCc.out (chkC_hit hjc he hne HJ.out) hne HK.out)
                  cases hi : idx xs nm2 with
                  | none =>
                    have hfn : findI xs nm2 = -1 := by unfold findI; rw [hi]
                    have HR := Lib.hid (HFX.out wr 5 hbelow (hfin 5 (chkAt_none hnm2 hi) (by decide)) (by decide))
                    have HF := fun w' h => HFI.out w' h nm2
                    rw [hfn] at HF
                    have HF1 := Lib.hid HF
                    clear hfin hi hnm2 hcell2 hjc HF hfn
                    go_wp2_with (go_at_call 27; refine (HF1.out _ hbelow).mono ?_; rintro e w' ⟨rfl, rfl⟩)
                    go_ret2
                    exact HR.out
                  | some i =>
                    obtain ⟨y, hy, _⟩ := idx_get hi
                    have hil := idx_lt hi
                    rw [HM.out] at hil
                    have hfn : findI xs nm2 = i := by unfold findI; rw [hi]
                    have hca := chkAt_some (x := ⟨nm, kd, a, frm⟩) hnm2 hi hy
                    obtain ⟨b3, off3, y', fy, rfl, ⟨_, hb3⟩, hy', i0, i1, i2, -⟩ := HC2.out i hil
                    obtain rfl := Option.some.inj (hy.symm.trans hy')
                    obtain ⟨yn, yk, ya, yf⟩ := y
                    simp only at hca i1 i2
                    have e1 : wr.cell? ⟨b3, off3 + i * 4 + 1, none⟩ = some (.int .i64 yk) := (hbelow.cell (p := ⟨b3, _, none⟩) hb3).trans i1
                    have e2 : wr.cell? ⟨b3, off3 + i * 4 + 2, none⟩ = some (.int .i64 ya) := (hbelow.cell (p := ⟨b3, _, none⟩) hb3).trans i2
                    have d2 : wr.cell? ⟨w.heap.size, 2, none⟩ = some (.int .i64 a) := hcw.cell 2
                    have HF := fun w' h => HFI.out w' h nm2
                    rw [hfn] at HF
                    have HF1 := Lib.hid HF
                    have HNM2 := Lib.hid hnm2
                    clear hi hnm2 hcell2 hjc HF hfn hy hy' i0 i1 i2
                    by_cases hk3 : yk = 3
                    · have HR := Lib.hid (HFX.out wr 1 hbelow (hfin 1 (by rw [hca, if_pos hk3]) (by decide)) (by decide))
                      have hkb : (yk == 3) = true := by simpa using hk3
                      clear hfin hca hk3
                      go_wp2_with (go_at_call 27; refine (HF1.out _ hbelow).mono ?_; rintro e w' ⟨rfl, rfl⟩)
                      go_ret2
                      exact HR.out
                    · rw [if_neg hk3] at hca
                      have hkb : (yk == 3) = false := by simpa using hk3
                      clear hk3
                      by_cases hat : a < ya
                      · have HR := Lib.hid (fun q => HFX.out (wr.drewN q) 7 (below_drewN hbelow q) (hfin 7 (by rw [hca, if_pos hat]) (by decide)) (by decide))
                        clear hfin hca
                        go_wp2_with (go_at_call 27; refine (HF1.out _ hbelow).mono ?_; rintro e w' ⟨rfl, rfl⟩)
                        go_quiet (fail)
                        go_wp2_with fail
                        go_ret2
                        exact HR.out _
                      · rw [if_neg hat] at hca
                        have HFIN := Lib.hid hfin
                        have HCA := Lib.hid hca
                        have HCW := Lib.hid hcw
                        clear hfin hca hcw
                        go_wp2_with (go_at_call 27; refine (HF1.out _ hbelow).mono ?_; rintro e w' ⟨rfl, rfl⟩)
                        go_quiet (fail)
                        go_wp2_with fail
                        have HCW1 := Lib.hid (HCW.out.drewN nq)
                        clear hcell2' e1 e2 d2 HCW hbelow
                        go_loopw [11] (fun i wr => ∃ l : Nat, l ≤ j ∧ i = .int .i64 l ∧ RefW w nm kd a (.slice (some ⟨b, off, none⟩) n cap) wr ∧ Hid (∀ p, p < l → ∀ x, c[p]? = some x → x ≠ nm2)) (fun i _ => j - (intOf i).toNat)
                        case atStart => exact ⟨0, Nat.zero_le _, rfl, HCW1.out, fun l hl => absurd hl (by omega)⟩
                        case round =>
                          clear HCW1
                          obtain ⟨l, hl, rfl, hcw, HL⟩ := hrel
                          by_cases hlj : l < j
                          · obtain ⟨b4, off4, nm4, he4, ⟨_, hb4w⟩, hnm4, hcell4⟩ := HC3.out l (by omega)
                            simp only [Option.some.injEq, Addr.mk.injEq, and_true] at he4
                            obtain ⟨rfl, rfl⟩ := he4
                            obtain ⟨b5, off5, nm5, he5, ⟨_, hb5w⟩, hnm5, hcell5⟩ := HC3.out j hjq
                            simp only [Option.some.injEq, Addr.mk.injEq, and_true] at he5
                            obtain ⟨rfl, rfl⟩ := he5
                            obtain rfl := Option.some.inj (HNM2.out.symm.trans hnm5)
                            have g4 : wr.cell? ⟨b2, off2 + l, none⟩ = some (.string nm4) := (hcw.1.cell (p := ⟨b2, off2 + l, none⟩) hb4w).trans hcell4
                            have g5 : wr.cell? ⟨b2, off2 + j, none⟩ = some (.string nm2) := (hcw.1.cell (p := ⟨b2, off2 + j, none⟩) hb4w).trans hcell5
                            have heq := str_eq nm4 nm2
                            have HNM4 := Lib.hid hnm4
                            clear hcell4 hcell5 hnm4 hnm5
                            have HCW := Lib.hid hcw
                            clear hcw
                            by_cases he : nm4 = nm2
                            · subst he
                              have hbt : (nm4.toList == nm4.toList) = true := by simp
                              have HR := Lib.hid (fun q => HFX.out (wr.drewN q) 8 (below_drewN HCW.out.1 q) (HFIN.out 8 (by rw [HCA.out, hasN_take_hit hlj HNM4.out]; rfl) (by decide)) (by decide))
                              clear heq
                              go_wp2_with fail
                              go_quiet (fail)
                              go_wp2_with fail
                              go_ret2
                              exact HR.out _
                            · have hbt : (nm4.toList == nm2.toList) = false := by rw [heq]; simpa using he
                              have HEE := Lib.hid he
                              clear heq he
                              go_wp2_with fail
                              go_quiet (fail)
                              go_wp2_with fail
                              go_roundw
                              case rel =>
                                refine ⟨l + 1, by omega, by go_num, HCW.out.drewN _, fun p hp x hx => ?_⟩
                                rcases Nat.lt_or_ge p l with h | h
                                · exact HL.out p h x hx
                                · obtain rfl : p = l := by omega
                                  obtain rfl := Option.some.inj (HNM4.out.symm.trans hx)
                                  exact HEE.out
                              case measure => simp [intOf]; omega
                          · have HJ1 : Hid (∀ l, l < j + 1 → chkAt xs ⟨nm, kd, a, frm⟩ c l = 0) := fun p hp => by
                              rcases Nat.lt_or_ge p j with h | h
                              · exact HJ.out p h
                              · obtain rfl : p = j := by omega
                                rw [HCA.out, hasN_take_miss (fun t ht => HL.out t (by omega))]; rfl
                            have HCW := Lib.hid hcw
                            clear hcw
                            go_wp2_with fail
                            go_roundw
                            case rel => exact ⟨j + 1, by omega, by go_num, HCW.out, HJ1⟩
                            case measure => simp [intOf]; omega
                · have HK1 : Hid (∀ l, l < k + 1 → ∀ c, frm[l]? = some c → chkC xs ⟨nm, kd, a, frm⟩ c = 0) := fun p hp y hy => by
                    rcases Nat.lt_or_ge p k with h | h
                    · exact HK.out p h y hy
                    · obtain rfl : p = k := by omega
                      obtain rfl := Option.some.inj (HCc.out.symm.trans hy)
                      exact chkC_zero fun t ht => HJ.out t (by have := HQ'.out; omega)
                  have HCW := Lib.hid hcw
                  clear hcw
                  go_wp2_with fail
                  go_roundw
                  case rel => exact ⟨k + 1, by omega, by go_num, HCW.out, HK1⟩
                  case measure => simp [intOf]; omega
            · have HZ : Hid (chk xs ⟨nm, kd, a, frm⟩ = 0) := HE.out.trans (firstNZ_map_zero fun p y hp => HK.out p (by have := (List.getElem?_eq_some_iff.1 hp).1; have := HN.out; omega) y hp)
              have d3 : wr.cell? ⟨w.heap.size, 3, none⟩ = some (.slice A n cap) := hcw.cell 3
              have hsrc := (HB.out.below hcw.1)
              have hblk := hsrc.src_block
              obtain ⟨fs, hfl, hfs, hone, hsrc⟩ := hsrc.src
              rw [HM.out] at hsrc hblk
              have HSRC := Lib.hid (hsrc.alloc hblk (.cells #[] 44))
              have HONE := Lib.hid (cellsOf_one xs fs hone)
              have HFS := Lib.hid hfs
              have HFL := Lib.hid hfl
              have HCW := Lib.hid hcw
              have HW := Lib.hid (hcw.1.size)
              obtain ⟨i0, hi, hz0, hz1, hz2⟩ := info_parts info44
              clear hcw hsrc hfs hfl hone hblk
              go_wp2_with (at_builtin; first | (refine wpList_append_src rfl _ _ 41 rfl wr.heap.size 44 i0 (.agg #[.string ⟨#[]⟩, .int .i64 0, .int .i64 0, .slice none 0 0]) 4 56 Try.underlying41 hi hz0 hz1 hz2 rfl (by decide) (.slice (some ⟨wr.heap.size, 0, none⟩) 0 0) 0 [] rfl (World.ownsRow_made wr #[] 0 (Nat.le_refl _) (by decide) rfl) (.slice A2 m cap2) m (cellsOf xs fs) rfl HSRC.out HONE.out (by unfold maxLen; omega) (by omega) (by simp) ?_; intro v1 w1 hown1 hg1 _; rw [Nat.zero_add, List.nil_append] at hown1; have hb1 : Below wr.heap.size wr w1 := ((Below.refl _ wr).alloc (Nat.le_refl _) _).grown hg1 (by simp) (fun k hk => by simp [Value.ownBlock] at hk; omega); have HO1 := Lib.hid hown1; obtain ⟨A1, c1, rfl⟩ := ownsRow_slice hown1; have hsz1 := hb1.size; have hbx := (hb1.block _ (Array.getElem?_eq_some_iff.1 HCW.out.2).1).trans HCW.out.2; have f0 := cell_of_row w1 _ 0 _ _ _ hbx; have f1 := cell_of_row w1 _ 1 _ _ _ hbx; have f2 := cell_of_row w1 _ 2 _ _ _ hbx; have f3 := cell_of_row w1 _ 3 _ _ _ hbx) | (refine wpList_append_fresh rfl _ _ 41 rfl wr.heap.size 44 i0 (.agg #[.string ⟨#[]⟩, .int .i64 0, .int .i64 0, .slice none 0 0]) 4 56 Try.underlying41 hi hz0 hz1 hz2 rfl (by decide) _ m (cellsOf xs fs) rfl (hown1.alloc _) ⟨w1.heap.size, 0, none⟩ 1 1 [.string nm, .int .i64 kd, .int .i64 a, .slice A n cap] rfl rfl (cells_new w1 _ _ _) (by intro u hu; simp at hu; rcases hu with rfl | rfl | rfl | rfl <;> rfl) (by unfold maxLen; omega) (by omega) (by simp; omega) ?_; intro v2 w2 hown2 hg2 _))
              go_ret2
              exact RefEnterPost.done HZ.out HM.out hm24 HCW.out.1 HV.out HFL.out HFS.out hb1 HO1.out hown2 hg2

theorem refEnter_any (vb vf : Value) (xs : List ItemD) (x : ItemD) (S T : Nat → Prop) (w : World) (hb : RdI w S vb xs) (hv : Rd2 w T vf x.frm) (hxl : xs.length ≤ 24) :
    Calls Try.prog 20 #[vb, .agg #[.string x.name, .int .i64 x.kind, .int .i64 x.at_, vf]] w (RefEnterPost w S T xs x) := by
  by_cases hbad : nameB x.name.data.toList = false ∨ x.kind < 0 ∨ 3 < x.kind ∨ x.at_ < 0 ∨ ¬ (x.kind = 0 ↔ x.frm.length = 0)
  · exact refEnter_bad vb vf xs x S T w hb hv hbad
  · simp only [not_or, Bool.not_eq_false, Int.not_lt, Decidable.not_not] at hbad
    exact refEnter_good vb vf xs x S T w hb hv hxl hbad.1 hbad.2.1 hbad.2.2.1 hbad.2.2.2.1 hbad.2.2.2.2
end Go.Proofs.Ytlanephpmoajiaa
