/- The walk of plant.Check. -/
import Derived.Test.YtogccnngdfancaaGreatPart12
import Derived.Test.YtogccnngdfancaaGreatPart04
namespace Go.Proofs.YtogccnngdfancaaGreat
open Go.RowKit
set_option linter.unusedVariables false
set_option linter.unusedSimpArgs false
theorem made_int (n : Nat) : (madeCells (Value.int .i64 0).cells (n * 1)).toList = (List.replicate n (0 : Int)).map (Value.int .i64) := by
  rw [Nat.mul_one, show (madeCells (Value.int .i64 0).cells n).toList = List.replicate n (.int .i64 0) from toList_madeCells_one _ _]; simp
theorem all_take_no {d : WorksD} {l : List JobD} {i : Nat} {x : JobD} (hx : l[i]? = some x) (h : inRB d x = false) : l.all (inRB d) = false := by
  cases e : l.all (inRB d) with
  | false => rfl
  | true => rw [List.all_eq_true.1 e x (mem_of_get? hx)] at h; cases h
def CheckPost (d : WorksD) (l : List JobD) (w : World) (e : Ending) (w' : World) : Prop := e = .returned (.int .i64 (chkE d l)) ∧ Below w.heap.size w w'
set_option maxRecDepth 100000 in
set_option maxHeartbeats 16000000 in
theorem Check_any (v vl : Value) (d : WorksD) (l : List JobD) (S T : Nat → Prop) (w : World) (hv : WkV w S v d) (hl : RdK 3 jobC w T vl l) (hll : l.length ≤ 1000) :
    Calls Tryz.prog 11 #[v, vl] w (CheckPost d l w) := by
  obtain ⟨i0, hi0, hz0, hz1, hz2⟩ := info_parts info3
  have HCH := Lib.hid (fun w' (h : Below w.heap.size w w') => wcheck_any v d S w' (hv.below h))
  have HV := Lib.hid hv
  have HLV := Lib.hid hl
  obtain ⟨vc, vn, vm, rfl, h1, h2, h3⟩ := hv.lt
  obtain ⟨Ac, nc, cc, rfl, hnc, -, hmc, hcc⟩ := h1.open_
  obtain ⟨Am, nm, cm, rfl, hnm, -, hmm, hcm⟩ := h3.open_
  have HVN := Lib.hid h2
  obtain ⟨A, n, cap, rfl, hn, hcap, hmax, hlc⟩ := (hl.lt jobC_0).open_
  obtain ⟨we, hwe⟩ : ∃ we, we = wErr d := ⟨_, rfl⟩
  rw [← hwe] at HCH
  have HWE := Lib.hid hwe
  obtain ⟨ce, hce⟩ : ∃ ce, ce = chkE d l := ⟨_, rfl⟩
  have HCE := Lib.hid hce
  unfold CheckPost
  rw [← hce]
  obtain ⟨W1, hW1⟩ : ∃ W1, W1 = w.alloc (.cells #[.int .i64 d.presses, .int .i64 d.change, .slice Ac nc cc, vn, .slice Am nm cm] 38) := ⟨_, rfl⟩
  have hm1 := heap_alloc_new w (.cells #[.int .i64 d.presses, .int .i64 d.change, .slice Ac nc cc, vn, .slice Am nm cm] 38)
  have hb1 : Below w.heap.size w W1 := by rw [hW1]; exact (Below.refl _ w).alloc (Nat.le_refl _) _
  rw [← hW1] at hm1
  have HSZ : Hid (W1.heap.size = w.heap.size + 1) := by show _ = _; rw [hW1]; simp
  have HCELL : Hid (∀ w', Below W1.heap.size W1 w' → w'.cell? ⟨w.heap.size, 0, none⟩ = some (.int .i64 d.presses) ∧ w'.cell? ⟨w.heap.size, 1, none⟩ = some (.int .i64 d.change) ∧ w'.cell? ⟨w.heap.size, 2, none⟩ = some (.slice Ac nc cc) ∧ w'.cell? ⟨w.heap.size, 3, none⟩ = some vn ∧ w'.cell? ⟨w.heap.size, 4, none⟩ = some (.slice Am nm cm)) := fun w' hb => by
    have k0 := (hb.block _ (by have := HSZ.out; omega)).trans hm1
    exact ⟨cell_of_row w' _ 0 _ _ _ k0, cell_of_row w' _ 1 _ _ _ k0, cell_of_row w' _ 2 _ _ _ k0, cell_of_row w' _ 3 _ _ _ k0, cell_of_row w' _ 4 _ _ _ k0⟩
  obtain ⟨x0, x1, x2, x3, x4⟩ := HCELL.out W1 (Below.refl _ _)
  have HW1 := Lib.hid hW1
  have HB1 := Lib.hid hb1
  have HCM := Lib.hid hcm
  have HNC := Lib.hid hnc
  have HNM := Lib.hid hnm
  have HN := Lib.hid hn
  have HLC := Lib.hid hlc
  rw [hn] at hll
  clear hW1 hm1 hb1 hcc hcm hnc hnm h1 h2 h3 hv hl hn hlc hwe hce
  by_cases hz : we = 0
  · subst hz
    have hg := wgood_of HWE.out.symm
    have HG := Lib.hid hg
    have hn8 : nc ≤ 8 := by have := hg.ok.n8; have := HNC.out; omega
    clear hg
    by_cases hlen : n ≤ 64
    · have hlen' : ¬ ((n : Int) > 64) := by omega
      have HARG : Hid (l.all (inRB d) = false → ce = 1) := fun h => by rw [HCE.out]; unfold chkE; rw [if_neg (by have := HWE.out; omega), if_neg (by have := HN.out; omega), if_pos h]
      go_enter Tryz.func11, Tryz.ntmps11
      go_wp2_with fail
      rw [← HW1.out]
      refine (HCH.out W1 HB1.out).mono ?_
      rintro e w2 ⟨rfl, hb2⟩
      have HB2' : Hid (Below W1.heap.size W1 w2) := hb2
      clear hb2 x0 x1 x2 x3 x4
      obtain ⟨x0, x1, x2, x3, x4⟩ := HCELL.out w2 HB2'.out
      go_wp2_with (at_make; refine wpList_make_full _ rfl _ _ 22 rfl W1.heap.size 3 i0 (.int .i64 0) 1 Tryz.underlying22 hi0 hz0 hz1 .i64 .i64 (nc : Int) (nc : Int) nc rfl rfl rfl rfl (by rw [hz2]; omega) (by unfold maxLen; omega) (by have := HB2'.out.size; simp; omega) ?_; intro w3 hown hgrow)
      have HB3 : Hid (Below W1.heap.size W1 w3) := HB2'.out.trans (((Below.refl _ w2).grown hgrow (Nat.le_refl _) (fun k hk => by simp at hk)).mono HB2'.out.size)
      rw [made_int] at hown
      have HO3 : Hid (w3.ownsRow W1.heap.size 3 1 (.slice (some ⟨w2.heap.size, 0, none⟩) nc nc) nc ((cntL d (l.take 0)).map (Value.int .i64))) := by
        show World.ownsRow _ _ _ _ _ _ _
        rw [List.take_zero, cntL_nil, HNC.out]; exact hown
      clear hown hgrow x0 x1 x2 x3 x4
      obtain ⟨g, hgg⟩ : ∃ g, g = w2.heap.size := ⟨_, rfl⟩
      rw [← hgg] at HO3 ⊢
      have hgB : W1.heap.size ≤ g := by have := HB2'.out.size; omega
      clear hgg
      go_loopw [30] (fun iv wr => ∃ i : Nat, i ≤ n ∧ iv = .int .i64 (i : Int) ∧ Hid (∀ x ∈ l.take i, InRange d x) ∧ wr.ownsRow W1.heap.size 3 1 (.slice (some ⟨g, 0, none⟩) nc nc) nc ((cntL d (l.take i)).map (Value.int .i64)) ∧ Below W1.heap.size W1 wr) (fun iv _ => n - (intOf iv).toNat)
      case atStart => exact ⟨0, Nat.zero_le _, rfl, (fun x h => by simp at h), HO3.out, HB3.out⟩
      case round =>
        clear HO3 HB3
        obtain ⟨i, hi, rfl, HIN, hrow, hbel⟩ := hrel
        have HROW := Lib.hid hrow
        have HBEL := Lib.hid hbel
        have HBR := Lib.hid (HB1.out.trans (hbel.mono HB1.out.size))
        clear hrow hbel
        by_cases hlt : i < n
        · obtain ⟨b, off, x, rfl, ⟨_, hbl⟩, hx, hcell⟩ := HLC.out i hlt
          have d0 : wr.cell? ⟨b, off + i * 3, none⟩ = some (.int .i64 x.press) := (HBR.out.cell (p := ⟨b, _, none⟩) hbl).trans (hcell 0 _ rfl)
          have d1 : wr.cell? ⟨b, off + i * 3 + 1, none⟩ = some (.int .i64 x.kind) := (HBR.out.cell (p := ⟨b, _, none⟩) hbl).trans (hcell 1 _ rfl)
          have d2 : wr.cell? ⟨b, off + i * 3 + 2, none⟩ = some (.int .i64 x.start) := (HBR.out.cell (p := ⟨b, _, none⟩) hbl).trans (hcell 2 _ rfl)
          have HX := Lib.hid hx
          have hli : (i : Int) < (n : Int) := by omega
          obtain ⟨xp, xk, xs⟩ := x
          simp only [] at d0 d1 d2
          obtain ⟨wa, hwa⟩ : ∃ wa, wa = wr.alloc (.cells #[.int .i64 xp, .int .i64 xk, .int .i64 xs] 79) := ⟨_, rfl⟩
          have hma := heap_alloc_new wr (.cells #[.int .i64 xp, .int .i64 xk, .int .i64 xs] 79)
          have hba : Below wr.heap.size wr wa := by rw [hwa]; exact (Below.refl _ _).alloc (Nat.le_refl _) _
          rw [← hwa] at hma
          have HWA := Lib.hid hwa
          have HBA := Lib.hid (HBEL.out.trans (hba.mono HBEL.out.size))
          have HRA : Hid (wa.ownsRow W1.heap.size 3 1 (.slice (some ⟨g, 0, none⟩) nc nc) nc ((cntL d (l.take i)).map (Value.int .i64))) := by rw [hwa]; exact HROW.out.alloc _
          obtain ⟨z0, z1, z2, z3, z4⟩ := HCELL.out wa HBA.out
          rw [hwa] at z0 z1 z2 z3 z4
          have q0 : (wr.alloc (.cells #[.int .i64 xp, .int .i64 xk, .int .i64 xs] 79)).cell? ⟨wr.heap.size, 0, none⟩ = some (.int .i64 xp) := by rw [← hwa]; exact cell_of_row wa _ 0 _ _ _ hma
          have q1 : (wr.alloc (.cells #[.int .i64 xp, .int .i64 xk, .int .i64 xs] 79)).cell? ⟨wr.heap.size, 1, none⟩ = some (.int .i64 xk) := by rw [← hwa]; exact cell_of_row wa _ 1 _ _ _ hma
          have q2 : (wr.alloc (.cells #[.int .i64 xp, .int .i64 xk, .int .i64 xs] 79)).cell? ⟨wr.heap.size, 2, none⟩ = some (.int .i64 xs) := by rw [← hwa]; exact cell_of_row wa _ 2 _ _ _ hma
          clear hx hcell hwa hma hba
          by_cases hok : inRB d ⟨xp, xk, xs⟩ = true
          · have hr := inRB_iff.1 hok
            have r1 : 0 ≤ xp := hr.p0
            have r2 : xp < d.presses := hr.p1
            have r3 : 0 ≤ xk := hr.k0
            have r4 : xk < (nc : Int) := by have := hr.k1; have := HNC.out; show xk < _; simp only [] at *; omega
            have r5 : 0 ≤ xs := hr.s0
            have r6 : xs ≤ 1000000 := hr.s1
            have HR := Lib.hid hr
            obtain ⟨kn, rfl⟩ : ∃ kn : Nat, xk = (kn : Int) := ⟨xk.toNat, by omega⟩
            have hkc : (wr.alloc (.cells #[.int .i64 xp, .int .i64 (kn : Int), .int .i64 xs] 79)).cell? ⟨g, kn, none⟩ = some (.int .i64 ((kindN (l.take i) kn : Nat) : Int)) := by
              rw [← HWA.out, HRA.out.cellAt kn (by omega), List.getElem?_map, cntL_get _ (by have := HNC.out; omega)]; rfl
            have hkf : (wr.alloc (.cells #[.int .i64 xp, .int .i64 (kn : Int), .int .i64 xs] 79)).frozen? ⟨g, kn, none⟩ = false := by rw [← HWA.out]; exact HRA.out.frozenAt kn
            have HST : Hid ((cntL d (l.take (i + 1))) = (cntL d (l.take i)).set kn (((kindN (l.take i) kn : Nat) : Int) + 1)) := by
              show _ = _; rw [take_snoc? HX.out]; exact cntL_snoc _ rfl
            obtain ⟨c, hc⟩ : ∃ c, c = kindN (l.take i) kn := ⟨_, rfl⟩
            have hc64 : c ≤ 64 := by rw [hc]; have : kindN (l.take i) kn ≤ (l.take i).length := List.countP_le_length; rw [List.length_take] at this; omega
            rw [← hc] at hkc HST
            have hc64i : (c : Int) ≤ 64 := by omega
            have hc0i : (0 : Int) ≤ (c : Int) := by omega
            clear hc hr hok
            go_wp2_with fail
            have hrow2 := (HRA.out.stored kn (.int .i64 ((c : Int) + 1))).1
            rw [← List.map_set, ← HST.out] at hrow2
            have HROW2 := Lib.hid hrow2
            have HBA2 : Hid (Below W1.heap.size W1 (wa.setCell ⟨g, kn, none⟩ (.int .i64 ((c : Int) + 1)))) := HBA.out.setCell hgB _
            rw [HWA.out] at HROW2 HBA2
            clear hrow2 z0 z1 z2 z3 z4 q0 q1 q2 hkc hkf d0 d1 d2
            go_roundw
            case rel =>
              refine ⟨i + 1, hlt, by go_num, fun y hy => ?_, HROW2.out, HBA2.out⟩
              rw [take_snoc? HX.out] at hy
              rcases List.mem_append.1 hy with hy | hy
              · exact HIN.out y hy
              · rw [List.mem_singleton.1 hy]; exact HR.out
            case measure => simp [intOf]; omega
          · have HA := Lib.hid (HARG.out (all_take_no HX.out (by simpa using hok)))
            have hnr : ¬ (0 ≤ xp ∧ xp < d.presses ∧ 0 ≤ xk ∧ xk < (nc : Int) ∧ 0 ≤ xs ∧ xs ≤ 1000000) := fun h => hok (inRB_iff.2 ⟨h.1, h.2.1, h.2.2.1, by have := HNC.out; show xk < _; omega, h.2.2.2.2.1, h.2.2.2.2.2⟩)
            have hsix : xp < 0 ∨ (0 ≤ xp ∧ d.presses ≤ xp) ∨ (0 ≤ xp ∧ xp < d.presses ∧ xk < 0) ∨ (0 ≤ xp ∧ xp < d.presses ∧ 0 ≤ xk ∧ (nc : Int) ≤ xk) ∨ (0 ≤ xp ∧ xp < d.presses ∧ 0 ≤ xk ∧ xk < (nc : Int) ∧ xs < 0) ∨ (0 ≤ xp ∧ xp < d.presses ∧ 0 ≤ xk ∧ xk < (nc : Int) ∧ 0 ≤ xs ∧ 1000000 < xs) := by omega
            clear hok hnr
            rcases hsix with s1 | ⟨s1, s2⟩ | ⟨s1, s2, s3⟩ | ⟨s1, s2, s3, s4⟩ | ⟨s1, s2, s3, s4, s5⟩ | ⟨s1, s2, s3, s4, s5, s6⟩
            all_goals
              go_wp2_with fail
              go_ret
              rw [← HWA.out]
              exact ⟨by rw [HA.out]; rfl, HB1.out.trans (HBA.out.mono HB1.out.size)⟩
        · have hin : i = n := by omega
          have HALL : Hid (∀ x ∈ l, InRange d x) := fun x hx => HIN.out x (by rw [hin, ← HN.out, List.take_length]; exact hx)
          have HRL : Hid (Rd (Value.int .i64) wr (W1.heap.size ≤ ·) (.slice (some ⟨g, 0, none⟩) nc nc) (cntL d l)) := by
            have := HROW.out
            rw [hin, ← HN.out, List.take_length] at this
            exact Rd.of_own this
          have HSRT := Lib.hid (sorted_any _ l T wr (HLV.out.below jobC_0 HBR.out) (by rw [HN.out]; exact hlen))
          have hli : ¬ ((i : Int) < (n : Int)) := by omega
          clear hin hlt HIN HROW HARG
          go_wp2_with fail
          refine HSRT.out.mono ?_
          rintro e w5 ⟨⟨v', s, rfl, hown, hperm, hsort⟩, hb5⟩
          have HB5 := Lib.hid (HBEL.out.trans (hb5.mono HBEL.out.size))
          have hsl : s.length = n := by rw [hperm.length_eq]; exact HN.out
          have HSR : Hid (RdK 3 jobC w5 (wr.heap.size ≤ ·) v' s) := RdK.of_own (fun _ => rfl) hown (by rw [hsl, HN.out])
          obtain ⟨As, ns, cs, rfl, hns, _, _, hsc⟩ := (HSR.out.lt jobC_0).open_
          obtain rfl : n = ns := hsl.symm.trans hns
          have HSL : Hid (s.length = n) := hsl
          have HSC := Lib.hid hsc
          have HR5 : Hid (Rd (Value.int .i64) w5 (W1.heap.size ≤ ·) (.slice (some ⟨g, 0, none⟩) nc nc) (cntL d l)) := HRL.out.below hb5
          have HCE2 : Hid (ce = chkS d l s) := by show _ = _; rw [chkS_eq hperm hsort]; exact HCE.out
          have HC1 : Hid (ce = if adjUp d s s.length = false then 91 else if overM d l = true then 91 else if cntL d l = d.need then 0 else 5) := by
            show _ = _
            rw [HCE2.out]; unfold chkS
            rw [if_neg (by have := HWE.out; omega), if_neg (by have := HN.out; omega), if_neg]
            intro h
            rw [List.all_eq_true.2 fun j hj => inRB_iff.2 (HALL.out j hj)] at h; cases h
          have HPM := Lib.hid hperm
          clear hown hperm hsort hb5 hsl hns hsc HCE2 HCE HSRT HRL HBEL HBR
          go_wp2_with fail
          go_loopw [10] (fun iv wr => ∃ i : Nat, 1 ≤ i ∧ (i ≤ n ∨ i = 1) ∧ iv = .int .i64 (i : Int) ∧ Hid (adjUp d s i = true) ∧ Below w5.heap.size w5 wr) (fun iv _ => n - (intOf iv).toNat)
          case atStart => exact ⟨1, Nat.le_refl _, .inr rfl, rfl, by show _ = _; rw [adjUp_succ]; rfl, Below.refl _ _⟩
          case round =>
            obtain ⟨i, hi1, hi2, rfl, HAD, hbq⟩ := hrel
            have HBQ := Lib.hid hbq
            clear hbq
            by_cases hlt : i < n
            · obtain ⟨i1, hi1e⟩ : ∃ i1, i1 = i - 1 := ⟨_, rfl⟩
              obtain ⟨b, off, x, rfl, ⟨_, hbl⟩, hx, hcx⟩ := HSC.out i1 (by omega)
              obtain ⟨b', off', y, hA', ⟨_, hbl'⟩, hy, hcy⟩ := HSC.out i hlt
              simp only [Option.some.injEq, Addr.mk.injEq, and_true] at hA'
              obtain ⟨rfl, rfl⟩ := hA'
              have d0 : wr.cell? ⟨b, off + i1 * 3, none⟩ = some (.int .i64 x.press) := (HBQ.out.cell (p := ⟨b, _, none⟩) hbl).trans (hcx 0 _ rfl)
              have d1 : wr.cell? ⟨b, off + i1 * 3 + 1, none⟩ = some (.int .i64 x.kind) := (HBQ.out.cell (p := ⟨b, _, none⟩) hbl).trans (hcx 1 _ rfl)
              have d2 : wr.cell? ⟨b, off + i1 * 3 + 2, none⟩ = some (.int .i64 x.start) := (HBQ.out.cell (p := ⟨b, _, none⟩) hbl).trans (hcx 2 _ rfl)
              have e0 : wr.cell? ⟨b, off + i * 3, none⟩ = some (.int .i64 y.press) := (HBQ.out.cell (p := ⟨b, _, none⟩) hbl).trans (hcy 0 _ rfl)
              have e1 : wr.cell? ⟨b, off + i * 3 + 1, none⟩ = some (.int .i64 y.kind) := (HBQ.out.cell (p := ⟨b, _, none⟩) hbl).trans (hcy 1 _ rfl)
              have e2 : wr.cell? ⟨b, off + i * 3 + 2, none⟩ = some (.int .i64 y.start) := (HBQ.out.cell (p := ⟨b, _, none⟩) hbl).trans (hcy 2 _ rfl)
              have HX : Hid (s[i - 1]? = some x) := by show _ = _; rw [← hi1e]; exact hx
              have HY := Lib.hid hy
              have hli : (i : Int) < (n : Int) := by omega
              have hi0 : (0 : Int) ≤ (i : Int) := by omega
              have hi1n : (i1 : Int) < (n : Int) := by omega
              have hi10 : (0 : Int) ≤ (i1 : Int) := by omega
              have hw1 : IntKind.i64.wrap ((i : Int) - 1) = (i1 : Int) := by rw [IntWalk.i64_in _ (by omega)]; omega
              clear hx hy hcx hcy hi1e
              obtain ⟨xp, xk, xs⟩ := x
              obtain ⟨yp, yk, ys⟩ := y
              simp only [] at d0 d1 d2 e0 e1 e2
              have hbw : b < wr.heap.size := by have := HBQ.out.size; omega
              have hbw2 : b < wr.heap.size + 1 := by omega
              go_wp2_with fail
              go_region
              · obtain ⟨wb, hwb⟩ : ∃ wb, wb = ((wr.alloc (.cells #[.int .i64 xp, .int .i64 xk, .int .i64 xs] 79)).alloc (.cells #[.int .i64 yp, .int .i64 yk, .int .i64 ys] 79)).drew := ⟨_, rfl⟩
                have HBB : Hid (Below wr.heap.size wr wb) := by rw [hwb]; exact (((Below.refl _ wr).alloc (Nat.le_refl _) _).alloc (by simp) _).drew
                have m1 : wb.heap[wr.heap.size]? = some (.cells #[.int .i64 xp, .int .i64 xk, .int .i64 xs] 79) := by
                  rw [hwb]; exact ((((Below.refl _ (wr.alloc (.cells #[.int .i64 xp, .int .i64 xk, .int .i64 xs] 79))).alloc (Nat.le_refl _) (.cells #[.int .i64 yp, .int .i64 yk, .int .i64 ys] 79)).drew).block _ (by simp)).trans (heap_alloc_new wr _)
                have m2 : wb.heap[wr.heap.size + 1]? = some (.cells #[.int .i64 yp, .int .i64 yk, .int .i64 ys] 79) := by
                  have := heap_alloc_new (wr.alloc (.cells #[.int .i64 xp, .int .i64 xk, .int .i64 xs] 79)) (.cells #[.int .i64 yp, .int .i64 yk, .int .i64 ys] 79)
                  rw [hwb]; show ((wr.alloc (.cells #[.int .i64 xp, .int .i64 xk, .int .i64 xs] 79)).alloc (.cells #[.int .i64 yp, .int .i64 yk, .int .i64 ys] 79)).heap[wr.heap.size + 1]? = _; simpa using this
                have HBS : Hid (wb.heap.size = wr.heap.size + 2) := by show _ = _; rw [hwb]; simp
                have HBC := Lib.hid (HBQ.out.trans (HBB.out.mono HBQ.out.size))
                have HCW : Hid (∀ w', Below wb.heap.size wb w' → (w'.cell? ⟨w.heap.size, 0, none⟩ = some (.int .i64 d.presses) ∧ w'.cell? ⟨w.heap.size, 1, none⟩ = some (.int .i64 d.change) ∧ w'.cell? ⟨w.heap.size, 2, none⟩ = some (.slice Ac nc cc) ∧ w'.cell? ⟨w.heap.size, 3, none⟩ = some vn ∧ w'.cell? ⟨w.heap.size, 4, none⟩ = some (.slice Am nm cm)) ∧ (w'.cell? ⟨wr.heap.size, 0, none⟩ = some (.int .i64 xp) ∧ w'.cell? ⟨wr.heap.size, 1, none⟩ = some (.int .i64 xk) ∧ w'.cell? ⟨wr.heap.size, 2, none⟩ = some (.int .i64 xs)) ∧ (w'.cell? ⟨wr.heap.size + 1, 0, none⟩ = some (.int .i64 yp) ∧ w'.cell? ⟨wr.heap.size + 1, 1, none⟩ = some (.int .i64 yk) ∧ w'.cell? ⟨wr.heap.size + 1, 2, none⟩ = some (.int .i64 ys))) := fun w' h => by
                  have n1 := (h.block _ (by have := HBS.out; omega)).trans m1
                  have n2 := (h.block _ (by have := HBS.out; omega)).trans m2
                  exact ⟨HCELL.out w' (HB5.out.trans ((HBC.out.trans (h.mono HBC.out.size)).mono HB5.out.size)), ⟨cell_of_row w' _ 0 _ _ _ n1, cell_of_row w' _ 1 _ _ _ n1, cell_of_row w' _ 2 _ _ _ n1⟩, cell_of_row w' _ 0 _ _ _ n2, cell_of_row w' _ 1 _ _ _ n2, cell_of_row w' _ 2 _ _ _ n2⟩
                rw [← hwb]
                clear hwb m1 m2 d0 d1 d2 e0 e1 e2
                have HAB : Hid (adjAt d s i = adjB d ⟨xp, xk, xs⟩ ⟨yp, yk, ys⟩) := adjAt_of HX.out HY.out
                have HSU : Hid (adjB d ⟨xp, xk, xs⟩ ⟨yp, yk, ys⟩ = true → adjUp d s (i + 1) = true) := fun h => by rw [adjUp_succ, HAD.out, HAB.out, h]; simp
                have HNO : Hid (adjB d ⟨xp, xk, xs⟩ ⟨yp, yk, ys⟩ = false → ce = 91) := fun h => by
                  have := adjUp_no (d := d) (s := s) (n := s.length) hi1 (by rw [HAB.out]; exact h) (by have := HSL.out; omega)
                  rw [HC1.out, if_pos this]
                obtain ⟨⟨z0, z1, z2, z3, z4⟩, ⟨f0, f1, f2⟩, g0, g1, g2⟩ := HCW.out wb (Below.refl _ _)
                by_cases hpp : xp = yp
                · subst hpp
                  have hpb : (xp != xp) = false := by simp
                  have hrx : InRange d ⟨xp, xk, xs⟩ := HALL.out _ (HPM.out.mem_iff.1 (mem_of_get? HX.out))
                  have hcx := cure_in HG.out hrx
                  have hsx0 : 0 ≤ xs := hrx.s0
                  have hsx1 : xs ≤ 1000000 := hrx.s1
                  have HEN := Lib.hid (end_any _ d ⟨xp, xk, xs⟩ S wb (HV.out.below (HB1.out.trans ((HB5.out.trans (HBC.out.mono HB5.out.size)).mono HB1.out.size))) hrx.k0 hrx.k1 (by constructor <;> simp only [] <;> omega) (by simp only [] at hcx ⊢; omega))
                  obtain ⟨ex, hex⟩ : ∃ e, e = endJ d ⟨xp, xk, xs⟩ := ⟨_, rfl⟩
                  have hex0 : 0 ≤ ex ∧ ex ≤ 2000000 := by rw [hex]; unfold endJ; simp only [] at *; omega
                  obtain ⟨hex0, hex1⟩ := hex0
                  have HADJ : Hid (adjB d ⟨xp, xk, xs⟩ ⟨xp, yk, ys⟩ = decide (ex + (if xk = yk then 0 else d.change) ≤ ys)) := by
                    show _ = _; unfold adjB chg; rw [← hex]; simp
                  rw [← hex] at HEN
                  simp only [JobV] at HEN
                  have hcc0 := HG.out.ok.c0
                  have hcc1 := HG.out.ok.c1
                  clear hex hrx hcx
                  go_wp2_with fail
                  refine HEN.out.mono ?_
                  rintro e' wc ⟨rfl, hbc⟩
                  have HBD := Lib.hid (HBC.out.trans (hbc.mono HBC.out.size))
                  have hq := HCW.out wc hbc
                  clear z0 z1 z2 z3 z4 f0 f1 f2 g0 g1 g2 hbc
                  obtain ⟨⟨z0, z1, z2, z3, z4⟩, ⟨f0, f1, f2⟩, g0, g1, g2⟩ := hq
                  by_cases hk : xk = yk
                  · have hkb : (xk != yk) = false := by simp [hk]
                    by_cases hb : ys < ex
                    · have HA := Lib.hid (HNO.out (by rw [HADJ.out, if_pos hk]; exact decide_eq_false (by omega)))
                      clear hk
                      go_wp2_with fail
                      go_ret
                      exact ⟨by rw [HA.out]; rfl, HB1.out.trans ((HB5.out.trans (HBD.out.mono HB5.out.size)).mono HB1.out.size)⟩
                    · have HA := Lib.hid (HSU.out (by rw [HADJ.out, if_pos hk]; exact decide_eq_true (by omega)))
                      clear hk
                      go_wp2_with fail
                      go_roundw
                      case rel => exact ⟨i + 1, by omega, by omega, by go_num, HA.out, HBD.out⟩
                      case measure => simp [intOf]; omega
                  · have hkb : (xk != yk) = true := by rw [bne_iff_ne]; exact hk
                    by_cases hb : ys < ex + d.change
                    · have HA := Lib.hid (HNO.out (by rw [HADJ.out, if_neg hk]; exact decide_eq_false (by omega)))
                      clear hk
                      go_wp2_with fail
                      go_ret
                      exact ⟨by rw [HA.out]; rfl, HB1.out.trans ((HB5.out.trans (HBD.out.mono HB5.out.size)).mono HB1.out.size)⟩
                    · have HA := Lib.hid (HSU.out (by rw [HADJ.out, if_neg hk]; exact decide_eq_true (by omega)))
                      clear hk
                      go_wp2_with fail
                      go_roundw
                      case rel => exact ⟨i + 1, by omega, by omega, by go_num, HA.out, HBD.out⟩
                      case measure => simp [intOf]; omega
                · have hpb : (xp != yp) = true := by rw [bne_iff_ne]; exact hpp
                  have HA := Lib.hid (HSU.out (decide_eq_true fun h => absurd h hpp))
                  clear hpp
                  go_wp2_with fail
                  go_roundw
                  case rel => exact ⟨i + 1, by omega, by omega, by go_num, HA.out, HBC.out⟩
                  case measure => simp [intOf]; omega
              · obtain ⟨wb, hwb⟩ : ∃ wb, wb = ((wr.alloc (.cells #[.int .i64 yp, .int .i64 yk, .int .i64 ys] 79)).alloc (.cells #[.int .i64 xp, .int .i64 xk, .int .i64 xs] 79)).drew := ⟨_, rfl⟩
                have HBB : Hid (Below wr.heap.size wr wb) := by rw [hwb]; exact (((Below.refl _ wr).alloc (Nat.le_refl _) _).alloc (by simp) _).drew
                have m1 : wb.heap[wr.heap.size]? = some (.cells #[.int .i64 yp, .int .i64 yk, .int .i64 ys] 79) := by
                  rw [hwb]; exact ((((Below.refl _ (wr.alloc (.cells #[.int .i64 yp, .int .i64 yk, .int .i64 ys] 79))).alloc (Nat.le_refl _) (.cells #[.int .i64 xp, .int .i64 xk, .int .i64 xs] 79)).drew).block _ (by simp)).trans (heap_alloc_new wr _)
                have m2 : wb.heap[wr.heap.size + 1]? = some (.cells #[.int .i64 xp, .int .i64 xk, .int .i64 xs] 79) := by
                  have := heap_alloc_new (wr.alloc (.cells #[.int .i64 yp, .int .i64 yk, .int .i64 ys] 79)) (.cells #[.int .i64 xp, .int .i64 xk, .int .i64 xs] 79)
                  rw [hwb]; show ((wr.alloc (.cells #[.int .i64 yp, .int .i64 yk, .int .i64 ys] 79)).alloc (.cells #[.int .i64 xp, .int .i64 xk, .int .i64 xs] 79)).heap[wr.heap.size + 1]? = _; simpa using this
                have HBS : Hid (wb.heap.size = wr.heap.size + 2) := by show _ = _; rw [hwb]; simp
                have HBC := Lib.hid (HBQ.out.trans (HBB.out.mono HBQ.out.size))
                have HCW : Hid (∀ w', Below wb.heap.size wb w' → (w'.cell? ⟨w.heap.size, 0, none⟩ = some (.int .i64 d.presses) ∧ w'.cell? ⟨w.heap.size, 1, none⟩ = some (.int .i64 d.change) ∧ w'.cell? ⟨w.heap.size, 2, none⟩ = some (.slice Ac nc cc) ∧ w'.cell? ⟨w.heap.size, 3, none⟩ = some vn ∧ w'.cell? ⟨w.heap.size, 4, none⟩ = some (.slice Am nm cm)) ∧ (w'.cell? ⟨wr.heap.size + 1, 0, none⟩ = some (.int .i64 xp) ∧ w'.cell? ⟨wr.heap.size + 1, 1, none⟩ = some (.int .i64 xk) ∧ w'.cell? ⟨wr.heap.size + 1, 2, none⟩ = some (.int .i64 xs)) ∧ (w'.cell? ⟨wr.heap.size, 0, none⟩ = some (.int .i64 yp) ∧ w'.cell? ⟨wr.heap.size, 1, none⟩ = some (.int .i64 yk) ∧ w'.cell? ⟨wr.heap.size, 2, none⟩ = some (.int .i64 ys))) := fun w' h => by
                  have n1 := (h.block _ (by have := HBS.out; omega)).trans m2
                  have n2 := (h.block _ (by have := HBS.out; omega)).trans m1
                  exact ⟨HCELL.out w' (HB5.out.trans ((HBC.out.trans (h.mono HBC.out.size)).mono HB5.out.size)), ⟨cell_of_row w' _ 0 _ _ _ n1, cell_of_row w' _ 1 _ _ _ n1, cell_of_row w' _ 2 _ _ _ n1⟩, cell_of_row w' _ 0 _ _ _ n2, cell_of_row w' _ 1 _ _ _ n2, cell_of_row w' _ 2 _ _ _ n2⟩
                rw [← hwb]
                clear hwb m1 m2 d0 d1 d2 e0 e1 e2
                have HAB : Hid (adjAt d s i = adjB d ⟨xp, xk, xs⟩ ⟨yp, yk, ys⟩) := adjAt_of HX.out HY.out
                have HSU : Hid (adjB d ⟨xp, xk, xs⟩ ⟨yp, yk, ys⟩ = true → adjUp d s (i + 1) = true) := fun h => by rw [adjUp_succ, HAD.out, HAB.out, h]; simp
                have HNO : Hid (adjB d ⟨xp, xk, xs⟩ ⟨yp, yk, ys⟩ = false → ce = 91) := fun h => by
                  have := adjUp_no (d := d) (s := s) (n := s.length) hi1 (by rw [HAB.out]; exact h) (by have := HSL.out; omega)
                  rw [HC1.out, if_pos this]
                obtain ⟨⟨z0, z1, z2, z3, z4⟩, ⟨f0, f1, f2⟩, g0, g1, g2⟩ := HCW.out wb (Below.refl _ _)
                by_cases hpp : xp = yp
                · subst hpp
                  have hpb : (xp != xp) = false := by simp
                  have hrx : InRange d ⟨xp, xk, xs⟩ := HALL.out _ (HPM.out.mem_iff.1 (mem_of_get? HX.out))
                  have hcx := cure_in HG.out hrx
                  have hsx0 : 0 ≤ xs := hrx.s0
                  have hsx1 : xs ≤ 1000000 := hrx.s1
                  have HEN := Lib.hid (end_any _ d ⟨xp, xk, xs⟩ S wb (HV.out.below (HB1.out.trans ((HB5.out.trans (HBC.out.mono HB5.out.size)).mono HB1.out.size))) hrx.k0 hrx.k1 (by constructor <;> simp only [] <;> omega) (by simp only [] at hcx ⊢; omega))
                  obtain ⟨ex, hex⟩ : ∃ e, e = endJ d ⟨xp, xk, xs⟩ := ⟨_, rfl⟩
                  have hex0 : 0 ≤ ex ∧ ex ≤ 2000000 := by rw [hex]; unfold endJ; simp only [] at *; omega
                  obtain ⟨hex0, hex1⟩ := hex0
                  have HADJ : Hid (adjB d ⟨xp, xk, xs⟩ ⟨xp, yk, ys⟩ = decide (ex + (if xk = yk then 0 else d.change) ≤ ys)) := by
                    show _ = _; unfold adjB chg; rw [← hex]; simp
                  rw [← hex] at HEN
                  simp only [JobV] at HEN
                  have hcc0 := HG.out.ok.c0
                  have hcc1 := HG.out.ok.c1
                  clear hex hrx hcx
                  go_wp2_with fail
                  refine HEN.out.mono ?_
                  rintro e' wc ⟨rfl, hbc⟩
                  have HBD := Lib.hid (HBC.out.trans (hbc.mono HBC.out.size))
                  have hq := HCW.out wc hbc
                  clear z0 z1 z2 z3 z4 f0 f1 f2 g0 g1 g2 hbc
                  obtain ⟨⟨z0, z1, z2, z3, z4⟩, ⟨f0, f1, f2⟩, g0, g1, g2⟩ := hq
                  by_cases hk : xk = yk
                  · have hkb : (xk != yk) = false := by simp [hk]
                    by_cases hb : ys < ex
                    · have HA := Lib.hid (HNO.out (by rw [HADJ.out, if_pos hk]; exact decide_eq_false (by omega)))
                      clear hk
                      go_wp2_with fail
                      go_ret
                      exact ⟨by rw [HA.out]; rfl, HB1.out.trans ((HB5.out.trans (HBD.out.mono HB5.out.size)).mono HB1.out.size)⟩
                    · have HA := Lib.hid (HSU.out (by rw [HADJ.out, if_pos hk]; exact decide_eq_true (by omega)))
                      clear hk
                      go_wp2_with fail
                      go_roundw
                      case rel => exact ⟨i + 1, by omega, by omega, by go_num, HA.out, HBD.out⟩
                      case measure => simp [intOf]; omega
                  · have hkb : (xk != yk) = true := by rw [bne_iff_ne]; exact hk
                    by_cases hb : ys < ex + d.change
                    · have HA := Lib.hid (HNO.out (by rw [HADJ.out, if_neg hk]; exact decide_eq_false (by omega)))
                      clear hk
                      go_wp2_with fail
                      go_ret
                      exact ⟨by rw [HA.out]; rfl, HB1.out.trans ((HB5.out.trans (HBD.out.mono HB5.out.size)).mono HB1.out.size)⟩
                    · have HA := Lib.hid (HSU.out (by rw [HADJ.out, if_neg hk]; exact decide_eq_true (by omega)))
                      clear hk
                      go_wp2_with fail
                      go_roundw
                      case rel => exact ⟨i + 1, by omega, by omega, by go_num, HA.out, HBD.out⟩
                      case measure => simp [intOf]; omega
                · have hpb : (xp != yp) = true := by rw [bne_iff_ne]; exact hpp
                  have HA := Lib.hid (HSU.out (decide_eq_true fun h => absurd h hpp))
                  clear hpp
                  go_wp2_with fail
                  go_roundw
                  case rel => exact ⟨i + 1, by omega, by omega, by go_num, HA.out, HBC.out⟩
                  case measure => simp [intOf]; omega
            · have HADJ : Hid (adjUp d s s.length = true) := by
                show _ = _
                rw [HSL.out]
                by_cases e : n = 0
                · rw [e]; rfl
                · have : i = n := by omega
                  rw [← this]; exact HAD.out
              have HC2 : Hid (ce = if overM d l = true then 91 else if cntL d l = d.need then 0 else 5) := by
                show _ = _; rw [HC1.out, if_neg (by rw [HADJ.out]; decide)]
              have hli : ¬ ((i : Int) < (n : Int)) := by omega
              have HB6 := Lib.hid (HB5.out.trans (HBQ.out.mono HB5.out.size))
              have hwo : ∃ wo, wo = wr := ⟨_, rfl⟩
              clear HAD HC1 HADJ HSC HSR HPM HSL
              go_wp2_with fail
              go_loopw [115] (fun iv wr' => ∃ i : Nat, i ≤ n ∧ iv = .int .i64 (i : Int) ∧ Hid (∀ x ∈ l.take i, (runN d l x.kind x.start : Int) ≤ mouldOf d x.kind) ∧ Below w5.heap.size w5 wr') (fun iv _ => n - (intOf iv).toNat)
              case atStart => exact ⟨0, Nat.zero_le _, rfl, (fun x h => by simp at h), HBQ.out⟩
              case round =>
                clear HB6 HBQ hwo
                obtain ⟨i, hi, rfl, HOV, hbq⟩ := hrel
                have HBQ := Lib.hid hbq
                have HB6 := Lib.hid (HB5.out.trans (hbq.mono HB5.out.size))
                have HB7 := Lib.hid (HB1.out.trans (HB6.out.mono HB1.out.size))
                clear hbq
                by_cases hlt : i < n
                · obtain ⟨b, off, x, rfl, ⟨_, hbl⟩, hx, hcell⟩ := HLC.out i hlt
                  have d0 : wr.cell? ⟨b, off + i * 3, none⟩ = some (.int .i64 x.press) := (HB7.out.cell (p := ⟨b, _, none⟩) hbl).trans (hcell 0 _ rfl)
                  have d1 : wr.cell? ⟨b, off + i * 3 + 1, none⟩ = some (.int .i64 x.kind) := (HB7.out.cell (p := ⟨b, _, none⟩) hbl).trans (hcell 1 _ rfl)
                  have d2 : wr.cell? ⟨b, off + i * 3 + 2, none⟩ = some (.int .i64 x.start) := (HB7.out.cell (p := ⟨b, _, none⟩) hbl).trans (hcell 2 _ rfl)
                  have HX := Lib.hid hx
                  have hrx : InRange d x := HALL.out _ (mem_of_get? hx)
                  obtain ⟨xp, xk, xs⟩ := x
                  have hk0 : 0 ≤ xk := hrx.k0
                  have hk1 : xk < (d.cure.length : Int) := hrx.k1
                  obtain ⟨kn, rfl⟩ : ∃ kn : Nat, xk = (kn : Int) := ⟨xk.toNat, by omega⟩
                  obtain ⟨b3, f3, m, rfl, ⟨_, hl3⟩, hmx, hcl3⟩ := HCM.out kn (by have := HNM.out; have := HNC.out; have := HG.out.ok.n2; omega)
                  have hmv : mouldOf d kn = m := by unfold mouldOf; rw [Int.toNat_natCast]; exact at_of hmx
                  simp only [] at d0 d1 d2
                  have hcx := cure_in HG.out hrx
                  simp only [] at hcx
                  have HRC := Lib.hid (fun w' (h : Below wr.heap.size wr w') => running_any _ _ d l (kn : Int) xs S T w' (HV.out.below (HB7.out.trans (h.mono HB7.out.size))) (HLV.out.below jobC_0 (HB7.out.trans (h.mono HB7.out.size))) hk0 hk1 (fun y hy _ => by have hy2 := HALL.out y hy; have := hy2.s0; have := hy2.s1; unfold Calm; omega) (by unfold Calm; omega) (by have := HN.out; omega))
                  have hknm : (kn : Int) < (nm : Int) := by have := HNM.out; have := HNC.out; have := HG.out.ok.n2; omega
                  obtain ⟨r, hr⟩ : ∃ r, r = runN d l kn xs := ⟨_, rfl⟩
                  have hr64 : r ≤ 64 := by rw [hr]; have := runN_le d l kn xs; have := HN.out; omega
                  have HOV2 : Hid ((r : Int) ≤ m → ∀ y ∈ l.take (i + 1), (runN d l y.kind y.start : Int) ≤ mouldOf d y.kind) := fun h y hy => by
                    rw [take_snoc? HX.out] at hy
                    rcases List.mem_append.1 hy with hy | hy
                    · exact HOV.out y hy
                    · rw [List.mem_singleton.1 hy]; show (runN d l kn xs : Int) ≤ mouldOf d kn; rw [hmv, ← hr]; exact h
                  have HNO : Hid (m < (r : Int) → ce = 91) := fun h => by
                    rw [HC2.out, if_pos]
                    cases e : overM d l with
                    | true => rfl
                    | false =>
                      have h2 : (runN d l kn xs : Int) ≤ mouldOf d kn := overM_iff.1 e _ (mem_of_get? HX.out)
                      rw [hmv, ← hr] at h2; omega
                  rw [← hr] at HRC
                  obtain ⟨wa, hwa⟩ : ∃ wa, wa = wr.alloc (.cells #[.int .i64 xp, .int .i64 (kn : Int), .int .i64 xs] 79) := ⟨_, rfl⟩
                  have hma := heap_alloc_new wr (.cells #[.int .i64 xp, .int .i64 (kn : Int), .int .i64 xs] 79)
                  have HBA0 : Hid (Below wr.heap.size wr wa) := by rw [hwa]; exact (Below.refl _ _).alloc (Nat.le_refl _) _
                  have HSZA : Hid (wr.heap.size < wa.heap.size) := by show _ < _; rw [hwa]; simp
                  rw [← hwa] at hma
                  have HWA := Lib.hid hwa
                  have HS0 : Hid (∀ w', Below wa.heap.size wa w' → (w'.cell? ⟨w.heap.size, 0, none⟩ = some (.int .i64 d.presses) ∧ w'.cell? ⟨w.heap.size, 1, none⟩ = some (.int .i64 d.change) ∧ w'.cell? ⟨w.heap.size, 2, none⟩ = some (.slice Ac nc cc) ∧ w'.cell? ⟨w.heap.size, 3, none⟩ = some vn ∧ w'.cell? ⟨w.heap.size, 4, none⟩ = some (.slice (some ⟨b3, f3, none⟩) nm cm)) ∧ (w'.cell? ⟨wr.heap.size, 0, none⟩ = some (.int .i64 xp) ∧ w'.cell? ⟨wr.heap.size, 1, none⟩ = some (.int .i64 (kn : Int)) ∧ w'.cell? ⟨wr.heap.size, 2, none⟩ = some (.int .i64 xs)) ∧ w'.cell? ⟨b3, f3 + kn, none⟩ = some (.int .i64 m)) := fun w' h => by
                    have n1 := (h.block _ HSZA.out).trans hma
                    have hb := HBA0.out.trans (h.mono HBA0.out.size)
                    have hb' := HB6.out.trans (hb.mono HB6.out.size)
                    exact ⟨HCELL.out w' hb', ⟨cell_of_row w' _ 0 _ _ _ n1, cell_of_row w' _ 1 _ _ _ n1, cell_of_row w' _ 2 _ _ _ n1⟩, ((HB7.out.trans (hb.mono HB7.out.size)).cell (p := ⟨b3, _, none⟩) hl3).trans hcl3⟩
                  have hli : (i : Int) < (n : Int) := by omega
                  have HBAD : Hid (Below wa.heap.size wa wa.drew) := (Below.refl _ wa).drew
                  have HBWD : Hid (Below wr.heap.size wr wa.drew) := HBA0.out.drew
                  clear hx hcell hrx hmx hcl3 hmv hcx hr hwa hma
                  by_cases hov : m < (r : Int)
                  · have HA := Lib.hid (HNO.out hov)
                    have hovb : decide (m < (r : Int)) = true := decide_eq_true hov
                    go_wp2_with fail
                    rw [← HWA.out]
                    refine seq_start (S := fun w' => (w'.cell? ⟨w.heap.size, 0, none⟩ = some (.int .i64 d.presses) ∧ w'.cell? ⟨w.heap.size, 1, none⟩ = some (.int .i64 d.change) ∧ w'.cell? ⟨w.heap.size, 2, none⟩ = some (.slice Ac nc cc) ∧ w'.cell? ⟨w.heap.size, 3, none⟩ = some vn ∧ w'.cell? ⟨w.heap.size, 4, none⟩ = some (.slice (some ⟨b3, f3, none⟩) nm cm)) ∧ (w'.cell? ⟨wr.heap.size, 0, none⟩ = some (.int .i64 xp) ∧ w'.cell? ⟨wr.heap.size, 1, none⟩ = some (.int .i64 (kn : Int)) ∧ w'.cell? ⟨wr.heap.size, 2, none⟩ = some (.int .i64 xs)) ∧ w'.cell? ⟨b3, f3 + kn, none⟩ = some (.int .i64 m)) (by kernel_rfl) (by kernel_rfl) (by exact HS0.out _ HBAD.out) ?_
                    repeat (first
                      | (refine seq_take0 (v := ?_) ?_ (fun _ _ _ h => h) (by kernel_rfl) ?_ ?_; rotate_left; (focus rfl); (focus (intro w' hSw; (try dsimp only at hSw); go_simp; (try with_reducible rfl); done)); (try simp only [Act.put, List.setIfInBounds_toArray, List.set_cons_zero, List.set_cons_succ]))
                      | (refine seq_takeG (v := ?_) (g := ?_) (d := ?_) (b := ?_) (u := ?_) ?_ ?_ ?_ ?_ (fun _ _ _ h => h) (by kernel_rfl) ?_ ?_; rotate_left 5; (focus rfl); (focus rfl); (focus rfl); (focus (first | rfl | (go_simp; done))); (focus (intro w' hSw; (try dsimp only at hSw); go_simp; (try with_reducible rfl); done)); (try simp only [Act.put, List.setIfInBounds_toArray, List.set_cons_zero, List.set_cons_succ]))
                      | (refine seq_skipG (g := ?_) (d := ?_) (b := ?_) (u := ?_) ?_ ?_ ?_ ?_ (fun _ _ _ h => h) (by kernel_rfl) ?_; rotate_left 4; (focus rfl); (focus rfl); (focus rfl); (focus (first | rfl | (go_simp; done))); (try simp only [Act.put, List.setIfInBounds_toArray, List.set_cons_zero, List.set_cons_succ])))
                    repeat (refine seq_swap ?_; first
                      | (refine seq_take0 (v := ?_) ?_ (fun _ _ _ h => h) (by kernel_rfl) ?_ ?_; rotate_left; (focus rfl); (focus (intro w' hSw; (try dsimp only at hSw); go_simp; (try with_reducible rfl); done)); (try simp only [Act.put, List.setIfInBounds_toArray, List.set_cons_zero, List.set_cons_succ]))
                      | (refine seq_takeG (v := ?_) (g := ?_) (d := ?_) (b := ?_) (u := ?_) ?_ ?_ ?_ ?_ (fun _ _ _ h => h) (by kernel_rfl) ?_ ?_; rotate_left 5; (focus rfl); (focus rfl); (focus rfl); (focus (first | rfl | (go_simp; done))); (focus (intro w' hSw; (try dsimp only at hSw); go_simp; (try with_reducible rfl); done)); (try simp only [Act.put, List.setIfInBounds_toArray, List.set_cons_zero, List.set_cons_succ]))
                      | (refine seq_skipG (g := ?_) (d := ?_) (b := ?_) (u := ?_) ?_ ?_ ?_ ?_ (fun _ _ _ h => h) (by kernel_rfl) ?_; rotate_left 4; (focus rfl); (focus rfl); (focus rfl); (focus (first | rfl | (go_simp; done))); (try simp only [Act.put, List.setIfInBounds_toArray, List.set_cons_zero, List.set_cons_succ])))
                    refine seq_op (by kernel_rfl) (by rfl) (fun K hK => ?_)
                    go_simp
                    refine (HRC.out _ HBWD.out).mono ?_
                    rintro e' w6 ⟨rfl, hb5⟩
                    have HS6 := Lib.hid (HS0.out _ (HBAD.out.trans (hb5.mono HBAD.out.size)))
                    refine hK.out _ _ HS6.out ?_
                    clear hK K HS6
                    repeat (first
                      | (refine seq_take0 (v := ?_) ?_ (fun _ _ _ h => h) (by kernel_rfl) ?_ ?_; rotate_left; (focus rfl); (focus (intro w' hSw; (try dsimp only at hSw); go_simp; (try with_reducible rfl); done)); (try simp only [Act.put, List.setIfInBounds_toArray, List.set_cons_zero, List.set_cons_succ]))
                      | (refine seq_takeG (v := ?_) (g := ?_) (d := ?_) (b := ?_) (u := ?_) ?_ ?_ ?_ ?_ (fun _ _ _ h => h) (by kernel_rfl) ?_ ?_; rotate_left 5; (focus rfl); (focus rfl); (focus rfl); (focus (first | rfl | (go_simp; done))); (focus (intro w' hSw; (try dsimp only at hSw); go_simp; (try with_reducible rfl); done)); (try simp only [Act.put, List.setIfInBounds_toArray, List.set_cons_zero, List.set_cons_succ]))
                      | (refine seq_skipG (g := ?_) (d := ?_) (b := ?_) (u := ?_) ?_ ?_ ?_ ?_ (fun _ _ _ h => h) (by kernel_rfl) ?_; rotate_left 4; (focus rfl); (focus rfl); (focus rfl); (focus (first | rfl | (go_simp; done))); (try simp only [Act.put, List.setIfInBounds_toArray, List.set_cons_zero, List.set_cons_succ])))
                    refine seq_done (by kernel_rfl) ?_
                    go_wp2_with fail
                    go_ret
                    exact ⟨by rw [HA.out]; rfl, HB7.out.trans ((HBWD.out.trans (hb5.mono HBWD.out.size)).mono HB7.out.size)⟩
                  · have HA := Lib.hid (HOV2.out (by omega))
                    have hovb : decide (m < (r : Int)) = false := decide_eq_false hov
                    go_wp2_with fail
                    rw [← HWA.out]
                    refine seq_start (S := fun w' => (w'.cell? ⟨w.heap.size, 0, none⟩ = some (.int .i64 d.presses) ∧ w'.cell? ⟨w.heap.size, 1, none⟩ = some (.int .i64 d.change) ∧ w'.cell? ⟨w.heap.size, 2, none⟩ = some (.slice Ac nc cc) ∧ w'.cell? ⟨w.heap.size, 3, none⟩ = some vn ∧ w'.cell? ⟨w.heap.size, 4, none⟩ = some (.slice (some ⟨b3, f3, none⟩) nm cm)) ∧ (w'.cell? ⟨wr.heap.size, 0, none⟩ = some (.int .i64 xp) ∧ w'.cell? ⟨wr.heap.size, 1, none⟩ = some (.int .i64 (kn : Int)) ∧ w'.cell? ⟨wr.heap.size, 2, none⟩ = some (.int .i64 xs)) ∧ w'.cell? ⟨b3, f3 + kn, none⟩ = some (.int .i64 m)) (by kernel_rfl) (by kernel_rfl) (by exact HS0.out _ HBAD.out) ?_
                    repeat (first
                      | (refine seq_take0 (v := ?_) ?_ (fun _ _ _ h => h) (by kernel_rfl) ?_ ?_; rotate_left; (focus rfl); (focus (intro w' hSw; (try dsimp only at hSw); go_simp; (try with_reducible rfl); done)); (try simp only [Act.put, List.setIfInBounds_toArray, List.set_cons_zero, List.set_cons_succ]))
                      | (refine seq_takeG (v := ?_) (g := ?_) (d := ?_) (b := ?_) (u := ?_) ?_ ?_ ?_ ?_ (fun _ _ _ h => h) (by kernel_rfl) ?_ ?_; rotate_left 5; (focus rfl); (focus rfl); (focus rfl); (focus (first | rfl | (go_simp; done))); (focus (intro w' hSw; (try dsimp only at hSw); go_simp; (try with_reducible rfl); done)); (try simp only [Act.put, List.setIfInBounds_toArray, List.set_cons_zero, List.set_cons_succ]))
                      | (refine seq_skipG (g := ?_) (d := ?_) (b := ?_) (u := ?_) ?_ ?_ ?_ ?_ (fun _ _ _ h => h) (by kernel_rfl) ?_; rotate_left 4; (focus rfl); (focus rfl); (focus rfl); (focus (first | rfl | (go_simp; done))); (try simp only [Act.put, List.setIfInBounds_toArray, List.set_cons_zero, List.set_cons_succ])))
                    repeat (refine seq_swap ?_; first
                      | (refine seq_take0 (v := ?_) ?_ (fun _ _ _ h => h) (by kernel_rfl) ?_ ?_; rotate_left; (focus rfl); (focus (intro w' hSw; (try dsimp only at hSw); go_simp; (try with_reducible rfl); done)); (try simp only [Act.put, List.setIfInBounds_toArray, List.set_cons_zero, List.set_cons_succ]))
                      | (refine seq_takeG (v := ?_) (g := ?_) (d := ?_) (b := ?_) (u := ?_) ?_ ?_ ?_ ?_ (fun _ _ _ h => h) (by kernel_rfl) ?_ ?_; rotate_left 5; (focus rfl); (focus rfl); (focus rfl); (focus (first | rfl | (go_simp; done))); (focus (intro w' hSw; (try dsimp only at hSw); go_simp; (try with_reducible rfl); done)); (try simp only [Act.put, List.setIfInBounds_toArray, List.set_cons_zero, List.set_cons_succ]))
                      | (refine seq_skipG (g := ?_) (d := ?_) (b := ?_) (u := ?_) ?_ ?_ ?_ ?_ (fun _ _ _ h => h) (by kernel_rfl) ?_; rotate_left 4; (focus rfl); (focus rfl); (focus rfl); (focus (first | rfl | (go_simp; done))); (try simp only [Act.put, List.setIfInBounds_toArray, List.set_cons_zero, List.set_cons_succ])))
                    refine seq_op (by kernel_rfl) (by rfl) (fun K hK => ?_)
                    go_simp
                    refine (HRC.out _ HBWD.out).mono ?_
                    rintro e' w6 ⟨rfl, hb5⟩
                    have HS6 := Lib.hid (HS0.out _ (HBAD.out.trans (hb5.mono HBAD.out.size)))
                    refine hK.out _ _ HS6.out ?_
                    clear hK K HS6
                    repeat (first
                      | (refine seq_take0 (v := ?_) ?_ (fun _ _ _ h => h) (by kernel_rfl) ?_ ?_; rotate_left; (focus rfl); (focus (intro w' hSw; (try dsimp only at hSw); go_simp; (try with_reducible rfl); done)); (try simp only [Act.put, List.setIfInBounds_toArray, List.set_cons_zero, List.set_cons_succ]))
                      | (refine seq_takeG (v := ?_) (g := ?_) (d := ?_) (b := ?_) (u := ?_) ?_ ?_ ?_ ?_ (fun _ _ _ h => h) (by kernel_rfl) ?_ ?_; rotate_left 5; (focus rfl); (focus rfl); (focus rfl); (focus (first | rfl | (go_simp; done))); (focus (intro w' hSw; (try dsimp only at hSw); go_simp; (try with_reducible rfl); done)); (try simp only [Act.put, List.setIfInBounds_toArray, List.set_cons_zero, List.set_cons_succ]))
                      | (refine seq_skipG (g := ?_) (d := ?_) (b := ?_) (u := ?_) ?_ ?_ ?_ ?_ (fun _ _ _ h => h) (by kernel_rfl) ?_; rotate_left 4; (focus rfl); (focus rfl); (focus rfl); (focus (first | rfl | (go_simp; done))); (try simp only [Act.put, List.setIfInBounds_toArray, List.set_cons_zero, List.set_cons_succ])))
                    refine seq_done (by kernel_rfl) ?_
                    go_wp2_with fail
                    go_roundw
                    case rel => exact ⟨i + 1, by omega, by go_num, HA.out, HBQ.out.trans ((HBWD.out.trans (hb5.mono HBWD.out.size)).mono HBQ.out.size)⟩
                    case measure => simp [intOf]; omega
                · have hin : i = n := by omega
                  have HC3 : Hid (ce = if cntL d l = d.need then 0 else 5) := by
                    show _ = _
                    rw [HC2.out, if_neg]
                    rw [overM_iff.2 fun x hx => HOV.out x (by rw [hin, ← HN.out, List.take_length]; exact hx)]; decide
                  have hli : ¬ ((i : Int) < (n : Int)) := by omega
                  have HEQ := Lib.hid (equal_any _ _ _ _ _ _ wr (HR5.out.below HBQ.out) (HVN.out.below HB7.out))
                  obtain ⟨x0, x1, x2, x3, x4⟩ := HCELL.out wr HB6.out
                  clear hin hlt HOV HC2
                  by_cases hq : cntL d l = d.need
                  · have HA : Hid (ce = 0) := by show _ = _; rw [HC3.out, if_pos hq]
                    have hqb : eqZ (cntL d l) d.need = true := decide_eq_true hq
                    rw [hqb] at HEQ
                    clear hq hqb
                    go_wp2_with fail
                    refine HEQ.out.mono ?_
                    rintro e' w7 ⟨rfl, hb7⟩
                    go_wp2_with fail
                    go_ret
                    exact ⟨by rw [HA.out]; rfl, HB7.out.trans (hb7.mono HB7.out.size)⟩
                  · have HA : Hid (ce = 5) := by show _ = _; rw [HC3.out, if_neg hq]
                    have hqb : eqZ (cntL d l) d.need = false := decide_eq_false hq
                    rw [hqb] at HEQ
                    clear hq hqb
                    go_wp2_with fail
                    refine HEQ.out.mono ?_
                    rintro e' w7 ⟨rfl, hb7⟩
                    go_wp2_with fail
                    go_ret
                    exact ⟨by rw [HA.out]; rfl, HB7.out.trans (hb7.mono HB7.out.size)⟩
    · have hlen' : (n : Int) > 64 := by omega
      have HA : Hid (ce = 4) := by show _ = _; rw [HCE.out]; unfold chkE; rw [if_neg (by have := HWE.out; omega), if_pos (by have := HN.out; omega)]
      go_enter Tryz.func11, Tryz.ntmps11
      go_wp2_with fail
      rw [← HW1.out]
      refine (HCH.out W1 HB1.out).mono ?_
      rintro e w2 ⟨rfl, hb2⟩
      have HB2' : Hid (Below W1.heap.size W1 w2) := hb2
      clear hb2 x0 x1 x2 x3 x4
      go_wp2_with fail
      go_ret
      exact ⟨by rw [HA.out]; rfl, HB1.out.trans (HB2'.out.mono HB1.out.size)⟩
  · have hz' : (we != 0) = true := by rw [bne_iff_ne]; exact hz
    have HA : Hid (ce = we) := by show _ = _; rw [HCE.out]; unfold chkE; rw [if_pos (by have := HWE.out; omega), HWE.out]
    clear hz
    go_enter Tryz.func11, Tryz.ntmps11
    go_wp2_with fail
    rw [← HW1.out]
    refine (HCH.out W1 HB1.out).mono ?_
    rintro e w2 ⟨rfl, hb2⟩
    have HB2' : Hid (Below W1.heap.size W1 w2) := hb2
    clear hb2 x0 x1 x2 x3 x4
    go_wp2_with fail
    go_ret
    exact ⟨by rw [HA.out]; rfl, HB1.out.trans (HB2'.out.mono HB1.out.size)⟩
end Go.Proofs.YtogccnngdfancaaGreat
