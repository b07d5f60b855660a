/- Walk of the reference's Check. -/
import Derived.Test.YtogccnngdfancaaGreatPart06
import Derived.Test.YtogccnngdfancaaGreatPart24
import Derived.Test.YtogccnngdfancaaGreatPart51
import Derived.Test.YtogccnngdfancaaGreatPart33
import Derived.Deep.DeepCutAuto
import Derived.Deep.CutBlock
namespace Go.Proofs.YtogccnngdfancaaGreat
open Go.RowKit
set_option linter.unusedVariables false
set_option linter.unusedSimpArgs false
/-- Two jobs of one press that run at one time. -/
def ovB (d : WorksD) (x y : JobD) : Bool := decide (x.press = y.press) && (decide (x.start < endJ d y) && decide (y.start < endJ d x))
def ovUp (d : WorksD) (l : List JobD) (i n : Nat) : Bool := (List.range n).any fun k => ovB d (jobAt l i) (jobAt l k)
def ahB (d : WorksD) (l : List JobD) (i : Nat) : Bool := decide (0 ≤ ahdN l i l.length) && (decide ((jobAt l (ahdN l i l.length)).kind ≠ (jobAt l i).kind) && decide ((jobAt l i).start - endJ d (jobAt l (ahdN l i l.length)) < d.change))
def moB (d : WorksD) (l : List JobD) (i : Nat) : Bool := decide (mouldOf d (jobAt l i).kind < (runN d l (jobAt l i).kind (jobAt l i).start : Nat))
def badI (d : WorksD) (l : List JobD) (i : Nat) : Bool := ovUp d l i i || (ahB d l i || moB d l i)
def needOk (d : WorksD) (l : List JobD) (k : Nat) : Bool := decide (((kindN l (k : Nat) : Nat) : Int) = needOf d (k : Nat))
def rchkE (d : WorksD) (l : List JobD) : Int :=
  if wErr d ≠ 0 then wErr d else if 64 < l.length then 4 else if l.all (inRB d) = false then 1 else if (List.range l.length).any (badI d l) = true then 91 else if (List.range d.need.length).all (needOk d l) = true then 0 else 5
theorem ovUp_succ (d : WorksD) (l : List JobD) (i n : Nat) : ovUp d l i (n + 1) = (ovUp d l i n || ovB d (jobAt l i) (jobAt l n)) := by
  unfold ovUp; rw [List.range_succ, List.any_append]; simp
def RCheckPost (d : WorksD) (l : List JobD) (w : World) (e : Ending) (w' : World) : Prop := e = .returned (.int .i64 (rchkE d l)) ∧ Below w.heap.size w w'
set_option maxRecDepth 100000 in
set_option maxHeartbeats 16000000 in
theorem rCheck_any (v vl : Value) (d : WorksD) (l : List JobD) (S T : Nat → Prop) (w : World) (hv : WkV w S v d) (hl : RdK 3 jobC w T vl l) (hll : l.length ≤ 1000) :
    Calls Tryz.prog 12 #[v, vl] w (RCheckPost d l w) := by
  have HCH := Lib.hid (fun w' (h : Below w.heap.size w w') => rRight_any v d S w' (hv.below h))
  have HV := Lib.hid hv
  have HLV := Lib.hid hl
  obtain ⟨vc, vn, vm, rfl, h1, h2, h3⟩ := hv.lt
  obtain ⟨Ac, nc, cc, rfl, hnc, -, hmc, -⟩ := h1.open_
  obtain ⟨An, nn, cn, rfl, hnn, -, hmn, hcn⟩ := h2.open_
  obtain ⟨Am, nm, cm, rfl, hnm, -, hmm, hcm⟩ := h3.open_
  obtain ⟨A, n, cap, rfl, hn, hcap, hmax, hlc⟩ := (hl.lt jobC_0).open_
  obtain ⟨we, hwe⟩ : ∃ we, we = wErr d := ⟨_, rfl⟩
  rw [← hwe] at HCH
  have HWE := Lib.hid hwe
  obtain ⟨ce, hce⟩ : ∃ ce, ce = rchkE d l := ⟨_, rfl⟩
  have HCE := Lib.hid hce
  unfold RCheckPost
  rw [← hce]
  obtain ⟨W1, hW1⟩ : ∃ W1, W1 = w.alloc (.cells #[.int .i64 d.presses, .int .i64 d.change, .slice Ac nc cc, .slice An nn cn, .slice Am nm cm] 40) := ⟨_, rfl⟩
  have hm1 := heap_alloc_new w (.cells #[.int .i64 d.presses, .int .i64 d.change, .slice Ac nc cc, .slice An nn cn, .slice Am nm cm] 40)
  have hb1 : Below w.heap.size w W1 := by rw [hW1]; exact (Below.refl _ w).alloc (Nat.le_refl _) _
  rw [← hW1] at hm1
  have HSZ : Hid (W1.heap.size = w.heap.size + 1) := by show _ = _; rw [hW1]; simp
  have HCELL : Hid (∀ w', Below W1.heap.size W1 w' → w'.cell? ⟨w.heap.size, 0, none⟩ = some (.int .i64 d.presses) ∧ w'.cell? ⟨w.heap.size, 1, none⟩ = some (.int .i64 d.change) ∧ w'.cell? ⟨w.heap.size, 2, none⟩ = some (.slice Ac nc cc) ∧ w'.cell? ⟨w.heap.size, 3, none⟩ = some (.slice An nn cn) ∧ w'.cell? ⟨w.heap.size, 4, none⟩ = some (.slice Am nm cm)) := fun w' hb => by
    have k0 := (hb.block _ (by have := HSZ.out; omega)).trans hm1
    exact ⟨cell_of_row w' _ 0 _ _ _ k0, cell_of_row w' _ 1 _ _ _ k0, cell_of_row w' _ 2 _ _ _ k0, cell_of_row w' _ 3 _ _ _ k0, cell_of_row w' _ 4 _ _ _ k0⟩
  obtain ⟨x0, x1, x2, x3, x4⟩ := HCELL.out W1 (Below.refl _ _)
  have HW1 := Lib.hid hW1
  have HB1 := Lib.hid hb1
  have HCM := Lib.hid hcm
  have HCN := Lib.hid hcn
  have HNC := Lib.hid hnc
  have HNM := Lib.hid hnm
  have HNN := Lib.hid hnn
  have HN := Lib.hid hn
  have HLC := Lib.hid hlc
  rw [hn] at hll
  clear hW1 hm1 hb1 hcm hcn hnc hnm hnn h1 h2 h3 hv hl hn hlc hwe hce
  by_cases hz : we = 0
  · subst hz
    have hg := wgood_of HWE.out.symm
    have HG := Lib.hid hg
    have hnn' : nn = nc := by have := HNN.out; have := HNC.out; have := hg.ok.n1; omega
    have hnm' : nm = nc := by have := HNM.out; have := HNC.out; have := hg.ok.n2; omega
    subst hnn'
    subst hnm'
    have hn8 : nm ≤ 8 := by have := hg.ok.n8; have := HNC.out; omega
    clear hg
    by_cases hlen : n ≤ 64
    · have hlen' : ¬ ((n : Int) > 64) := by omega
      have HARG : Hid (l.all (inRB d) = false → ce = 1) := fun h => by rw [HCE.out]; unfold rchkE; rw [if_neg (by have := HWE.out; omega), if_neg (by have := HN.out; omega), if_pos h]
      go_enter Tryz.func12, Tryz.ntmps12
      go_wp2_with fail
      rw [← HW1.out]
      refine (HCH.out W1 HB1.out).mono ?_
      rintro e w2 ⟨rfl, hb2⟩
      have HB2' : Hid (Below W1.heap.size W1 w2) := hb2
      clear hb2 x0 x1 x2 x3 x4
      go_wp2_with fail
      go_loopw [6] (fun iv wr => ∃ i : Nat, i ≤ n ∧ iv = .int .i64 (i : Int) ∧ Hid (∀ x ∈ l.take i, InRange d x) ∧ Below W1.heap.size W1 wr) (fun iv _ => n - (intOf iv).toNat)
      case atStart => exact ⟨0, Nat.zero_le _, rfl, (fun x h => by simp at h), HB2'.out⟩
      case round =>
        clear HB2'
        obtain ⟨i, hi, rfl, HIN, hbel⟩ := hrel
        have HBEL := Lib.hid hbel
        have HBR := Lib.hid (HB1.out.trans (hbel.mono HB1.out.size))
        clear hbel
        by_cases hlt : i < n
        · obtain ⟨b, off, x, rfl, ⟨_, hbl⟩, hx, hcell⟩ := HLC.out i hlt
          have d0 : wr.cell? ⟨b, off + i * 3, none⟩ = some (.int .i64 x.press) := (HBR.out.cell (p := ⟨b, _, none⟩) hbl).trans (hcell 0 _ rfl)
          have d1 : wr.cell? ⟨b, off + i * 3 + 1, none⟩ = some (.int .i64 x.kind) := (HBR.out.cell (p := ⟨b, _, none⟩) hbl).trans (hcell 1 _ rfl)
          have d2 : wr.cell? ⟨b, off + i * 3 + 2, none⟩ = some (.int .i64 x.start) := (HBR.out.cell (p := ⟨b, _, none⟩) hbl).trans (hcell 2 _ rfl)
          have HX := Lib.hid hx
          have hli : (i : Int) < (n : Int) := by omega
          obtain ⟨xp, xk, xs⟩ := x
          simp only [] at d0 d1 d2
          obtain ⟨wa, hwa⟩ : ∃ wa, wa = wr.alloc (.cells #[.int .i64 xp, .int .i64 xk, .int .i64 xs] 80) := ⟨_, rfl⟩
          have hma := heap_alloc_new wr (.cells #[.int .i64 xp, .int .i64 xk, .int .i64 xs] 80)
          have hba : Below wr.heap.size wr wa := by rw [hwa]; exact (Below.refl _ _).alloc (Nat.le_refl _) _
          rw [← hwa] at hma
          have HWA := Lib.hid hwa
          have HBA := Lib.hid (HBEL.out.trans (hba.mono HBEL.out.size))
          obtain ⟨z0, z1, z2, z3, z4⟩ := HCELL.out wa HBA.out
          rw [hwa] at z0 z1 z2 z3 z4
          have q0 : (wr.alloc (.cells #[.int .i64 xp, .int .i64 xk, .int .i64 xs] 80)).cell? ⟨wr.heap.size, 0, none⟩ = some (.int .i64 xp) := by rw [← hwa]; exact cell_of_row wa _ 0 _ _ _ hma
          have q1 : (wr.alloc (.cells #[.int .i64 xp, .int .i64 xk, .int .i64 xs] 80)).cell? ⟨wr.heap.size, 1, none⟩ = some (.int .i64 xk) := by rw [← hwa]; exact cell_of_row wa _ 1 _ _ _ hma
          have q2 : (wr.alloc (.cells #[.int .i64 xp, .int .i64 xk, .int .i64 xs] 80)).cell? ⟨wr.heap.size, 2, none⟩ = some (.int .i64 xs) := by rw [← hwa]; exact cell_of_row wa _ 2 _ _ _ hma
          clear hx hcell hwa hma hba
          by_cases hok : inRB d ⟨xp, xk, xs⟩ = true
          · have hr := inRB_iff.1 hok
            have r1 : 0 ≤ xp := hr.p0
            have r2 : xp < d.presses := hr.p1
            have r3 : 0 ≤ xk := hr.k0
            have r4 : xk < (nm : Int) := by have := hr.k1; have := HNC.out; show xk < _; simp only [] at *; omega
            have r5 : 0 ≤ xs := hr.s0
            have r6 : xs ≤ 1000000 := hr.s1
            have HR := Lib.hid hr
            clear hr hok
            go_wp2_with fail
            clear z0 z1 z2 z3 z4 q0 q1 q2 d0 d1 d2
            have HBA2 := HBA.out
            rw [HWA.out] at HBA2
            go_roundw
            case rel =>
              refine ⟨i + 1, hlt, by go_num, fun y hy => ?_, HBA2⟩
              rw [take_snoc? HX.out] at hy
              rcases List.mem_append.1 hy with hy | hy
              · exact HIN.out y hy
              · rw [List.mem_singleton.1 hy]; exact HR.out
            case measure => simp [intOf]; omega
          · have HA := Lib.hid (HARG.out (all_take_no HX.out (by simpa using hok)))
            have hnr : ¬ (0 ≤ xp ∧ xp < d.presses ∧ 0 ≤ xk ∧ xk < (nm : Int) ∧ 0 ≤ xs ∧ xs ≤ 1000000) := fun h => hok (inRB_iff.2 ⟨h.1, h.2.1, h.2.2.1, by have := HNC.out; show xk < _; omega, h.2.2.2.2.1, h.2.2.2.2.2⟩)
            have hsix : xp < 0 ∨ (0 ≤ xp ∧ d.presses ≤ xp) ∨ (0 ≤ xp ∧ xp < d.presses ∧ xk < 0) ∨ (0 ≤ xp ∧ xp < d.presses ∧ 0 ≤ xk ∧ (nm : Int) ≤ xk) ∨ (0 ≤ xp ∧ xp < d.presses ∧ 0 ≤ xk ∧ xk < (nm : Int) ∧ xs < 0) ∨ (0 ≤ xp ∧ xp < d.presses ∧ 0 ≤ xk ∧ xk < (nm : Int) ∧ 0 ≤ xs ∧ 1000000 < xs) := by omega
            clear hok hnr
            rcases hsix with s1 | ⟨s1, s2⟩ | ⟨s1, s2, s3⟩ | ⟨s1, s2, s3, s4⟩ | ⟨s1, s2, s3, s4, s5⟩ | ⟨s1, s2, s3, s4, s5, s6⟩
            all_goals
              go_wp2_with fail
              go_ret
              rw [← HWA.out]
              exact ⟨by rw [HA.out]; rfl, HB1.out.trans (HBA.out.mono HB1.out.size)⟩
        · have hli : ¬ (i : Int) < (n : Int) := by omega
          have HALL : Hid (∀ x ∈ l, InRange d x) := by
            have h := HIN.out
            rwa [List.take_of_length_le (by have := HN.out; omega)] at h
          have HRST : Hid (ce = if (List.range l.length).any (badI d l) = true then 91 else if (List.range d.need.length).all (needOk d l) = true then 0 else 5) := by
            show _ = _
            rw [HCE.out]; unfold rchkE
            rw [if_neg (by have := HWE.out; omega), if_neg (by have := HN.out; omega), if_neg]
            intro h
            rw [List.all_eq_true.2 fun j hj => inRB_iff.2 (HALL.out j hj)] at h; cases h
          clear HARG HIN hi hlt
          have HE : Hid (∀ j ∈ l, ∀ w', Below w.heap.size w w' → Calls Tryz.prog 23 #[.agg #[.int .i64 d.presses, .int .i64 d.change, .slice Ac nm cc, .slice An nm cn, .slice Am nm cm], JobV j] w' fun e w'' => e = .returned (.int .i64 (endJ d j)) ∧ Below w'.heap.size w' w'') := fun j hj w' hb => by
            have hr := HALL.out j hj
            have hcu := cure_in HG.out hr
            have := hr.s0; have := hr.s1
            exact rend_any _ d j S w' (HV.out.below hb) hr.k0 hr.k1 ⟨by omega, by omega⟩ ⟨by omega, by omega⟩
          go_wp2_with fail
          clear hli
          go_loopw [8] (fun iv wx => ∃ i : Nat, i ≤ n ∧ iv = .int .i64 (i : Int) ∧ Hid ((List.range i).any (badI d l) = false) ∧ Hid (Below W1.heap.size W1 wx)) (fun iv _ => n - (intOf iv).toNat)
          case atStart => exact ⟨0, Nat.zero_le _, rfl, rfl, HBEL.out⟩
          case round =>
            clear HBEL HBR
            obtain ⟨i, hi, rfl, HBAD, HBEL⟩ := hrel
            have HBR := Lib.hid (HB1.out.trans (HBEL.out.mono HB1.out.size))
            by_cases hlt : i < n
            · obtain ⟨b, off, xi, rfl, ⟨_, hbli⟩, hxi, hcelli⟩ := HLC.out i hlt
              have HJi : Hid (∀ w', Below w.heap.size w w' → w'.cell? ⟨b, off + i * 3, none⟩ = some (.int .i64 xi.press) ∧ w'.cell? ⟨b, off + i * 3 + 1, none⟩ = some (.int .i64 xi.kind) ∧ w'.cell? ⟨b, off + i * 3 + 2, none⟩ = some (.int .i64 xi.start)) := fun w' hb =>
                ⟨(hb.cell (p := ⟨b, _, none⟩) hbli).trans (hcelli 0 _ rfl), (hb.cell (p := ⟨b, _, none⟩) hbli).trans (hcelli 1 _ rfl), (hb.cell (p := ⟨b, _, none⟩) hbli).trans (hcelli 2 _ rfl)⟩
              have HXi := Lib.hid (jobAt_of hxi)
              have HRi := Lib.hid (HALL.out xi (mem_of_get? hxi))
              have HEXi := Lib.hid (HE.out xi (mem_of_get? hxi))
              obtain ⟨ei, hei⟩ : ∃ e, e = endJ d xi := ⟨_, rfl⟩
              rw [← hei] at HEXi
              have HEEi := Lib.hid hei
              obtain ⟨ip, ik, is⟩ := xi
              simp only [JobV] at HJi HEXi
              clear hxi hcelli hei
              have hiI : (i : Int) < (n : Int) := by omega
              have hi0 : (0 : Int) ≤ (i : Int) := by omega
              go_wp2_with fail
              go_loopw [9] (fun kv wx => ∃ k : Nat, k ≤ i ∧ kv = .int .i64 (k : Int) ∧ Hid (ovUp d l i k = false) ∧ Hid (Below W1.heap.size W1 wx)) (fun kv _ => i - (intOf kv).toNat)
              case atStart => exact ⟨0, Nat.zero_le _, rfl, rfl, HBEL.out⟩
              case round =>
                clear HBEL HBR
                obtain ⟨k, hk, rfl, HOV, HBEL⟩ := hrel
                have HBR := Lib.hid (HB1.out.trans (HBEL.out.mono HB1.out.size))
                by_cases hlk : k < i
                · obtain ⟨b_k, off_k, xk, hAk, ⟨_, hblk⟩, hxk, hcellk⟩ := HLC.out k (by omega)
                  obtain ⟨rfl, rfl⟩ : b = b_k ∧ off = off_k := by simpa using hAk
                  have HJk : Hid (∀ w', Below w.heap.size w w' → w'.cell? ⟨b, off + k * 3, none⟩ = some (.int .i64 xk.press) ∧ w'.cell? ⟨b, off + k * 3 + 1, none⟩ = some (.int .i64 xk.kind) ∧ w'.cell? ⟨b, off + k * 3 + 2, none⟩ = some (.int .i64 xk.start)) := fun w' hb =>
                    ⟨(hb.cell (p := ⟨b, _, none⟩) hblk).trans (hcellk 0 _ rfl), (hb.cell (p := ⟨b, _, none⟩) hblk).trans (hcellk 1 _ rfl), (hb.cell (p := ⟨b, _, none⟩) hblk).trans (hcellk 2 _ rfl)⟩
                  have HXk := Lib.hid (jobAt_of hxk)
                  have HRk := Lib.hid (HALL.out xk (mem_of_get? hxk))
                  have HEXk := Lib.hid (HE.out xk (mem_of_get? hxk))
                  obtain ⟨ek, hek⟩ : ∃ e, e = endJ d xk := ⟨_, rfl⟩
                  rw [← hek] at HEXk
                  have HEEk := Lib.hid hek
                  obtain ⟨kp, kk, ks⟩ := xk
                  simp only [JobV] at HJk HEXk
                  clear hxk hcellk hek hAk
                  have hkI : (k : Int) < (n : Int) := by omega
                  have hk0 : (0 : Int) ≤ (k : Int) := by omega
                  have hki : (k : Int) < (i : Int) := by omega
                  have HOB : Hid (ovUp d l i (k + 1) = (ip == kp && (decide (is < ek) && decide (ks < ei)))) := by show _ = _; rw [ovUp_succ, HOV.out, HXi.out, HXk.out]; unfold ovB; rw [← HEEi.out, ← HEEk.out]; simp only [Bool.false_or]; rfl
                  have HS0 : Hid (∀ w', Below W1.heap.size W1 w' → (w'.cell? ⟨b, off + i * 3, none⟩ = some (.int .i64 ip) ∧ w'.cell? ⟨b, off + i * 3 + 1, none⟩ = some (.int .i64 ik) ∧ w'.cell? ⟨b, off + i * 3 + 2, none⟩ = some (.int .i64 is)) ∧ (w'.cell? ⟨b, off + k * 3, none⟩ = some (.int .i64 kp) ∧ w'.cell? ⟨b, off + k * 3 + 1, none⟩ = some (.int .i64 kk) ∧ w'.cell? ⟨b, off + k * 3 + 2, none⟩ = some (.int .i64 ks)) ∧ (w'.cell? ⟨w.heap.size, 0, none⟩ = some (.int .i64 d.presses) ∧ w'.cell? ⟨w.heap.size, 1, none⟩ = some (.int .i64 d.change) ∧ w'.cell? ⟨w.heap.size, 2, none⟩ = some (.slice Ac nm cc) ∧ w'.cell? ⟨w.heap.size, 3, none⟩ = some (.slice An nm cn) ∧ w'.cell? ⟨w.heap.size, 4, none⟩ = some (.slice Am nm cm))) := fun w' hb => ⟨HJi.out w' (HB1.out.trans (hb.mono HB1.out.size)), HJk.out w' (HB1.out.trans (hb.mono HB1.out.size)), HCELL.out w' hb⟩
                  have HRETOV : Hid (ovUp d l i (k + 1) = true → ce = 91) := fun h => by
                    rw [HRST.out, if_pos]
                    rw [List.any_eq_true]
                    refine ⟨i, List.mem_range.2 (by have := HN.out; omega), ?_⟩
                    unfold badI
                    have : ovUp d l i i = true := by
                      unfold ovUp at h ⊢
                      rw [List.any_eq_true] at h ⊢
                      obtain ⟨y, hy, hy2⟩ := h
                      exact ⟨y, List.mem_range.2 (by have := List.mem_range.1 hy; omega), hy2⟩
                    rw [this]; rfl
                  by_cases c1 : ip = kp
                  · have c1b : (ip == kp) = true := by simpa using c1
                    have C1 := Lib.hid c1
                    clear c1
                    by_cases c2 : is < ek
                    · have c2b : decide (is < ek) = true := decide_eq_true c2
                      by_cases c3 : ks < ei
                      · have c3b : decide (ks < ei) = true := decide_eq_true c3
                        have HF : Hid (ce = 91) := HRETOV.out (by rw [HOB.out, c1b, c2b, c3b]; rfl)
                        clear HOB HRETOV
                        go_wp2_with fail
                        have HBD : Hid (Below W1.heap.size W1 wr.drew) := HBEL.out.drew
                        refine seq_start (S := fun w' => (w'.cell? ⟨b, off + i * 3, none⟩ = some (.int .i64 ip) ∧ w'.cell? ⟨b, off + i * 3 + 1, none⟩ = some (.int .i64 ik) ∧ w'.cell? ⟨b, off + i * 3 + 2, none⟩ = some (.int .i64 is)) ∧ (w'.cell? ⟨b, off + k * 3, none⟩ = some (.int .i64 kp) ∧ w'.cell? ⟨b, off + k * 3 + 1, none⟩ = some (.int .i64 kk) ∧ w'.cell? ⟨b, off + k * 3 + 2, none⟩ = some (.int .i64 ks)) ∧ (w'.cell? ⟨w.heap.size, 0, none⟩ = some (.int .i64 d.presses) ∧ w'.cell? ⟨w.heap.size, 1, none⟩ = some (.int .i64 d.change) ∧ w'.cell? ⟨w.heap.size, 2, none⟩ = some (.slice Ac nm cc) ∧ w'.cell? ⟨w.heap.size, 3, none⟩ = some (.slice An nm cn) ∧ w'.cell? ⟨w.heap.size, 4, none⟩ = some (.slice Am nm cm))) (by kernel_rfl) (by kernel_rfl) (by exact HS0.out _ HBD.out) ?_
                        repeat (first
                          | (refine seq_take0 (v := ?_) ?_ (fun _ _ _ h => h) (by kernel_rfl) ?_ ?_; rotate_left; (focus rfl); (focus (intro w' hSw; (try dsimp only at hSw); go_simp; (try with_reducible rfl); done)); (try simp only [Act.put, List.setIfInBounds_toArray, List.set_cons_zero, List.set_cons_succ]))
                          | (refine seq_takeG (v := ?_) (g := ?_) (d := ?_) (b := ?_) (u := ?_) ?_ ?_ ?_ ?_ (fun _ _ _ h => h) (by kernel_rfl) ?_ ?_; rotate_left 5; (focus rfl); (focus rfl); (focus rfl); (focus (first | rfl | (go_simp; done))); (focus (intro w' hSw; (try dsimp only at hSw); go_simp; (try with_reducible rfl); done)); (try simp only [Act.put, List.setIfInBounds_toArray, List.set_cons_zero, List.set_cons_succ]))
                          | (refine seq_skipG (g := ?_) (d := ?_) (b := ?_) (u := ?_) ?_ ?_ ?_ ?_ (fun _ _ _ h => h) (by kernel_rfl) ?_; rotate_left 4; (focus rfl); (focus rfl); (focus rfl); (focus (first | rfl | (go_simp; done))); (try simp only [Act.put, List.setIfInBounds_toArray, List.set_cons_zero, List.set_cons_succ])))
                        refine seq_op (by kernel_rfl) (by rfl) (fun K hK => ?_)
                        go_simp
                        refine (HEXk.out _ (HB1.out.trans (HBD.out.mono HB1.out.size))).mono ?_
                        rintro e' w5 ⟨rfl, hbx⟩
                        have HB_w5 : Hid (Below W1.heap.size W1 w5) := HBD.out.trans (hbx.mono HBD.out.size)
                        clear hbx
                        refine hK.out _ _ (by exact HS0.out _ HB_w5.out) ?_
                        clear hK K
                        repeat (first
                          | (refine seq_take0 (v := ?_) ?_ (fun _ _ _ h => h) (by kernel_rfl) ?_ ?_; rotate_left; (focus rfl); (focus (intro w' hSw; (try dsimp only at hSw); go_simp; (try with_reducible rfl); done)); (try simp only [Act.put, List.setIfInBounds_toArray, List.set_cons_zero, List.set_cons_succ]))
                          | (refine seq_takeG (v := ?_) (g := ?_) (d := ?_) (b := ?_) (u := ?_) ?_ ?_ ?_ ?_ (fun _ _ _ h => h) (by kernel_rfl) ?_ ?_; rotate_left 5; (focus rfl); (focus rfl); (focus rfl); (focus (first | rfl | (go_simp; done))); (focus (intro w' hSw; (try dsimp only at hSw); go_simp; (try with_reducible rfl); done)); (try simp only [Act.put, List.setIfInBounds_toArray, List.set_cons_zero, List.set_cons_succ]))
                          | (refine seq_skipG (g := ?_) (d := ?_) (b := ?_) (u := ?_) ?_ ?_ ?_ ?_ (fun _ _ _ h => h) (by kernel_rfl) ?_; rotate_left 4; (focus rfl); (focus rfl); (focus rfl); (focus (first | rfl | (go_simp; done))); (try simp only [Act.put, List.setIfInBounds_toArray, List.set_cons_zero, List.set_cons_succ])))
                        refine seq_op (by kernel_rfl) (by rfl) (fun K hK => ?_)
                        go_simp
                        refine (HEXi.out _ (HB1.out.trans (HB_w5.out.mono HB1.out.size))).mono ?_
                        rintro e' w6 ⟨rfl, hbx⟩
                        have HB_w6 : Hid (Below W1.heap.size W1 w6) := HB_w5.out.trans (hbx.mono HB_w5.out.size)
                        clear hbx
                        refine hK.out _ _ (by exact HS0.out _ HB_w6.out) ?_
                        clear hK K
                        repeat (first
                          | (refine seq_take0 (v := ?_) ?_ (fun _ _ _ h => h) (by kernel_rfl) ?_ ?_; rotate_left; (focus rfl); (focus (intro w' hSw; (try dsimp only at hSw); go_simp; (try with_reducible rfl); done)); (try simp only [Act.put, List.setIfInBounds_toArray, List.set_cons_zero, List.set_cons_succ]))
                          | (refine seq_takeG (v := ?_) (g := ?_) (d := ?_) (b := ?_) (u := ?_) ?_ ?_ ?_ ?_ (fun _ _ _ h => h) (by kernel_rfl) ?_ ?_; rotate_left 5; (focus rfl); (focus rfl); (focus rfl); (focus (first | rfl | (go_simp; done))); (focus (intro w' hSw; (try dsimp only at hSw); go_simp; (try with_reducible rfl); done)); (try simp only [Act.put, List.setIfInBounds_toArray, List.set_cons_zero, List.set_cons_succ]))
                          | (refine seq_skipG (g := ?_) (d := ?_) (b := ?_) (u := ?_) ?_ ?_ ?_ ?_ (fun _ _ _ h => h) (by kernel_rfl) ?_; rotate_left 4; (focus rfl); (focus rfl); (focus rfl); (focus (first | rfl | (go_simp; done))); (try simp only [Act.put, List.setIfInBounds_toArray, List.set_cons_zero, List.set_cons_succ])))
                        refine seq_done (by kernel_rfl) ?_
                        go_wp2_with fail
                        go_ret
                        exact ⟨by rw [HF.out]; rfl, HB1.out.trans (HB_w6.out.mono HB1.out.size)⟩
                      · have c3b : decide (ks < ei) = false := decide_eq_false c3
                        have HF : Hid (ovUp d l i (k + 1) = false) := by show _ = _; rw [HOB.out, c3b]; simp
                        clear HOB HRETOV
                        go_wp2_with fail
                        have HBD : Hid (Below W1.heap.size W1 wr.drew) := HBEL.out.drew
                        refine seq_start (S := fun w' => (w'.cell? ⟨b, off + i * 3, none⟩ = some (.int .i64 ip) ∧ w'.cell? ⟨b, off + i * 3 + 1, none⟩ = some (.int .i64 ik) ∧ w'.cell? ⟨b, off + i * 3 + 2, none⟩ = some (.int .i64 is)) ∧ (w'.cell? ⟨b, off + k * 3, none⟩ = some (.int .i64 kp) ∧ w'.cell? ⟨b, off + k * 3 + 1, none⟩ = some (.int .i64 kk) ∧ w'.cell? ⟨b, off + k * 3 + 2, none⟩ = some (.int .i64 ks)) ∧ (w'.cell? ⟨w.heap.size, 0, none⟩ = some (.int .i64 d.presses) ∧ w'.cell? ⟨w.heap.size, 1, none⟩ = some (.int .i64 d.change) ∧ w'.cell? ⟨w.heap.size, 2, none⟩ = some (.slice Ac nm cc) ∧ w'.cell? ⟨w.heap.size, 3, none⟩ = some (.slice An nm cn) ∧ w'.cell? ⟨w.heap.size, 4, none⟩ = some (.slice Am nm cm))) (by kernel_rfl) (by kernel_rfl) (by exact HS0.out _ HBD.out) ?_
                        repeat (first
                          | (refine seq_take0 (v := ?_) ?_ (fun _ _ _ h => h) (by kernel_rfl) ?_ ?_; rotate_left; (focus rfl); (focus (intro w' hSw; (try dsimp only at hSw); go_simp; (try with_reducible rfl); done)); (try simp only [Act.put, List.setIfInBounds_toArray, List.set_cons_zero, List.set_cons_succ]))
                          | (refine seq_takeG (v := ?_) (g := ?_) (d := ?_) (b := ?_) (u := ?_) ?_ ?_ ?_ ?_ (fun _ _ _ h => h) (by kernel_rfl) ?_ ?_; rotate_left 5; (focus rfl); (focus rfl); (focus rfl); (focus (first | rfl | (go_simp; done))); (focus (intro w' hSw; (try dsimp only at hSw); go_simp; (try with_reducible rfl); done)); (try simp only [Act.put, List.setIfInBounds_toArray, List.set_cons_zero, List.set_cons_succ]))
                          | (refine seq_skipG (g := ?_) (d := ?_) (b := ?_) (u := ?_) ?_ ?_ ?_ ?_ (fun _ _ _ h => h) (by kernel_rfl) ?_; rotate_left 4; (focus rfl); (focus rfl); (focus rfl); (focus (first | rfl | (go_simp; done))); (try simp only [Act.put, List.setIfInBounds_toArray, List.set_cons_zero, List.set_cons_succ])))
                        refine seq_op (by kernel_rfl) (by rfl) (fun K hK => ?_)
                        go_simp
                        refine (HEXk.out _ (HB1.out.trans (HBD.out.mono HB1.out.size))).mono ?_
                        rintro e' w5 ⟨rfl, hbx⟩
                        have HB_w5 : Hid (Below W1.heap.size W1 w5) := HBD.out.trans (hbx.mono HBD.out.size)
                        clear hbx
                        refine hK.out _ _ (by exact HS0.out _ HB_w5.out) ?_
                        clear hK K
                        repeat (first
                          | (refine seq_take0 (v := ?_) ?_ (fun _ _ _ h => h) (by kernel_rfl) ?_ ?_; rotate_left; (focus rfl); (focus (intro w' hSw; (try dsimp only at hSw); go_simp; (try with_reducible rfl); done)); (try simp only [Act.put, List.setIfInBounds_toArray, List.set_cons_zero, List.set_cons_succ]))
                          | (refine seq_takeG (v := ?_) (g := ?_) (d := ?_) (b := ?_) (u := ?_) ?_ ?_ ?_ ?_ (fun _ _ _ h => h) (by kernel_rfl) ?_ ?_; rotate_left 5; (focus rfl); (focus rfl); (focus rfl); (focus (first | rfl | (go_simp; done))); (focus (intro w' hSw; (try dsimp only at hSw); go_simp; (try with_reducible rfl); done)); (try simp only [Act.put, List.setIfInBounds_toArray, List.set_cons_zero, List.set_cons_succ]))
                          | (refine seq_skipG (g := ?_) (d := ?_) (b := ?_) (u := ?_) ?_ ?_ ?_ ?_ (fun _ _ _ h => h) (by kernel_rfl) ?_; rotate_left 4; (focus rfl); (focus rfl); (focus rfl); (focus (first | rfl | (go_simp; done))); (try simp only [Act.put, List.setIfInBounds_toArray, List.set_cons_zero, List.set_cons_succ])))
                        refine seq_op (by kernel_rfl) (by rfl) (fun K hK => ?_)
                        go_simp
                        refine (HEXi.out _ (HB1.out.trans (HB_w5.out.mono HB1.out.size))).mono ?_
                        rintro e' w6 ⟨rfl, hbx⟩
                        have HB_w6 : Hid (Below W1.heap.size W1 w6) := HB_w5.out.trans (hbx.mono HB_w5.out.size)
                        clear hbx
                        refine hK.out _ _ (by exact HS0.out _ HB_w6.out) ?_
                        clear hK K
                        repeat (first
                          | (refine seq_take0 (v := ?_) ?_ (fun _ _ _ h => h) (by kernel_rfl) ?_ ?_; rotate_left; (focus rfl); (focus (intro w' hSw; (try dsimp only at hSw); go_simp; (try with_reducible rfl); done)); (try simp only [Act.put, List.setIfInBounds_toArray, List.set_cons_zero, List.set_cons_succ]))
                          | (refine seq_takeG (v := ?_) (g := ?_) (d := ?_) (b := ?_) (u := ?_) ?_ ?_ ?_ ?_ (fun _ _ _ h => h) (by kernel_rfl) ?_ ?_; rotate_left 5; (focus rfl); (focus rfl); (focus rfl); (focus (first | rfl | (go_simp; done))); (focus (intro w' hSw; (try dsimp only at hSw); go_simp; (try with_reducible rfl); done)); (try simp only [Act.put, List.setIfInBounds_toArray, List.set_cons_zero, List.set_cons_succ]))
                          | (refine seq_skipG (g := ?_) (d := ?_) (b := ?_) (u := ?_) ?_ ?_ ?_ ?_ (fun _ _ _ h => h) (by kernel_rfl) ?_; rotate_left 4; (focus rfl); (focus rfl); (focus rfl); (focus (first | rfl | (go_simp; done))); (try simp only [Act.put, List.setIfInBounds_toArray, List.set_cons_zero, List.set_cons_succ])))
                        refine seq_done (by kernel_rfl) ?_
                        go_wp2_with fail
                        go_roundw
                        case rel => exact ⟨k + 1, by omega, by go_num, HF.out, HB_w6.out⟩
                        case measure => simp [intOf]; omega
                    · have c2b : decide (is < ek) = false := decide_eq_false c2
                      have HF : Hid (ovUp d l i (k + 1) = false) := by show _ = _; rw [HOB.out, c2b]; simp
                      clear HOB HRETOV
                      go_wp2_with fail
                      have HBD : Hid (Below W1.heap.size W1 wr.drew) := HBEL.out.drew
                      refine seq_start (S := fun w' => (w'.cell? ⟨b, off + i * 3, none⟩ = some (.int .i64 ip) ∧ w'.cell? ⟨b, off + i * 3 + 1, none⟩ = some (.int .i64 ik) ∧ w'.cell? ⟨b, off + i * 3 + 2, none⟩ = some (.int .i64 is)) ∧ (w'.cell? ⟨b, off + k * 3, none⟩ = some (.int .i64 kp) ∧ w'.cell? ⟨b, off + k * 3 + 1, none⟩ = some (.int .i64 kk) ∧ w'.cell? ⟨b, off + k * 3 + 2, none⟩ = some (.int .i64 ks)) ∧ (w'.cell? ⟨w.heap.size, 0, none⟩ = some (.int .i64 d.presses) ∧ w'.cell? ⟨w.heap.size, 1, none⟩ = some (.int .i64 d.change) ∧ w'.cell? ⟨w.heap.size, 2, none⟩ = some (.slice Ac nm cc) ∧ w'.cell? ⟨w.heap.size, 3, none⟩ = some (.slice An nm cn) ∧ w'.cell? ⟨w.heap.size, 4, none⟩ = some (.slice Am nm cm))) (by kernel_rfl) (by kernel_rfl) (by exact HS0.out _ HBD.out) ?_
                      repeat (first
                        | (refine seq_take0 (v := ?_) ?_ (fun _ _ _ h => h) (by kernel_rfl) ?_ ?_; rotate_left; (focus rfl); (focus (intro w' hSw; (try dsimp only at hSw); go_simp; (try with_reducible rfl); done)); (try simp only [Act.put, List.setIfInBounds_toArray, List.set_cons_zero, List.set_cons_succ]))
                        | (refine seq_takeG (v := ?_) (g := ?_) (d := ?_) (b := ?_) (u := ?_) ?_ ?_ ?_ ?_ (fun _ _ _ h => h) (by kernel_rfl) ?_ ?_; rotate_left 5; (focus rfl); (focus rfl); (focus rfl); (focus (first | rfl | (go_simp; done))); (focus (intro w' hSw; (try dsimp only at hSw); go_simp; (try with_reducible rfl); done)); (try simp only [Act.put, List.setIfInBounds_toArray, List.set_cons_zero, List.set_cons_succ]))
                        | (refine seq_skipG (g := ?_) (d := ?_) (b := ?_) (u := ?_) ?_ ?_ ?_ ?_ (fun _ _ _ h => h) (by kernel_rfl) ?_; rotate_left 4; (focus rfl); (focus rfl); (focus rfl); (focus (first | rfl | (go_simp; done))); (try simp only [Act.put, List.setIfInBounds_toArray, List.set_cons_zero, List.set_cons_succ])))
                      refine seq_op (by kernel_rfl) (by rfl) (fun K hK => ?_)
                      go_simp
                      refine (HEXk.out _ (HB1.out.trans (HBD.out.mono HB1.out.size))).mono ?_
                      rintro e' w5 ⟨rfl, hbx⟩
                      have HB_w5 : Hid (Below W1.heap.size W1 w5) := HBD.out.trans (hbx.mono HBD.out.size)
                      clear hbx
                      refine hK.out _ _ (by exact HS0.out _ HB_w5.out) ?_
                      clear hK K
                      repeat (first
                        | (refine seq_take0 (v := ?_) ?_ (fun _ _ _ h => h) (by kernel_rfl) ?_ ?_; rotate_left; (focus rfl); (focus (intro w' hSw; (try dsimp only at hSw); go_simp; (try with_reducible rfl); done)); (try simp only [Act.put, List.setIfInBounds_toArray, List.set_cons_zero, List.set_cons_succ]))
                        | (refine seq_takeG (v := ?_) (g := ?_) (d := ?_) (b := ?_) (u := ?_) ?_ ?_ ?_ ?_ (fun _ _ _ h => h) (by kernel_rfl) ?_ ?_; rotate_left 5; (focus rfl); (focus rfl); (focus rfl); (focus (first | rfl | (go_simp; done))); (focus (intro w' hSw; (try dsimp only at hSw); go_simp; (try with_reducible rfl); done)); (try simp only [Act.put, List.setIfInBounds_toArray, List.set_cons_zero, List.set_cons_succ]))
                        | (refine seq_skipG (g := ?_) (d := ?_) (b := ?_) (u := ?_) ?_ ?_ ?_ ?_ (fun _ _ _ h => h) (by kernel_rfl) ?_; rotate_left 4; (focus rfl); (focus rfl); (focus rfl); (focus (first | rfl | (go_simp; done))); (try simp only [Act.put, List.setIfInBounds_toArray, List.set_cons_zero, List.set_cons_succ])))
                      refine seq_done (by kernel_rfl) ?_
                      go_wp2_with fail
                      go_roundw
                      case rel => exact ⟨k + 1, by omega, by go_num, HF.out, HB_w5.out⟩
                      case measure => simp [intOf]; omega
                  · have c1b : (ip == kp) = false := by simpa using c1
                    have HF : Hid (ovUp d l i (k + 1) = false) := by show _ = _; rw [HOB.out, c1b]; rfl
                    clear HOB HRETOV c1
                    go_wp2_with fail
                    have HBD : Hid (Below W1.heap.size W1 wr.drew) := HBEL.out.drew
                    refine seq_start (S := fun w' => (w'.cell? ⟨b, off + i * 3, none⟩ = some (.int .i64 ip) ∧ w'.cell? ⟨b, off + i * 3 + 1, none⟩ = some (.int .i64 ik) ∧ w'.cell? ⟨b, off + i * 3 + 2, none⟩ = some (.int .i64 is)) ∧ (w'.cell? ⟨b, off + k * 3, none⟩ = some (.int .i64 kp) ∧ w'.cell? ⟨b, off + k * 3 + 1, none⟩ = some (.int .i64 kk) ∧ w'.cell? ⟨b, off + k * 3 + 2, none⟩ = some (.int .i64 ks)) ∧ (w'.cell? ⟨w.heap.size, 0, none⟩ = some (.int .i64 d.presses) ∧ w'.cell? ⟨w.heap.size, 1, none⟩ = some (.int .i64 d.change) ∧ w'.cell? ⟨w.heap.size, 2, none⟩ = some (.slice Ac nm cc) ∧ w'.cell? ⟨w.heap.size, 3, none⟩ = some (.slice An nm cn) ∧ w'.cell? ⟨w.heap.size, 4, none⟩ = some (.slice Am nm cm))) (by kernel_rfl) (by kernel_rfl) (by exact HS0.out _ HBD.out) ?_
                    repeat (first
                      | (refine seq_take0 (v := ?_) ?_ (fun _ _ _ h => h) (by kernel_rfl) ?_ ?_; rotate_left; (focus rfl); (focus (intro w' hSw; (try dsimp only at hSw); go_simp; (try with_reducible rfl); done)); (try simp only [Act.put, List.setIfInBounds_toArray, List.set_cons_zero, List.set_cons_succ]))
                      | (refine seq_takeG (v := ?_) (g := ?_) (d := ?_) (b := ?_) (u := ?_) ?_ ?_ ?_ ?_ (fun _ _ _ h => h) (by kernel_rfl) ?_ ?_; rotate_left 5; (focus rfl); (focus rfl); (focus rfl); (focus (first | rfl | (go_simp; done))); (focus (intro w' hSw; (try dsimp only at hSw); go_simp; (try with_reducible rfl); done)); (try simp only [Act.put, List.setIfInBounds_toArray, List.set_cons_zero, List.set_cons_succ]))
                      | (refine seq_skipG (g := ?_) (d := ?_) (b := ?_) (u := ?_) ?_ ?_ ?_ ?_ (fun _ _ _ h => h) (by kernel_rfl) ?_; rotate_left 4; (focus rfl); (focus rfl); (focus rfl); (focus (first | rfl | (go_simp; done))); (try simp only [Act.put, List.setIfInBounds_toArray, List.set_cons_zero, List.set_cons_succ])))
                    refine seq_done (by kernel_rfl) ?_
                    go_wp2_with fail
                    go_roundw
                    case rel => exact ⟨k + 1, by omega, by go_num, HF.out, HBD.out⟩
                    case measure => simp [intOf]; omega
                · obtain rfl : i = k := by omega
                  have hki : ¬ (i : Int) < (i : Int) := by omega
                  clear hlk hk
                  have HAB := ahdN_bd l i l.length
                  rw [HN.out] at HAB
                  obtain ⟨a, ha⟩ : ∃ a, a = ahdN l i l.length := ⟨_, rfl⟩
                  rw [HN.out] at ha
                  have HAH : Hid (Calls Tryz.prog 31 #[.slice (some ⟨b, off, none⟩) n cap, .int .i64 (i : Int)] wr fun e w' => e = .returned (.int .i64 a) ∧ Below wr.heap.size wr w') := by
                    have := ahead_any _ l i T wr (HLV.out.below jobC_0 HBR.out) (by rw [HN.out]; exact hlt) (by rw [HN.out]; exact hll)
                    rw [HN.out, ← ha] at this
                    exact this
                  rw [← ha] at HAB
                  obtain ⟨hab1, hab2⟩ := HAB
                  have HAHB : Hid (ahB d l i = (decide (0 ≤ a) && (decide ((jobAt l a).kind ≠ ik) && decide (is - endJ d (jobAt l a) < d.change)))) := by show _ = _; unfold ahB; rw [HN.out, ← ha, HXi.out]
                  have HRETA : Hid (ahB d l i = true → ce = 91) := fun h => by
                    rw [HRST.out, if_pos]
                    rw [List.any_eq_true]
                    refine ⟨i, List.mem_range.2 (by rw [HN.out]; exact hlt), ?_⟩
                    unfold badI; rw [h]; simp
                  have HRETM : Hid (moB d l i = true → ce = 91) := fun h => by
                    rw [HRST.out, if_pos]
                    rw [List.any_eq_true]
                    refine ⟨i, List.mem_range.2 (by rw [HN.out]; exact hlt), ?_⟩
                    unfold badI; rw [h]; simp
                  clear ha
                  go_upto_region 21 with (go_at_call 31; refine HAH.out.mono ?_; rintro e w4 ⟨rfl, hbx⟩; have HB4 : Hid (Below W1.heap.size W1 w4) := HBEL.out.trans (hbx.mono HBEL.out.size); clear hbx)
                  clear hki
                  go_cut [149] (fun v wx => v = .bool (ahB d l i) ∧ Hid (Below W1.heap.size W1 wx))
                  case first =>
                    have HBD : Hid (Below W1.heap.size W1 w4.drew) := HB4.out.drew
                    by_cases a0 : 0 ≤ a
                    · obtain ⟨m, rfl⟩ : ∃ m : Nat, a = (m : Int) := ⟨a.toNat, by omega⟩
                      obtain ⟨b_m, off_m, xm, hAm, ⟨_, hblm⟩, hxm, hcellm⟩ := HLC.out m (by omega)
                      obtain ⟨rfl, rfl⟩ : b = b_m ∧ off = off_m := by simpa using hAm
                      have HJm : Hid (∀ w', Below w.heap.size w w' → w'.cell? ⟨b, off + m * 3, none⟩ = some (.int .i64 xm.press) ∧ w'.cell? ⟨b, off + m * 3 + 1, none⟩ = some (.int .i64 xm.kind) ∧ w'.cell? ⟨b, off + m * 3 + 2, none⟩ = some (.int .i64 xm.start)) := fun w' hb =>
                        ⟨(hb.cell (p := ⟨b, _, none⟩) hblm).trans (hcellm 0 _ rfl), (hb.cell (p := ⟨b, _, none⟩) hblm).trans (hcellm 1 _ rfl), (hb.cell (p := ⟨b, _, none⟩) hblm).trans (hcellm 2 _ rfl)⟩
                      have HXm := Lib.hid (jobAt_of hxm)
                      have HRm := Lib.hid (HALL.out xm (mem_of_get? hxm))
                      have HEXm := Lib.hid (HE.out xm (mem_of_get? hxm))
                      obtain ⟨em, hem⟩ : ∃ e, e = endJ d xm := ⟨_, rfl⟩
                      rw [← hem] at HEXm
                      have HEEm := Lib.hid hem
                      obtain ⟨mp, mk, ms⟩ := xm
                      simp only [JobV] at HJm HEXm
                      clear hxm hcellm hem hAm
                      have hmI : (m : Int) < (n : Int) := by omega
                      have hm0 : (0 : Int) ≤ (m : Int) := by omega
                      have a0b : decide ((0 : Int) ≤ (m : Int)) = true := decide_eq_true a0
                      have HAB2 : Hid (ahB d l i = (!(mk == ik) && decide (is - em < d.change))) := by show _ = _; rw [HAHB.out, a0b, HXm.out, ← HEEm.out]; simp only [Bool.true_and]; congr 1; simp only [bne, ne_eq, decide_not]; rfl
                      have HS0 : Hid (∀ w', Below W1.heap.size W1 w' → (w'.cell? ⟨b, off + i * 3, none⟩ = some (.int .i64 ip) ∧ w'.cell? ⟨b, off + i * 3 + 1, none⟩ = some (.int .i64 ik) ∧ w'.cell? ⟨b, off + i * 3 + 2, none⟩ = some (.int .i64 is)) ∧ (w'.cell? ⟨b, off + m * 3, none⟩ = some (.int .i64 mp) ∧ w'.cell? ⟨b, off + m * 3 + 1, none⟩ = some (.int .i64 mk) ∧ w'.cell? ⟨b, off + m * 3 + 2, none⟩ = some (.int .i64 ms)) ∧ (w'.cell? ⟨w.heap.size, 0, none⟩ = some (.int .i64 d.presses) ∧ w'.cell? ⟨w.heap.size, 1, none⟩ = some (.int .i64 d.change) ∧ w'.cell? ⟨w.heap.size, 2, none⟩ = some (.slice Ac nm cc) ∧ w'.cell? ⟨w.heap.size, 3, none⟩ = some (.slice An nm cn) ∧ w'.cell? ⟨w.heap.size, 4, none⟩ = some (.slice Am nm cm))) := fun w' hb => ⟨HJi.out w' (HB1.out.trans (hb.mono HB1.out.size)), HJm.out w' (HB1.out.trans (hb.mono HB1.out.size)), HCELL.out w' hb⟩
                      have hm0b : ¬ ((m : Int) < 0) := by omega
                      by_cases c1 : mk = ik
                      · have c1b : (mk == ik) = true := by simpa using c1
                        have HF : Hid (ahB d l i = false) := by show _ = _; rw [HAB2.out, c1b]; rfl
                        clear c1b
                        obtain rfl : ik = mk := c1.symm
                        refine seq_start (S := fun w' => (w'.cell? ⟨b, off + i * 3, none⟩ = some (.int .i64 ip) ∧ w'.cell? ⟨b, off + i * 3 + 1, none⟩ = some (.int .i64 ik) ∧ w'.cell? ⟨b, off + i * 3 + 2, none⟩ = some (.int .i64 is)) ∧ (w'.cell? ⟨b, off + m * 3, none⟩ = some (.int .i64 mp) ∧ w'.cell? ⟨b, off + m * 3 + 1, none⟩ = some (.int .i64 ik) ∧ w'.cell? ⟨b, off + m * 3 + 2, none⟩ = some (.int .i64 ms)) ∧ (w'.cell? ⟨w.heap.size, 0, none⟩ = some (.int .i64 d.presses) ∧ w'.cell? ⟨w.heap.size, 1, none⟩ = some (.int .i64 d.change) ∧ w'.cell? ⟨w.heap.size, 2, none⟩ = some (.slice Ac nm cc) ∧ w'.cell? ⟨w.heap.size, 3, none⟩ = some (.slice An nm cn) ∧ w'.cell? ⟨w.heap.size, 4, none⟩ = some (.slice Am nm cm))) (by kernel_rfl) (by kernel_rfl) (by exact HS0.out _ HBD.out) ?_
                        repeat (first
                          | (refine seq_take0 (v := ?_) ?_ (fun _ _ _ h => h) (by kernel_rfl) ?_ ?_; rotate_left; (focus rfl); (focus (intro w' hSw; (try dsimp only at hSw); go_simp; (try with_reducible rfl); done)); (try simp only [Act.put, List.setIfInBounds_toArray, List.set_cons_zero, List.set_cons_succ]))
                          | (refine seq_takeG (v := ?_) (g := ?_) (d := ?_) (b := ?_) (u := ?_) ?_ ?_ ?_ ?_ (fun _ _ _ h => h) (by kernel_rfl) ?_ ?_; rotate_left 5; (focus rfl); (focus rfl); (focus rfl); (focus (first | rfl | (go_simp; done))); (focus (intro w' hSw; (try dsimp only at hSw); go_simp; (try with_reducible rfl); done)); (try simp only [Act.put, List.setIfInBounds_toArray, List.set_cons_zero, List.set_cons_succ]))
                          | (refine seq_skipG (g := ?_) (d := ?_) (b := ?_) (u := ?_) ?_ ?_ ?_ ?_ (fun _ _ _ h => h) (by kernel_rfl) ?_; rotate_left 4; (focus rfl); (focus rfl); (focus rfl); (focus (first | rfl | (go_simp; done))); (try simp only [Act.put, List.setIfInBounds_toArray, List.set_cons_zero, List.set_cons_succ])))
                        refine seq_done (by kernel_rfl) ?_
                        go_wp2_with fail
                        go_meet
                        case rel => exact ⟨by rw [HF.out], HBD⟩
                      · have c1b : (mk == ik) = false := by simpa using c1
                        have c1n : (mk != ik) = true := by simp [bne, c1b]
                        have c1o : (!(mk == ik)) = true := by rw [c1b]; rfl
                        have he6 : -1000000 ≤ em ∧ em ≤ 2000000 := by
                          have h1 := cure_in HG.out HRm.out
                          have h2 := HEEm.out
                          unfold endJ at h2
                          have h3 := HRm.out.s0; have h4 := HRm.out.s1
                          simp only [] at h1 h2 h3 h4
                          omega
                        obtain ⟨he61, he62⟩ := he6
                        have hs1 := HRi.out.s0
                        have hs2 := HRi.out.s1
                        simp only [] at hs1 hs2
                        have hwr : IntKind.i64.wrap (is - em) = is - em := IntWalk.i64_in _ (by omega)
                        by_cases c2 : is - em < d.change
                        · have c2b : decide (is - em < d.change) = true := decide_eq_true c2
                          have HF : Hid (ahB d l i = true) := by show _ = _; rw [HAB2.out, c1b, c2b]; rfl
                          refine seq_start (S := fun w' => (w'.cell? ⟨b, off + i * 3, none⟩ = some (.int .i64 ip) ∧ w'.cell? ⟨b, off + i * 3 + 1, none⟩ = some (.int .i64 ik) ∧ w'.cell? ⟨b, off + i * 3 + 2, none⟩ = some (.int .i64 is)) ∧ (w'.cell? ⟨b, off + m * 3, none⟩ = some (.int .i64 mp) ∧ w'.cell? ⟨b, off + m * 3 + 1, none⟩ = some (.int .i64 mk) ∧ w'.cell? ⟨b, off + m * 3 + 2, none⟩ = some (.int .i64 ms)) ∧ (w'.cell? ⟨w.heap.size, 0, none⟩ = some (.int .i64 d.presses) ∧ w'.cell? ⟨w.heap.size, 1, none⟩ = some (.int .i64 d.change) ∧ w'.cell? ⟨w.heap.size, 2, none⟩ = some (.slice Ac nm cc) ∧ w'.cell? ⟨w.heap.size, 3, none⟩ = some (.slice An nm cn) ∧ w'.cell? ⟨w.heap.size, 4, none⟩ = some (.slice Am nm cm))) (by kernel_rfl) (by kernel_rfl) (by exact HS0.out _ HBD.out) ?_
                          repeat (first
                            | (refine seq_take0 (v := ?_) ?_ (fun _ _ _ h => h) (by kernel_rfl) ?_ ?_; rotate_left; (focus rfl); (focus (intro w' hSw; (try dsimp only at hSw); go_simp; (try with_reducible rfl); done)); (try simp only [Act.put, List.setIfInBounds_toArray, List.set_cons_zero, List.set_cons_succ]))
                            | (refine seq_takeG (v := ?_) (g := ?_) (d := ?_) (b := ?_) (u := ?_) ?_ ?_ ?_ ?_ (fun _ _ _ h => h) (by kernel_rfl) ?_ ?_; rotate_left 5; (focus rfl); (focus rfl); (focus rfl); (focus (first | rfl | (go_simp; done))); (focus (intro w' hSw; (try dsimp only at hSw); go_simp; (try with_reducible rfl); done)); (try simp only [Act.put, List.setIfInBounds_toArray, List.set_cons_zero, List.set_cons_succ]))
                            | (refine seq_skipG (g := ?_) (d := ?_) (b := ?_) (u := ?_) ?_ ?_ ?_ ?_ (fun _ _ _ h => h) (by kernel_rfl) ?_; rotate_left 4; (focus rfl); (focus rfl); (focus rfl); (focus (first | rfl | (go_simp; done))); (try simp only [Act.put, List.setIfInBounds_toArray, List.set_cons_zero, List.set_cons_succ])))
                          refine seq_pull 2 ?_
                          simp only [places, pull]
                          (first
                            | (refine seq_take0 (v := ?_) ?_ (fun _ _ _ h => h) (by kernel_rfl) ?_ ?_; rotate_left; (focus rfl); (focus (intro w' hSw; (try dsimp only at hSw); go_simp; (try with_reducible rfl); done)); (try simp only [Act.put, List.setIfInBounds_toArray, List.set_cons_zero, List.set_cons_succ]))
                            | (refine seq_takeG (v := ?_) (g := ?_) (d := ?_) (b := ?_) (u := ?_) ?_ ?_ ?_ ?_ (fun _ _ _ h => h) (by kernel_rfl) ?_ ?_; rotate_left 5; (focus rfl); (focus rfl); (focus rfl); (focus (first | rfl | (go_simp; done))); (focus (intro w' hSw; (try dsimp only at hSw); go_simp; (try with_reducible rfl); done)); (try simp only [Act.put, List.setIfInBounds_toArray, List.set_cons_zero, List.set_cons_succ]))
                            | (refine seq_skipG (g := ?_) (d := ?_) (b := ?_) (u := ?_) ?_ ?_ ?_ ?_ (fun _ _ _ h => h) (by kernel_rfl) ?_; rotate_left 4; (focus rfl); (focus rfl); (focus rfl); (focus (first | rfl | (go_simp; done))); (try simp only [Act.put, List.setIfInBounds_toArray, List.set_cons_zero, List.set_cons_succ])))
                          refine seq_pull 2 ?_
                          simp only [places, pull]
                          (first
                            | (refine seq_take0 (v := ?_) ?_ (fun _ _ _ h => h) (by kernel_rfl) ?_ ?_; rotate_left; (focus rfl); (focus (intro w' hSw; (try dsimp only at hSw); go_simp; (try with_reducible rfl); done)); (try simp only [Act.put, List.setIfInBounds_toArray, List.set_cons_zero, List.set_cons_succ]))
                            | (refine seq_takeG (v := ?_) (g := ?_) (d := ?_) (b := ?_) (u := ?_) ?_ ?_ ?_ ?_ (fun _ _ _ h => h) (by kernel_rfl) ?_ ?_; rotate_left 5; (focus rfl); (focus rfl); (focus rfl); (focus (first | rfl | (go_simp; done))); (focus (intro w' hSw; (try dsimp only at hSw); go_simp; (try with_reducible rfl); done)); (try simp only [Act.put, List.setIfInBounds_toArray, List.set_cons_zero, List.set_cons_succ]))
                            | (refine seq_skipG (g := ?_) (d := ?_) (b := ?_) (u := ?_) ?_ ?_ ?_ ?_ (fun _ _ _ h => h) (by kernel_rfl) ?_; rotate_left 4; (focus rfl); (focus rfl); (focus rfl); (focus (first | rfl | (go_simp; done))); (try simp only [Act.put, List.setIfInBounds_toArray, List.set_cons_zero, List.set_cons_succ])))
                          refine seq_op (by kernel_rfl) (by rfl) (fun K hK => ?_)
                          go_simp
                          refine (HEXm.out _ (HB1.out.trans (HBD.out.mono HB1.out.size))).mono ?_
                          rintro e' w5 ⟨rfl, hbx⟩
                          have HB_w5 : Hid (Below W1.heap.size W1 w5) := HBD.out.trans (hbx.mono HBD.out.size)
                          clear hbx
                          refine hK.out _ _ (by exact HS0.out _ HB_w5.out) ?_
                          clear hK K
                          repeat (first
                            | (refine seq_take0 (v := ?_) ?_ (fun _ _ _ h => h) (by kernel_rfl) ?_ ?_; rotate_left; (focus rfl); (focus (intro w' hSw; (try dsimp only at hSw); go_simp; (try with_reducible rfl); done)); (try simp only [Act.put, List.setIfInBounds_toArray, List.set_cons_zero, List.set_cons_succ]))
                            | (refine seq_takeG (v := ?_) (g := ?_) (d := ?_) (b := ?_) (u := ?_) ?_ ?_ ?_ ?_ (fun _ _ _ h => h) (by kernel_rfl) ?_ ?_; rotate_left 5; (focus rfl); (focus rfl); (focus rfl); (focus (first | rfl | (go_simp; done))); (focus (intro w' hSw; (try dsimp only at hSw); go_simp; (try with_reducible rfl); done)); (try simp only [Act.put, List.setIfInBounds_toArray, List.set_cons_zero, List.set_cons_succ]))
                            | (refine seq_skipG (g := ?_) (d := ?_) (b := ?_) (u := ?_) ?_ ?_ ?_ ?_ (fun _ _ _ h => h) (by kernel_rfl) ?_; rotate_left 4; (focus rfl); (focus rfl); (focus rfl); (focus (first | rfl | (go_simp; done))); (try simp only [Act.put, List.setIfInBounds_toArray, List.set_cons_zero, List.set_cons_succ])))
                          refine seq_done (by kernel_rfl) ?_
                          go_wp2_with fail
                          go_meet
                          case rel => exact ⟨by rw [HF.out], HB_w5⟩
                        · have c2b : decide (is - em < d.change) = false := decide_eq_false c2
                          have HF : Hid (ahB d l i = false) := by show _ = _; rw [HAB2.out, c2b]; simp
                          refine seq_start (S := fun w' => (w'.cell? ⟨b, off + i * 3, none⟩ = some (.int .i64 ip) ∧ w'.cell? ⟨b, off + i * 3 + 1, none⟩ = some (.int .i64 ik) ∧ w'.cell? ⟨b, off + i * 3 + 2, none⟩ = some (.int .i64 is)) ∧ (w'.cell? ⟨b, off + m * 3, none⟩ = some (.int .i64 mp) ∧ w'.cell? ⟨b, off + m * 3 + 1, none⟩ = some (.int .i64 mk) ∧ w'.cell? ⟨b, off + m * 3 + 2, none⟩ = some (.int .i64 ms)) ∧ (w'.cell? ⟨w.heap.size, 0, none⟩ = some (.int .i64 d.presses) ∧ w'.cell? ⟨w.heap.size, 1, none⟩ = some (.int .i64 d.change) ∧ w'.cell? ⟨w.heap.size, 2, none⟩ = some (.slice Ac nm cc) ∧ w'.cell? ⟨w.heap.size, 3, none⟩ = some (.slice An nm cn) ∧ w'.cell? ⟨w.heap.size, 4, none⟩ = some (.slice Am nm cm))) (by kernel_rfl) (by kernel_rfl) (by exact HS0.out _ HBD.out) ?_
                          repeat (first
                            | (refine seq_take0 (v := ?_) ?_ (fun _ _ _ h => h) (by kernel_rfl) ?_ ?_; rotate_left; (focus rfl); (focus (intro w' hSw; (try dsimp only at hSw); go_simp; (try with_reducible rfl); done)); (try simp only [Act.put, List.setIfInBounds_toArray, List.set_cons_zero, List.set_cons_succ]))
                            | (refine seq_takeG (v := ?_) (g := ?_) (d := ?_) (b := ?_) (u := ?_) ?_ ?_ ?_ ?_ (fun _ _ _ h => h) (by kernel_rfl) ?_ ?_; rotate_left 5; (focus rfl); (focus rfl); (focus rfl); (focus (first | rfl | (go_simp; done))); (focus (intro w' hSw; (try dsimp only at hSw); go_simp; (try with_reducible rfl); done)); (try simp only [Act.put, List.setIfInBounds_toArray, List.set_cons_zero, List.set_cons_succ]))
                            | (refine seq_skipG (g := ?_) (d := ?_) (b := ?_) (u := ?_) ?_ ?_ ?_ ?_ (fun _ _ _ h => h) (by kernel_rfl) ?_; rotate_left 4; (focus rfl); (focus rfl); (focus rfl); (focus (first | rfl | (go_simp; done))); (try simp only [Act.put, List.setIfInBounds_toArray, List.set_cons_zero, List.set_cons_succ])))
                          refine seq_pull 2 ?_
                          simp only [places, pull]
                          (first
                            | (refine seq_take0 (v := ?_) ?_ (fun _ _ _ h => h) (by kernel_rfl) ?_ ?_; rotate_left; (focus rfl); (focus (intro w' hSw; (try dsimp only at hSw); go_simp; (try with_reducible rfl); done)); (try simp only [Act.put, List.setIfInBounds_toArray, List.set_cons_zero, List.set_cons_succ]))
                            | (refine seq_takeG (v := ?_) (g := ?_) (d := ?_) (b := ?_) (u := ?_) ?_ ?_ ?_ ?_ (fun _ _ _ h => h) (by kernel_rfl) ?_ ?_; rotate_left 5; (focus rfl); (focus rfl); (focus rfl); (focus (first | rfl | (go_simp; done))); (focus (intro w' hSw; (try dsimp only at hSw); go_simp; (try with_reducible rfl); done)); (try simp only [Act.put, List.setIfInBounds_toArray, List.set_cons_zero, List.set_cons_succ]))
                            | (refine seq_skipG (g := ?_) (d := ?_) (b := ?_) (u := ?_) ?_ ?_ ?_ ?_ (fun _ _ _ h => h) (by kernel_rfl) ?_; rotate_left 4; (focus rfl); (focus rfl); (focus rfl); (focus (first | rfl | (go_simp; done))); (try simp only [Act.put, List.setIfInBounds_toArray, List.set_cons_zero, List.set_cons_succ])))
                          refine seq_pull 2 ?_
                          simp only [places, pull]
                          (first
                            | (refine seq_take0 (v := ?_) ?_ (fun _ _ _ h => h) (by kernel_rfl) ?_ ?_; rotate_left; (focus rfl); (focus (intro w' hSw; (try dsimp only at hSw); go_simp; (try with_reducible rfl); done)); (try simp only [Act.put, List.setIfInBounds_toArray, List.set_cons_zero, List.set_cons_succ]))
                            | (refine seq_takeG (v := ?_) (g := ?_) (d := ?_) (b := ?_) (u := ?_) ?_ ?_ ?_ ?_ (fun _ _ _ h => h) (by kernel_rfl) ?_ ?_; rotate_left 5; (focus rfl); (focus rfl); (focus rfl); (focus (first | rfl | (go_simp; done))); (focus (intro w' hSw; (try dsimp only at hSw); go_simp; (try with_reducible rfl); done)); (try simp only [Act.put, List.setIfInBounds_toArray, List.set_cons_zero, List.set_cons_succ]))
                            | (refine seq_skipG (g := ?_) (d := ?_) (b := ?_) (u := ?_) ?_ ?_ ?_ ?_ (fun _ _ _ h => h) (by kernel_rfl) ?_; rotate_left 4; (focus rfl); (focus rfl); (focus rfl); (focus (first | rfl | (go_simp; done))); (try simp only [Act.put, List.setIfInBounds_toArray, List.set_cons_zero, List.set_cons_succ])))
                          refine seq_op (by kernel_rfl) (by rfl) (fun K hK => ?_)
                          go_simp
                          refine (HEXm.out _ (HB1.out.trans (HBD.out.mono HB1.out.size))).mono ?_
                          rintro e' w5 ⟨rfl, hbx⟩
                          have HB_w5 : Hid (Below W1.heap.size W1 w5) := HBD.out.trans (hbx.mono HBD.out.size)
                          clear hbx
                          refine hK.out _ _ (by exact HS0.out _ HB_w5.out) ?_
                          clear hK K
                          repeat (first
                            | (refine seq_take0 (v := ?_) ?_ (fun _ _ _ h => h) (by kernel_rfl) ?_ ?_; rotate_left; (focus rfl); (focus (intro w' hSw; (try dsimp only at hSw); go_simp; (try with_reducible rfl); done)); (try simp only [Act.put, List.setIfInBounds_toArray, List.set_cons_zero, List.set_cons_succ]))
                            | (refine seq_takeG (v := ?_) (g := ?_) (d := ?_) (b := ?_) (u := ?_) ?_ ?_ ?_ ?_ (fun _ _ _ h => h) (by kernel_rfl) ?_ ?_; rotate_left 5; (focus rfl); (focus rfl); (focus rfl); (focus (first | rfl | (go_simp; done))); (focus (intro w' hSw; (try dsimp only at hSw); go_simp; (try with_reducible rfl); done)); (try simp only [Act.put, List.setIfInBounds_toArray, List.set_cons_zero, List.set_cons_succ]))
                            | (refine seq_skipG (g := ?_) (d := ?_) (b := ?_) (u := ?_) ?_ ?_ ?_ ?_ (fun _ _ _ h => h) (by kernel_rfl) ?_; rotate_left 4; (focus rfl); (focus rfl); (focus rfl); (focus (first | rfl | (go_simp; done))); (try simp only [Act.put, List.setIfInBounds_toArray, List.set_cons_zero, List.set_cons_succ])))
                          refine seq_done (by kernel_rfl) ?_
                          go_wp2_with fail
                          go_meet
                          case rel => exact ⟨by rw [HF.out], HB_w5⟩
                    · have a0b : decide ((0 : Int) ≤ a) = false := decide_eq_false a0
                      have HF : Hid (ahB d l i = false) := by show _ = _; rw [HAHB.out, a0b]; rfl
                      have HS0 : Hid (∀ w', Below W1.heap.size W1 w' → (w'.cell? ⟨b, off + i * 3, none⟩ = some (.int .i64 ip) ∧ w'.cell? ⟨b, off + i * 3 + 1, none⟩ = some (.int .i64 ik) ∧ w'.cell? ⟨b, off + i * 3 + 2, none⟩ = some (.int .i64 is)) ∧ (w'.cell? ⟨w.heap.size, 0, none⟩ = some (.int .i64 d.presses) ∧ w'.cell? ⟨w.heap.size, 1, none⟩ = some (.int .i64 d.change) ∧ w'.cell? ⟨w.heap.size, 2, none⟩ = some (.slice Ac nm cc) ∧ w'.cell? ⟨w.heap.size, 3, none⟩ = some (.slice An nm cn) ∧ w'.cell? ⟨w.heap.size, 4, none⟩ = some (.slice Am nm cm))) := fun w' hb => ⟨HJi.out w' (HB1.out.trans (hb.mono HB1.out.size)), HCELL.out w' hb⟩
                      refine seq_start (S := fun w' => (w'.cell? ⟨b, off + i * 3, none⟩ = some (.int .i64 ip) ∧ w'.cell? ⟨b, off + i * 3 + 1, none⟩ = some (.int .i64 ik) ∧ w'.cell? ⟨b, off + i * 3 + 2, none⟩ = some (.int .i64 is)) ∧ (w'.cell? ⟨w.heap.size, 0, none⟩ = some (.int .i64 d.presses) ∧ w'.cell? ⟨w.heap.size, 1, none⟩ = some (.int .i64 d.change) ∧ w'.cell? ⟨w.heap.size, 2, none⟩ = some (.slice Ac nm cc) ∧ w'.cell? ⟨w.heap.size, 3, none⟩ = some (.slice An nm cn) ∧ w'.cell? ⟨w.heap.size, 4, none⟩ = some (.slice Am nm cm))) (by kernel_rfl) (by kernel_rfl) (by exact HS0.out _ HBD.out) ?_
                      repeat (first
                        | (refine seq_take0 (v := ?_) ?_ (fun _ _ _ h => h) (by kernel_rfl) ?_ ?_; rotate_left; (focus rfl); (focus (intro w' hSw; (try dsimp only at hSw); go_simp; (try with_reducible rfl); done)); (try simp only [Act.put, List.setIfInBounds_toArray, List.set_cons_zero, List.set_cons_succ]))
                        | (refine seq_takeG (v := ?_) (g := ?_) (d := ?_) (b := ?_) (u := ?_) ?_ ?_ ?_ ?_ (fun _ _ _ h => h) (by kernel_rfl) ?_ ?_; rotate_left 5; (focus rfl); (focus rfl); (focus rfl); (focus (first | rfl | (go_simp; done))); (focus (intro w' hSw; (try dsimp only at hSw); go_simp; (try with_reducible rfl); done)); (try simp only [Act.put, List.setIfInBounds_toArray, List.set_cons_zero, List.set_cons_succ]))
                        | (refine seq_skipG (g := ?_) (d := ?_) (b := ?_) (u := ?_) ?_ ?_ ?_ ?_ (fun _ _ _ h => h) (by kernel_rfl) ?_; rotate_left 4; (focus rfl); (focus rfl); (focus rfl); (focus (first | rfl | (go_simp; done))); (try simp only [Act.put, List.setIfInBounds_toArray, List.set_cons_zero, List.set_cons_succ])))
                      refine seq_done (by kernel_rfl) ?_
                      go_wp2_with fail
                      go_meet
                      case rel => exact ⟨by rw [HF.out], HBD⟩
                  case rest =>
                    obtain ⟨rfl, HB6⟩ := hcut
                    clear HAH HAHB hab1 hab2
                    obtain ⟨ab, hab⟩ : ∃ x, x = ahB d l i := ⟨_, rfl⟩
                    rw [← hab]
                    have HABE := Lib.hid hab
                    clear hab
                    cases ab
                    rotate_left
                    · have HF : Hid (ce = 91) := HRETA.out HABE.out.symm
                      go_wp2_with fail
                      go_ret
                      exact ⟨by rw [HF.out]; rfl, HB1.out.trans (HB6.out.mono HB1.out.size)⟩
                    have HAF : Hid (ahB d l i = false) := HABE.out.symm
                    clear HRETA HABE
                    have hr := HRi.out
                    have g0 := hr.k0
                    have g1 := hr.k1
                    simp only [] at g0 g1
                    obtain ⟨kn, rfl⟩ : ∃ kn : Nat, ik = (kn : Int) := ⟨ik.toNat, by omega⟩
                    obtain ⟨b3, f3, mo, hA3, ⟨_, hl3⟩, hm3, hcl3⟩ := HCM.out kn (by have := HNC.out; omega)
                    cases hA3
                    have hmv : mouldOf d kn = mo := by unfold mouldOf; rw [Int.toNat_natCast, at_of hm3]
                    have HM3 : Hid (∀ w', Below w.heap.size w w' → w'.cell? ⟨b3, f3 + kn, none⟩ = some (.int .i64 mo)) := fun w' hb => (hb.cell (p := ⟨b3, _, none⟩) hl3).trans hcl3
                    obtain ⟨rn, hrn⟩ : ∃ r, r = runN d l kn is := ⟨_, rfl⟩
                    have HRUN : Hid (∀ w', Below w.heap.size w w' → Calls Tryz.prog 32 #[.agg #[.int .i64 d.presses, .int .i64 d.change, .slice Ac nm cc, .slice An nm cn, .slice (some ⟨b3, f3, none⟩) nm cm], .slice (some ⟨b, off, none⟩) n cap, .int .i64 (kn : Int), .int .i64 is] w' fun e w'' => e = .returned (.int .i64 (rn : Nat)) ∧ Below w'.heap.size w' w'') := fun w' hb => by
                      have hcu := cure_in HG.out HRi.out
                      rw [hrn]
                      exact rrunning_any _ _ d l kn is S T w' (HV.out.below hb) (HLV.out.below jobC_0 hb) g0 g1 (fun j hj _ => by have := HALL.out j hj; have h1 := this.s0; have h2 := this.s1; exact ⟨by omega, by omega⟩) ⟨by simp only [] at hcu; omega, by simp only [] at hcu; omega⟩ (by rw [HN.out]; exact hll)
                    have HMB : Hid (moB d l i = decide (mo < (rn : Int))) := by show _ = _; unfold moB; rw [HXi.out]; simp only []; rw [hmv, hrn]
                    have HBI : Hid ((List.range (i + 1)).any (badI d l) = moB d l i) := by show _ = _; rw [List.range_succ, List.any_append, HBAD.out, Bool.false_or]; unfold badI; simp only [List.any_cons, List.any_nil, Bool.or_false]; rw [HOV.out, HAF.out]; rfl
                    have hknI : (kn : Int) < (nm : Int) := by have := HNC.out; omega
                    clear hr hm3 hmv hcl3 hrn g1
                    go_wp2_with fail
                    have HBD : Hid (Below W1.heap.size W1 wc.drew) := HB6.out.drew
                    have HS0 : Hid (∀ w', Below W1.heap.size W1 w' → (w'.cell? ⟨b, off + i * 3, none⟩ = some (.int .i64 ip) ∧ w'.cell? ⟨b, off + i * 3 + 1, none⟩ = some (.int .i64 (kn : Int)) ∧ w'.cell? ⟨b, off + i * 3 + 2, none⟩ = some (.int .i64 is)) ∧ (w'.cell? ⟨w.heap.size, 0, none⟩ = some (.int .i64 d.presses) ∧ w'.cell? ⟨w.heap.size, 1, none⟩ = some (.int .i64 d.change) ∧ w'.cell? ⟨w.heap.size, 2, none⟩ = some (.slice Ac nm cc) ∧ w'.cell? ⟨w.heap.size, 3, none⟩ = some (.slice An nm cn) ∧ w'.cell? ⟨w.heap.size, 4, none⟩ = some (.slice (some ⟨b3, f3, none⟩) nm cm)) ∧ w'.cell? ⟨b3, f3 + kn, none⟩ = some (.int .i64 mo)) := fun w' hb => ⟨HJi.out w' (HB1.out.trans (hb.mono HB1.out.size)), HCELL.out w' hb, HM3.out w' (HB1.out.trans (hb.mono HB1.out.size))⟩
                    by_cases c1 : mo < (rn : Int)
                    · have c1b : decide (mo < (rn : Int)) = true := decide_eq_true c1
                      have HF : Hid (ce = 91) := HRETM.out (by rw [HMB.out, c1b])
                      refine seq_start (S := fun w' => (w'.cell? ⟨b, off + i * 3, none⟩ = some (.int .i64 ip) ∧ w'.cell? ⟨b, off + i * 3 + 1, none⟩ = some (.int .i64 (kn : Int)) ∧ w'.cell? ⟨b, off + i * 3 + 2, none⟩ = some (.int .i64 is)) ∧ (w'.cell? ⟨w.heap.size, 0, none⟩ = some (.int .i64 d.presses) ∧ w'.cell? ⟨w.heap.size, 1, none⟩ = some (.int .i64 d.change) ∧ w'.cell? ⟨w.heap.size, 2, none⟩ = some (.slice Ac nm cc) ∧ w'.cell? ⟨w.heap.size, 3, none⟩ = some (.slice An nm cn) ∧ w'.cell? ⟨w.heap.size, 4, none⟩ = some (.slice (some ⟨b3, f3, none⟩) nm cm)) ∧ w'.cell? ⟨b3, f3 + kn, none⟩ = some (.int .i64 mo)) (by kernel_rfl) (by kernel_rfl) (by exact HS0.out _ HBD.out) ?_
                      repeat (first
                        | (refine seq_take0 (v := ?_) ?_ (fun _ _ _ h => h) (by kernel_rfl) ?_ ?_; rotate_left; (focus rfl); (focus (intro w' hSw; (try dsimp only at hSw); go_simp; (try with_reducible rfl); done)); (try simp only [Act.put, List.setIfInBounds_toArray, List.set_cons_zero, List.set_cons_succ]))
                        | (refine seq_takeG (v := ?_) (g := ?_) (d := ?_) (b := ?_) (u := ?_) ?_ ?_ ?_ ?_ (fun _ _ _ h => h) (by kernel_rfl) ?_ ?_; rotate_left 5; (focus rfl); (focus rfl); (focus rfl); (focus (first | rfl | (go_simp; done))); (focus (intro w' hSw; (try dsimp only at hSw); go_simp; (try with_reducible rfl); done)); (try simp only [Act.put, List.setIfInBounds_toArray, List.set_cons_zero, List.set_cons_succ]))
                        | (refine seq_skipG (g := ?_) (d := ?_) (b := ?_) (u := ?_) ?_ ?_ ?_ ?_ (fun _ _ _ h => h) (by kernel_rfl) ?_; rotate_left 4; (focus rfl); (focus rfl); (focus rfl); (focus (first | rfl | (go_simp; done))); (try simp only [Act.put, List.setIfInBounds_toArray, List.set_cons_zero, List.set_cons_succ])))
                      repeat (refine seq_swap ?_; first
                        | (refine seq_take0 (v := ?_) ?_ (fun _ _ _ h => h) (by kernel_rfl) ?_ ?_; rotate_left; (focus rfl); (focus (intro w' hSw; (try dsimp only at hSw); go_simp; (try with_reducible rfl); done)); (try simp only [Act.put, List.setIfInBounds_toArray, List.set_cons_zero, List.set_cons_succ]))
                        | (refine seq_takeG (v := ?_) (g := ?_) (d := ?_) (b := ?_) (u := ?_) ?_ ?_ ?_ ?_ (fun _ _ _ h => h) (by kernel_rfl) ?_ ?_; rotate_left 5; (focus rfl); (focus rfl); (focus rfl); (focus (first | rfl | (go_simp; done))); (focus (intro w' hSw; (try dsimp only at hSw); go_simp; (try with_reducible rfl); done)); (try simp only [Act.put, List.setIfInBounds_toArray, List.set_cons_zero, List.set_cons_succ]))
                        | (refine seq_skipG (g := ?_) (d := ?_) (b := ?_) (u := ?_) ?_ ?_ ?_ ?_ (fun _ _ _ h => h) (by kernel_rfl) ?_; rotate_left 4; (focus rfl); (focus rfl); (focus rfl); (focus (first | rfl | (go_simp; done))); (try simp only [Act.put, List.setIfInBounds_toArray, List.set_cons_zero, List.set_cons_succ])))
                      refine seq_op (by kernel_rfl) (by rfl) (fun K hK => ?_)
                      go_simp
                      refine (HRUN.out _ (HB1.out.trans (HBD.out.mono HB1.out.size))).mono ?_
                      rintro e' w7 ⟨rfl, hbx⟩
                      have HB_w7 : Hid (Below W1.heap.size W1 w7) := HBD.out.trans (hbx.mono HBD.out.size)
                      clear hbx
                      refine hK.out _ _ (by exact HS0.out _ HB_w7.out) ?_
                      clear hK K
                      repeat (first
                        | (refine seq_take0 (v := ?_) ?_ (fun _ _ _ h => h) (by kernel_rfl) ?_ ?_; rotate_left; (focus rfl); (focus (intro w' hSw; (try dsimp only at hSw); go_simp; (try with_reducible rfl); done)); (try simp only [Act.put, List.setIfInBounds_toArray, List.set_cons_zero, List.set_cons_succ]))
                        | (refine seq_takeG (v := ?_) (g := ?_) (d := ?_) (b := ?_) (u := ?_) ?_ ?_ ?_ ?_ (fun _ _ _ h => h) (by kernel_rfl) ?_ ?_; rotate_left 5; (focus rfl); (focus rfl); (focus rfl); (focus (first | rfl | (go_simp; done))); (focus (intro w' hSw; (try dsimp only at hSw); go_simp; (try with_reducible rfl); done)); (try simp only [Act.put, List.setIfInBounds_toArray, List.set_cons_zero, List.set_cons_succ]))
                        | (refine seq_skipG (g := ?_) (d := ?_) (b := ?_) (u := ?_) ?_ ?_ ?_ ?_ (fun _ _ _ h => h) (by kernel_rfl) ?_; rotate_left 4; (focus rfl); (focus rfl); (focus rfl); (focus (first | rfl | (go_simp; done))); (try simp only [Act.put, List.setIfInBounds_toArray, List.set_cons_zero, List.set_cons_succ])))
                      refine seq_done (by kernel_rfl) ?_
                      go_wp2_with fail
                      go_ret
                      exact ⟨by rw [HF.out]; rfl, HB1.out.trans (HB_w7.out.mono HB1.out.size)⟩
                    · have c1b : decide (mo < (rn : Int)) = false := decide_eq_false c1
                      have HF : Hid ((List.range (i + 1)).any (badI d l) = false) := by show _ = _; rw [HBI.out, HMB.out, c1b]
                      refine seq_start (S := fun w' => (w'.cell? ⟨b, off + i * 3, none⟩ = some (.int .i64 ip) ∧ w'.cell? ⟨b, off + i * 3 + 1, none⟩ = some (.int .i64 (kn : Int)) ∧ w'.cell? ⟨b, off + i * 3 + 2, none⟩ = some (.int .i64 is)) ∧ (w'.cell? ⟨w.heap.size, 0, none⟩ = some (.int .i64 d.presses) ∧ w'.cell? ⟨w.heap.size, 1, none⟩ = some (.int .i64 d.change) ∧ w'.cell? ⟨w.heap.size, 2, none⟩ = some (.slice Ac nm cc) ∧ w'.cell? ⟨w.heap.size, 3, none⟩ = some (.slice An nm cn) ∧ w'.cell? ⟨w.heap.size, 4, none⟩ = some (.slice (some ⟨b3, f3, none⟩) nm cm)) ∧ w'.cell? ⟨b3, f3 + kn, none⟩ = some (.int .i64 mo)) (by kernel_rfl) (by kernel_rfl) (by exact HS0.out _ HBD.out) ?_
                      repeat (first
                        | (refine seq_take0 (v := ?_) ?_ (fun _ _ _ h => h) (by kernel_rfl) ?_ ?_; rotate_left; (focus rfl); (focus (intro w' hSw; (try dsimp only at hSw); go_simp; (try with_reducible rfl); done)); (try simp only [Act.put, List.setIfInBounds_toArray, List.set_cons_zero, List.set_cons_succ]))
                        | (refine seq_takeG (v := ?_) (g := ?_) (d := ?_) (b := ?_) (u := ?_) ?_ ?_ ?_ ?_ (fun _ _ _ h => h) (by kernel_rfl) ?_ ?_; rotate_left 5; (focus rfl); (focus rfl); (focus rfl); (focus (first | rfl | (go_simp; done))); (focus (intro w' hSw; (try dsimp only at hSw); go_simp; (try with_reducible rfl); done)); (try simp only [Act.put, List.setIfInBounds_toArray, List.set_cons_zero, List.set_cons_succ]))
                        | (refine seq_skipG (g := ?_) (d := ?_) (b := ?_) (u := ?_) ?_ ?_ ?_ ?_ (fun _ _ _ h => h) (by kernel_rfl) ?_; rotate_left 4; (focus rfl); (focus rfl); (focus rfl); (focus (first | rfl | (go_simp; done))); (try simp only [Act.put, List.setIfInBounds_toArray, List.set_cons_zero, List.set_cons_succ])))
                      repeat (refine seq_swap ?_; first
                        | (refine seq_take0 (v := ?_) ?_ (fun _ _ _ h => h) (by kernel_rfl) ?_ ?_; rotate_left; (focus rfl); (focus (intro w' hSw; (try dsimp only at hSw); go_simp; (try with_reducible rfl); done)); (try simp only [Act.put, List.setIfInBounds_toArray, List.set_cons_zero, List.set_cons_succ]))
                        | (refine seq_takeG (v := ?_) (g := ?_) (d := ?_) (b := ?_) (u := ?_) ?_ ?_ ?_ ?_ (fun _ _ _ h => h) (by kernel_rfl) ?_ ?_; rotate_left 5; (focus rfl); (focus rfl); (focus rfl); (focus (first | rfl | (go_simp; done))); (focus (intro w' hSw; (try dsimp only at hSw); go_simp; (try with_reducible rfl); done)); (try simp only [Act.put, List.setIfInBounds_toArray, List.set_cons_zero, List.set_cons_succ]))
                        | (refine seq_skipG (g := ?_) (d := ?_) (b := ?_) (u := ?_) ?_ ?_ ?_ ?_ (fun _ _ _ h => h) (by kernel_rfl) ?_; rotate_left 4; (focus rfl); (focus rfl); (focus rfl); (focus (first | rfl | (go_simp; done))); (try simp only [Act.put, List.setIfInBounds_toArray, List.set_cons_zero, List.set_cons_succ])))
                      refine seq_op (by kernel_rfl) (by rfl) (fun K hK => ?_)
                      go_simp
                      refine (HRUN.out _ (HB1.out.trans (HBD.out.mono HB1.out.size))).mono ?_
                      rintro e' w7 ⟨rfl, hbx⟩
                      have HB_w7 : Hid (Below W1.heap.size W1 w7) := HBD.out.trans (hbx.mono HBD.out.size)
                      clear hbx
                      refine hK.out _ _ (by exact HS0.out _ HB_w7.out) ?_
                      clear hK K
                      repeat (first
                        | (refine seq_take0 (v := ?_) ?_ (fun _ _ _ h => h) (by kernel_rfl) ?_ ?_; rotate_left; (focus rfl); (focus (intro w' hSw; (try dsimp only at hSw); go_simp; (try with_reducible rfl); done)); (try simp only [Act.put, List.setIfInBounds_toArray, List.set_cons_zero, List.set_cons_succ]))
                        | (refine seq_takeG (v := ?_) (g := ?_) (d := ?_) (b := ?_) (u := ?_) ?_ ?_ ?_ ?_ (fun _ _ _ h => h) (by kernel_rfl) ?_ ?_; rotate_left 5; (focus rfl); (focus rfl); (focus rfl); (focus (first | rfl | (go_simp; done))); (focus (intro w' hSw; (try dsimp only at hSw); go_simp; (try with_reducible rfl); done)); (try simp only [Act.put, List.setIfInBounds_toArray, List.set_cons_zero, List.set_cons_succ]))
                        | (refine seq_skipG (g := ?_) (d := ?_) (b := ?_) (u := ?_) ?_ ?_ ?_ ?_ (fun _ _ _ h => h) (by kernel_rfl) ?_; rotate_left 4; (focus rfl); (focus rfl); (focus rfl); (focus (first | rfl | (go_simp; done))); (try simp only [Act.put, List.setIfInBounds_toArray, List.set_cons_zero, List.set_cons_succ])))
                      refine seq_done (by kernel_rfl) ?_
                      go_wp2_with fail
                      go_roundw
                      case rel => exact ⟨i + 1, by omega, by go_num, HF.out, HB_w7.out⟩
                      case measure => simp [intOf]; omega
            · have hin : i = n := by omega
              have HRS2 : Hid (ce = if (List.range d.need.length).all (needOk d l) = true then 0 else 5) := by show _ = _; rw [HRST.out, if_neg]; rw [HN.out, ← hin, HBAD.out]; simp
              have hiI : ¬ (i : Int) < (n : Int) := by omega
              clear HRST HBAD HE hi hlt hin
              go_wp2_with fail
              clear hiI
              go_loopw [11] (fun kv wx => ∃ k : Nat, k ≤ nm ∧ kv = .int .i64 (k : Int) ∧ Hid ((List.range k).all (needOk d l) = true) ∧ Hid (Below W1.heap.size W1 wx)) (fun kv _ => nm - (intOf kv).toNat)
              case atStart => exact ⟨0, Nat.zero_le _, rfl, rfl, HBEL.out⟩
              case round =>
                clear HBEL HBR
                obtain ⟨k, hk, rfl, HNO, HBEL⟩ := hrel
                have HBR := Lib.hid (HB1.out.trans (HBEL.out.mono HB1.out.size))
                obtain ⟨-, -, -, z3, -⟩ := HCELL.out wr HBEL.out
                by_cases hlk : k < nm
                · obtain ⟨b2, f2, q, hA2, ⟨_, hl2⟩, hq, hcl2⟩ := HCN.out k hlk
                  cases hA2
                  have hqv : needOf d k = q := by unfold needOf; rw [Int.toNat_natCast, at_of hq]
                  have y2 := (HBR.out.cell (p := ⟨b2, _, none⟩) hl2).trans hcl2
                  have HNK : Hid ((List.range (k + 1)).all (needOk d l) = decide (((kindN l (k : Nat) : Nat) : Int) = q)) := by show _ = _; rw [List.range_succ, List.all_append, HNO.out]; simp only [Bool.true_and, List.all_cons, List.all_nil, Bool.and_true]; unfold needOk; rw [hqv]
                  have HRET5 : Hid ((List.range (k + 1)).all (needOk d l) = false → ce = 5) := fun h => by
                    rw [HRS2.out, if_neg]
                    intro h2
                    rw [List.all_eq_true] at h2
                    have : (List.range (k + 1)).all (needOk d l) = true := List.all_eq_true.2 fun y hy => h2 y (List.mem_range.2 (by have := List.mem_range.1 hy; have := HNN.out; omega))
                    rw [this] at h; cases h
                  have hkI : (k : Int) < (nm : Int) := by omega
                  have hk0 : (0 : Int) ≤ (k : Int) := by omega
                  clear hq hcl2 hqv
                  go_wp2_with fail
                  go_loop [12, 13] (fun cv jv => ∃ j : Nat, j ≤ n ∧ jv = .int .i64 (j : Int) ∧ cv = .int .i64 ((kindN (l.take j) (k : Int) : Nat) : Int)) (fun _ jv => n - (intOf jv).toNat)
                  case atStart => exact ⟨0, Nat.zero_le _, rfl, rfl⟩
                  case round =>
                    obtain ⟨j, hj, rfl, rfl⟩ := hrel
                    obtain ⟨c, hc⟩ : ∃ c, c = kindN (l.take j) (k : Int) := ⟨_, rfl⟩
                    have hcl : c ≤ j := by rw [hc]; have : kindN (l.take j) (k : Int) ≤ (l.take j).length := List.countP_le_length; rw [List.length_take] at this; omega
                    rw [← hc]
                    have HCC := Lib.hid hc
                    clear hc
                    by_cases hlj : j < n
                    · obtain ⟨b, off, x, rfl, ⟨_, hbl⟩, hx, hcell⟩ := HLC.out j hlj
                      have d1 : wr.cell? ⟨b, off + j * 3 + 1, none⟩ = some (.int .i64 x.kind) := (HBR.out.cell (p := ⟨b, _, none⟩) hbl).trans (hcell 1 _ rfl)
                      have HST : Hid (kindN (l.take (j + 1)) (k : Int) = c + if x.kind = (k : Int) then 1 else 0) := by show _ = _; rw [take_snoc? hx, kindN_snoc, ← HCC.out]
                      have hjI : (j : Int) < (n : Int) := by omega
                      have hj0 : (0 : Int) ≤ (j : Int) := by omega
                      obtain ⟨xp, xk, xs⟩ := x
                      simp only [] at d1 HST
                      clear hx hcell
                      by_cases c1 : xk = (k : Int)
                      · have HF : Hid (c + 1 = kindN (l.take (j + 1)) (k : Int)) := by show _ = _; rw [HST.out, if_pos c1]
                        have c1b : (xk == (k : Int)) = true := by simpa using c1
                        subst c1
                        go_wp2_with fail
                        go_round
                        case rel => exact ⟨j + 1, by omega, by go_num, by rw [← HF.out]; go_num⟩
                        case measure => simp [intOf]; omega
                      · have HF : Hid (c = kindN (l.take (j + 1)) (k : Int)) := by show _ = _; rw [HST.out, if_neg c1, Nat.add_zero]
                        have c1b : (xk == (k : Int)) = false := by simpa using c1
                        go_wp2_with fail
                        go_round
                        case rel => exact ⟨j + 1, by omega, by go_num, by rw [← HF.out]⟩
                        case measure => simp [intOf]; omega
                    · have HC2 : Hid (c = kindN l (k : Int)) := by show _ = _; rw [HCC.out, List.take_of_length_le (by rw [HN.out]; omega)]
                      have hjI : ¬ (j : Int) < (n : Int) := by omega
                      by_cases c1 : (c : Int) = q
                      · have HF : Hid ((List.range (k + 1)).all (needOk d l) = true) := by show _ = _; rw [HNK.out, ← HC2.out]; exact decide_eq_true c1
                        have c1b : ((c : Int) == q) = true := by simpa using c1
                        have c1n : ((c : Int) != q) = false := by simp [bne, c1b]
                        have c1o : (!((c : Int) == q)) = false := by rw [c1b]; rfl
                        clear c1
                        go_wp2_with fail
                        go_roundw
                        case rel => exact ⟨k + 1, by omega, by go_num, HF.out, HBEL.out⟩
                        case measure => simp [intOf]; omega
                      · have HF : Hid (ce = 5) := HRET5.out (by rw [HNK.out, ← HC2.out]; exact decide_eq_false c1)
                        have c1b : ((c : Int) == q) = false := by simpa using c1
                        have c1n : ((c : Int) != q) = true := by simp [bne, c1b]
                        have c1o : (!((c : Int) == q)) = true := by rw [c1b]; rfl
                        go_wp2_with fail
                        go_ret
                        exact ⟨by rw [HF.out]; rfl, HBR.out⟩
                · have HF : Hid (ce = 0) := by
                    show _ = _
                    rw [HRS2.out, if_pos]
                    have h1 := HNO.out
                    rwa [show k = d.need.length by have := HNN.out; omega] at h1
                  have hkI : ¬ (k : Int) < (nm : Int) := by omega
                  go_wp2_with fail
                  go_ret
                  exact ⟨by rw [HF.out]; rfl, HBR.out⟩
    · have hlen' : ((n : Int) > 64) := by omega
      have HF : Hid (ce = 4) := by show _ = _; rw [HCE.out]; unfold rchkE; rw [if_neg (by have := HWE.out; omega), if_pos (by have := HN.out; omega)]
      clear hlen
      go_enter Tryz.func12, Tryz.ntmps12
      go_wp2_with fail
      rw [← HW1.out]
      refine (HCH.out W1 HB1.out).mono ?_
      rintro e w2 ⟨rfl, hb2⟩
      have HB2 := Lib.hid (HB1.out.trans (hb2.mono HB1.out.size))
      clear hb2 x0 x1 x2 x3 x4
      go_wp2_with fail
      go_ret
      exact ⟨by rw [HF.out]; rfl, HB2.out⟩
  · have hz' : (we != 0) = true := by rw [bne_iff_ne]; exact hz
    have HF : Hid (ce = we) := by show _ = _; rw [HCE.out]; unfold rchkE; rw [if_pos (by rw [← HWE.out]; exact hz), ← HWE.out]
    clear hz
    go_enter Tryz.func12, Tryz.ntmps12
    go_wp2_with fail
    rw [← HW1.out]
    refine (HCH.out W1 HB1.out).mono ?_
    rintro e w2 ⟨rfl, hb2⟩
    have HB2 := Lib.hid (HB1.out.trans (hb2.mono HB1.out.size))
    clear hb2 x0 x1 x2 x3 x4
    go_wp2_with fail
    go_ret
    exact ⟨by rw [HF.out]; rfl, HB2.out⟩
end Go.Proofs.YtogccnngdfancaaGreat
