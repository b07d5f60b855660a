/- The walk of Book.gather, by induction on the item's place. -/
import Derived.Test.YtlanephpmoajiaaWaysPlain
import Derived.Test.YtlanephpmoajiaaGet
namespace Go.Proofs.Ytlanephpmoajiaa
open Go.RowKit
set_option linter.unusedVariables false

/-- What gather leaves. -/
def GathPost (xs : List ItemD) (i : Nat) (m : List Bool) (w0 : World) (g n cap : Nat) (e : Ending) (w' : World) : Prop :=
  (∃ v, e = .returned v) ∧ ∃ m', Gath xs i m m' ∧ w'.ownsRow w0.heap.size 4 1 (.slice (some ⟨g, 0, none⟩) n cap) n (m'.map Value.bool) ∧ Below w0.heap.size w0 w'
/-- The marks in memory. -/
structure Marks (w0 : World) (g n cap : Nat) (m : List Bool) (wr : World) : Prop where
  own : wr.ownsRow w0.heap.size 4 1 (.slice (some ⟨g, 0, none⟩) n cap) n (m.map Value.bool)
  bel : Below w0.heap.size w0 wr
theorem Marks.at_ {w0 wr : World} {g n cap : Nat} {m : List Bool} (h : Marks w0 g n cap m wr) {k : Nat} (hk : k < n) : wr.cell? ⟨g, k, none⟩ = some (.bool (m.getD k false)) ∧ wr.frozen? ⟨g, k, none⟩ = false := by
  obtain ⟨g', h1, h2, h3, h4, h5⟩ := FromW.at_ (w := w0) (A := some ⟨g, 0, none⟩) ⟨h.own, h.bel⟩ hk
  obtain rfl : g = g' := by simpa using h1
  exact ⟨h4, h5⟩
theorem Marks.store {w0 wr : World} {g n cap : Nat} {m : List Bool} (h : Marks w0 g n cap m wr) (hg : w0.heap.size ≤ g) (k : Nat) : Marks w0 g n cap (m.set k true) (wr.setCell ⟨g, k, none⟩ (.bool true)) :=
  ⟨by have := (h.own.stored k (.bool true)).1; rw [List.map_set]; exact this, h.bel.setCell hg _⟩
set_option maxRecDepth 100000 in
set_option maxHeartbeats 2000000 in
theorem gather_any (p : Value) (B : Nat) (F : Nat → Prop) (xs : List ItemD) (w0 : World) (hb : Bk w0 B p F xs) (hfd : Found xs) (hu : BookUq xs) (hxl : xs.length ≤ 1024) (g n cap : Nat) (hg : w0.heap.size ≤ g) (hn : n = xs.length) :
    ∀ (i : Nat) (m : List Bool) (w : World), i < n → m.length = n → ClB xs i m → Marks w0 g n cap m w → Calls Try.prog 71 #[p, .int .i64 i, .slice (some ⟨g, 0, none⟩) n cap] w (GathPost xs i m w0 g n cap) := by
  intro i
  induction i using Nat.strongRecOn with
  | _ i ih =>
    intro m w hi hm hcl hM
    obtain ⟨bb, vi, r, fs, rfl, hbk⟩ := hb
    have hx : xs[i]? = some (xs[i]'(by omega)) := List.getElem?_eq_getElem (by omega)
    obtain ⟨x, hxe⟩ : ∃ x, x = xs[i]'(by omega) := ⟨_, rfl⟩
    rw [← hxe] at hx
    obtain ⟨g', cp, fv, rfl, hgc, hg1, hg2, -, -, -, i3, hfr⟩ := hbk.item hx
    obtain ⟨vs, hvs, hlen, hin⟩ := hfr.lt
    obtain ⟨A, n1, cap1, rfl, hn1, hcap1, hmax1, hc⟩ := hvs.open_
    have HIH := Lib.hid ih
    have HFD := Lib.hid hfd
    have HX := Lib.hid hx
    have HC := Lib.hid hc
    have HIN := Lib.hid hin
    have HBK := Lib.hid hbk
    have HM := Lib.hid hM
    have HST : Hid (GMid xs i x m m 0 0) := GMid.start hcl
    have HML := Lib.hid hm
    have HNX := Lib.hid hn
    have HN1 : Hid (x.frm.length = n1) := by unfold Hid; omega
    have hn1024 : n ≤ 1024 := by omega
    have hbb := (Array.getElem?_eq_some_iff.1 hbk.blk).1
    have e0 : w.cell? ⟨bb, 0, none⟩ = some (.slice (some ⟨g', 0, none⟩) n cp) := by rw [hn]; exact (hM.bel.cell (p := ⟨bb, 0, none⟩) hbb).trans hbk.cell0
    have e3 : w.cell? ⟨g', i * 4 + 3, none⟩ = some (.slice A n1 cap1) := by
      have := (hM.bel.cell (p := ⟨g', i * 4 + 3, none⟩) hg2).trans i3
      exact this
    have hi1 : (i : Int) < (n : Int) := by omega
    clear ih hfd hx hc hin hbk hM hm hcl hxe hvs hfr i3 hlen hn hn1
    go_enter Try.func71, Try.ntmps71
    go_wp2_with fail
    clear e0 e3
    go_loopw [20] (fun iv wr => ∃ (a : Nat) (m' : List Bool), a ≤ n1 ∧ iv = .int .i64 a ∧ GMid xs i x m m' a 0 ∧ Marks w0 g n cap m' wr) (fun iv _ => n1 - (intOf iv).toNat)
    case atStart => exact ⟨0, m, Nat.zero_le _, rfl, HST.out, HM.out⟩
    case round =>
      clear HST HM
      obtain ⟨a, m', ha, rfl, hG, hM⟩ := hrel
      by_cases hlt : a < n1
      · obtain ⟨b, off, u, rfl, ⟨_, hbw⟩, hu', hcell⟩ := HC.out a hlt
        obtain ⟨c, hcc⟩ : ∃ c, x.frm[a]? = some c := ⟨x.frm[a]'(by have := HN1.out; omega), List.getElem?_eq_getElem _⟩
        obtain ⟨u', hu'', hrd⟩ := HIN.out a c hcc
        obtain rfl := Option.some.inj (hu'.symm.trans hu'')
        obtain ⟨A2, n2, cap2, rfl, hn2, hcap2, hmax2, hc2⟩ := hrd.lt.open_
        have HC2 := Lib.hid hc2
        have HN2 := Lib.hid hn2
        have HCC := Lib.hid hcc
        have HG := Lib.hid hG
        have HM := Lib.hid hM
        have d0 : wr.cell? ⟨b, off + a, none⟩ = some (.slice A2 n2 cap2) := (hM.bel.cell (p := ⟨b, _, none⟩) hbw).trans hcell
        clear hu' hu'' hcc hrd hc2 hn2 hcell hG hM
        go_wp2_with fail
        clear d0
        go_loopw [26] (fun iv wr => ∃ (d : Nat) (m' : List Bool), d ≤ n2 ∧ iv = .int .i64 d ∧ GMid xs i x m m' a d ∧ Marks w0 g n cap m' wr) (fun iv _ => n2 - (intOf iv).toNat)
        case atStart => exact ⟨0, m', Nat.zero_le _, rfl, HG.out, HM.out⟩
        case round =>
          clear HG HM
          obtain ⟨d, m2, hd, rfl, hG, hM⟩ := hrel
          by_cases hlt2 : d < n2
          · obtain ⟨b2, off2, nm, rfl, ⟨_, hbw2⟩, hnm, hcell2⟩ := HC2.out d hlt2
            obtain ⟨hnms, hsome⟩ := HFD.out x (mem_of_get? HX.out) c (mem_of_get? HCC.out) nm (mem_of_get? hnm)
            obtain ⟨k, hk⟩ := Option.isSome_iff_exists.1 hsome
            have hE : Edge xs i k := ⟨x, HX.out, c, mem_of_get? HCC.out, nm, mem_of_get? hnm, hk⟩
            have hki := hE.lt hu
            have hkn : k < n := by omega
            have hbk := HBK.out.below (w' := wr) ((Below.trans hM.bel (Below.refl _ _)))
            have hlk := MapV.look hbk.map hnms
            rw [show idxI xs nm = k from by simp [idxI, hk]] at hlk
            have f0 : wr.cell? ⟨b2, off2 + d, none⟩ = some (.string nm) := (hM.bel.cell (p := ⟨b2, _, none⟩) hbw2).trans hcell2
            have f1 := hbk.cell1
            obtain ⟨f2, f3⟩ := hM.at_ hkn
            obtain ⟨mk, hmk⟩ : ∃ mk, mk = m2.getD k false := ⟨_, rfl⟩
            rw [← hmk] at f2
            have hk1 : (k : Int) < (n : Int) := by omega
            have hk0 : (0 : Int) ≤ (k : Int) := by omega
            have HG := Lib.hid hG
            have HM := Lib.hid hM
            have HMK := Lib.hid hmk
            have HNM := Lib.hid hnm
            have HK := Lib.hid hk
            clear hnm hcell2 hG hM hmk hsome hk hE hbk
            cases mk with
            | true =>
              go_wp2_with fail
              go_roundw
              case rel => exact ⟨d + 1, m2, by omega, by go_num, HG.out.had HCC.out HNM.out HK.out HMK.out.symm, HM.out⟩
              case measure => simp [intOf]; omega
            | false =>
              have hM2 := HM.out.store hg k
              have HI2 := Lib.hid (HIH.out k hki (m2.set k true) _ hkn (by rw [List.length_set, HG.out.len]; exact HML.out) (HG.out.pre hki) hM2)
              clear hM2
              go_wp2_with fail
              refine HI2.out.mono ?_
              rintro e w5 ⟨⟨v, rfl⟩, m3, hg3, ho3, hb3⟩
              have hG3 := HG.out.step hu HX.out HCC.out HNM.out HK.out (by rw [HG.out.len]; have := HML.out; omega) hg3
              have HG3 := Lib.hid hG3
              have HM3 : Hid (Marks w0 g n cap m3 w5) := ⟨ho3, hb3⟩
              clear hg3 ho3 hb3 hG3
              go_wp2_with fail
              go_roundw
              case rel => exact ⟨d + 1, m3, by omega, by go_num, HG3.out, HM3.out⟩
              case measure => simp [intOf]; omega
          · have HG : Hid (GMid xs i x m m2 (a + 1) 0) := hG.next HCC.out (by have := HN2.out; omega)
            have HM := Lib.hid hM
            clear hG hM
            go_wp2_with fail
            go_roundw
            case rel => exact ⟨a + 1, m2, by omega, by go_num, HG.out, HM.out⟩
            case measure => simp [intOf]; omega
      · have hd := hG.done_all HX.out (by have := HN1.out; omega)
        have HD := Lib.hid hd
        have HM := Lib.hid hM
        clear hd hG hM
        go_wp2_with fail
        go_end0
        exact ⟨⟨_, rfl⟩, m', HD.out, HM.out.own, HM.out.bel⟩
end Go.Proofs.Ytlanephpmoajiaa
