/- The walk of Book.gather, by induction on the item's place. The walk of Book.Sources. The walk of the reference's Sources. -/
import Derived.Test.YtlanephpmoajiaaFromLw
import Derived.Test.YtlanephpmoajiaaGet
import Derived.Test.YtlanephpmoajiaaRefUse
namespace Go.Proofs.Ytlanephpmoajiaa
open Go.RowKit
set_option linter.unusedVariables false

/-- What gather leaves. -/
def GathPost (xs : List ItemD) (i : Nat) (m : List Bool) (w0 : World) (g n cap : Nat) (e : Ending) (w' : World) : Prop :=
  (∃ v, e = .returned v) ∧ ∃ m', Gath xs i m m' ∧ w'.ownsRow w0.heap.size 4 1 (.slice (some ⟨g, 0, none⟩) n cap) n (m'.map Value.bool) ∧ Below w0.heap.size w0 w'
/-- The marks in memory. -/
structure Marks (w0 : World) (g n cap : Nat) (m : List Bool) (wr : World) : Prop where
  own : wr.ownsRow w0.heap.size 4 1 (.slice (some ⟨g, 0, none⟩) n cap) n (m.map Value.bool)
  bel : Below w0.heap.size w0 wr
theorem Marks.at_ {w0 wr : World} {g n cap : Nat} {m : List Bool} (h : Marks w0 g n cap m wr) {k : Nat} (hk : k < n) : wr.cell? ⟨g, k, none⟩ = some (.bool (m.getD k false)) ∧ wr.frozen? ⟨g, k, none⟩ = false := by
  obtain ⟨g', h1, h2, h3, h4, h5⟩ := FromW.at_ (w := w0) (A := some ⟨g, 0, none⟩) ⟨h.own, h.bel⟩ hk
  obtain rfl : g = g' := by simpa using h1
  exact ⟨h4, h5⟩
theorem Marks.store {w0 wr : World} {g n cap : Nat} {m : List Bool} (h : Marks w0 g n cap m wr) (hg : w0.heap.size ≤ g) (k : Nat) : Marks w0 g n cap (m.set k true) (wr.setCell ⟨g, k, none⟩ (.bool true)) :=
  ⟨by have := (h.own.stored k (.bool true)).1; rw [List.map_set]; exact this, h.bel.setCell hg _⟩
set_option maxRecDepth 100000 in
set_option maxHeartbeats 2000000 in
theorem gather_any (p : Value) (B : Nat) (F : Nat → Prop) (xs : List ItemD) (w0 : World) (hb : Bk w0 B p F xs) (hfd : Found xs) (hu : BookUq xs) (hxl : xs.length ≤ 1024) (g n cap : Nat) (hg : w0.heap.size ≤ g) (hn : n = xs.length) :
    ∀ (i : Nat) (m : List Bool) (w : World), i < n → m.length = n → ClB xs i m → Marks w0 g n cap m w → Calls Try.prog 71 #[p, .int .i64 i, .slice (some ⟨g, 0, none⟩) n cap] w (GathPost xs i m w0 g n cap) := by
  intro i
  induction i using Nat.strongRecOn with
  | _ i ih =>
    intro m w hi hm hcl hM
    obtain ⟨bb, vi, r, fs, rfl, hbk⟩ := hb
    have hx : xs[i]? = some (xs[i]'(by omega)) := List.getElem?_eq_getElem (by omega)
    obtain ⟨x, hxe⟩ : ∃ x, x = xs[i]'(by omega) := ⟨_, rfl⟩
    rw [← hxe] at hx
    obtain ⟨g', cp, fv, rfl, hgc, hg1, hg2, -, -, -, i3, hfr⟩ := hbk.item hx
    obtain ⟨vs, hvs, hlen, hin⟩ := hfr.lt
    obtain ⟨A, n1, cap1, rfl, hn1, hcap1, hmax1, hc⟩ := hvs.open_
    have HIH := Lib.hid ih
    have HFD := Lib.hid hfd
    have HX := Lib.hid hx
    have HC := Lib.hid hc
    have HIN := Lib.hid hin
    have HBK := Lib.hid hbk
    have HM := Lib.hid hM
    have HST : Hid (GMid xs i x m m 0 0) := GMid.start hcl
    have HML := Lib.hid hm
    have HNX := Lib.hid hn
    have HN1 : Hid (x.frm.length = n1) := by unfold Hid; omega
    have hn1024 : n ≤ 1024 := by omega
    have hbb := (Array.getElem?_eq_some_iff.1 hbk.blk).1
    have e0 : w.cell? ⟨bb, 0, none⟩ = some (.slice (some ⟨g', 0, none⟩) n cp) := by rw [hn]; exact (hM.bel.cell (p := ⟨bb, 0, none⟩) hbb).trans hbk.cell0
    have e3 : w.cell? ⟨g', i * 4 + 3, none⟩ = some (.slice A n1 cap1) := by
      have := (hM.bel.cell (p := ⟨g', i * 4 + 3, none⟩) hg2).trans i3
      exact this
    have hi1 : (i : Int) < (n : Int) := by omega
    clear ih hfd hx hc hin hbk hM hm hcl hxe hvs hfr i3 hlen hn hn1
    go_enter Try.func71, Try.ntmps71
    go_wp2_with fail
    clear e0 e3
    go_loopw [20] (fun iv wr => ∃ (a : Nat) (m' : List Bool), a ≤ n1 ∧ iv = .int .i64 a ∧ GMid xs i x m m' a 0 ∧ Marks w0 g n cap m' wr) (fun iv _ => n1 - (intOf iv).toNat)
    case atStart => exact ⟨0, m, Nat.zero_le _, rfl, HST.out, HM.out⟩
    case round =>
      clear HST HM
      obtain ⟨a, m', ha, rfl, hG, hM⟩ := hrel
      by_cases hlt : a < n1
      · obtain ⟨b, off, u, rfl, ⟨_, hbw⟩, hu', hcell⟩ := HC.out a hlt
        obtain ⟨c, hcc⟩ : ∃ c, x.frm[a]? = some c := ⟨x.frm[a]'(by have := HN1.out; omega), List.getElem?_eq_getElem _⟩
        obtain ⟨u', hu'', hrd⟩ := HIN.out a c hcc
        obtain rfl := Option.some.inj (hu'.symm.trans hu'')
        obtain ⟨A2, n2, cap2, rfl, hn2, hcap2, hmax2, hc2⟩ := hrd.lt.open_
        have HC2 := Lib.hid hc2
        have HN2 := Lib.hid hn2
        have HCC := Lib.hid hcc
        have HG := Lib.hid hG
        have HM := Lib.hid hM
        have d0 : wr.cell? ⟨b, off + a, none⟩ = some (.slice A2 n2 cap2) := (hM.bel.cell (p := ⟨b, _, none⟩) hbw).trans hcell
        clear hu' hu'' hcc hrd hc2 hn2 hcell hG hM
        go_wp2_with fail
        clear d0
        go_loopw [26] (fun iv wr => ∃ (d : Nat) (m' : List Bool), d ≤ n2 ∧ iv = .int .i64 d ∧ GMid xs i x m m' a d ∧ Marks w0 g n cap m' wr) (fun iv _ => n2 - (intOf iv).toNat)
        case atStart => exact ⟨0, m', Nat.zero_le _, rfl, HG.out, HM.out⟩
        case round =>
          clear HG HM
          obtain ⟨d, m2, hd, rfl, hG, hM⟩ := hrel
          by_cases hlt2 : d < n2
          · obtain ⟨b2, off2, nm, rfl, ⟨_, hbw2⟩, hnm, hcell2⟩ := HC2.out d hlt2
            obtain ⟨hnms, hsome⟩ := HFD.out x (mem_of_get? HX.out) c (mem_of_get? HCC.out) nm (mem_of_get? hnm)
            obtain ⟨k, hk⟩ := Option.isSome_iff_exists.1 hsome
            have hE : Edge xs i k := ⟨x, HX.out, c, mem_of_get? HCC.out, nm, mem_of_get? hnm, hk⟩
            have hki := hE.lt hu
            have hkn : k < n := by omega
            have hbk := HBK.out.below (w' := wr) ((Below.trans hM.bel (Below.refl _ _)))
            have hlk := MapV.look hbk.map hnms
            rw [show idxI xs nm = k from by simp [idxI, hk]] at hlk
            have f0 : wr.cell? ⟨b2, off2 + d, none⟩ = some (.string nm) := (hM.bel.cell (p := ⟨b2, _, none⟩) hbw2).trans hcell2
            have f1 := hbk.cell1
            obtain ⟨f2, f3⟩ := hM.at_ hkn
            obtain ⟨mk, hmk⟩ : ∃ mk, mk = m2.getD k false := ⟨_, rfl⟩
            rw [← hmk] at f2
            have hk1 : (k : Int) < (n : Int) := by omega
            have hk0 : (0 : Int) ≤ (k : Int) := by omega
            have HG := Lib.hid hG
            have HM := Lib.hid hM
            have HMK := Lib.hid hmk
            have HNM := Lib.hid hnm
            have HK := Lib.hid hk
            clear hnm hcell2 hG hM hmk hsome hk hE hbk
            cases mk with
            | true =>
              go_wp2_with fail
              go_roundw
              case rel => exact ⟨d + 1, m2, by omega, by go_num, HG.out.had HCC.out HNM.out HK.out HMK.out.symm, HM.out⟩
              case measure => simp [intOf]; omega
            | false =>
              have hM2 := HM.out.store hg k
              have HI2 := Lib.hid (HIH.out k hki (m2.set k true) _ hkn (by rw [List.length_set, HG.out.len]; exact HML.out) (HG.out.pre hki) hM2)
              clear hM2
              go_wp2_with fail
              refine HI2.out.mono ?_
              rintro e w5 ⟨⟨v, rfl⟩, m3, hg3, ho3, hb3⟩
              have hG3 := HG.out.step hu HX.out HCC.out HNM.out HK.out (by rw [HG.out.len]; have := HML.out; omega) hg3
              have HG3 := Lib.hid hG3
              have HM3 : Hid (Marks w0 g n cap m3 w5) := ⟨ho3, hb3⟩
              clear hg3 ho3 hb3 hG3
              go_wp2_with fail
              go_roundw
              case rel => exact ⟨d + 1, m3, by omega, by go_num, HG3.out, HM3.out⟩
              case measure => simp [intOf]; omega
          · have HG : Hid (GMid xs i x m m2 (a + 1) 0) := hG.next HCC.out (by have := HN2.out; omega)
            have HM := Lib.hid hM
            clear hG hM
            go_wp2_with fail
            go_roundw
            case rel => exact ⟨a + 1, m2, by omega, by go_num, HG.out, HM.out⟩
            case measure => simp [intOf]; omega
      · have hd := hG.done_all HX.out (by have := HN1.out; omega)
        have HD := Lib.hid hd
        have HM := Lib.hid hM
        clear hd hG hM
        go_wp2_with fail
        go_end0
        exact ⟨⟨_, rfl⟩, m', HD.out, HM.out.own, HM.out.bel⟩
end Go.Proofs.Ytlanephpmoajiaa

namespace Go.Proofs.Ytlanephpmoajiaa
open Go.RowKit
set_option linter.unusedVariables false
/-- The marks of the sources of an item. -/
def srcMs (xs : List ItemD) (nm : ByteArray) : List Bool := match idx xs nm with | some i => ancMs xs i | none => []
/-- What Sources leaves. -/
def SourcesNames (w : World) (xs : List ItemD) (nm : ByteArray) (e : Ending) (w' : World) : Prop :=
  (∃ v, e = .returned (.tuple #[v, .int .i64 (findErr xs nm)]) ∧ Rd .string w' (w.heap.size ≤ ·) v (if findErr xs nm = 0 then namesOf xs (srcMs xs nm) else [])) ∧ Below w.heap.size w w'
theorem Marks.new {w w1 : World} {n : Nat} (hown : w1.ownsRow w.heap.size 4 1 (.slice (some ⟨w.heap.size, 0, none⟩) n n) n (madeCells (Value.bool false).cells (n * 1)).toList) (hb1 : Below w.heap.size w w1) : Marks w w.heap.size n n (List.replicate n false) w1 :=
  ⟨by rw [made_false] at hown; exact hown, hb1⟩
set_option maxRecDepth 100000 in
set_option maxHeartbeats 1000000 in
theorem Sources_any (p : Value) (B : Nat) (F : Nat → Prop) (xs : List ItemD) (nm : ByteArray) (w : World) (hb : Bk w B p F xs) (hfd : Found xs) (hu : BookUq xs) (hxl : xs.length ≤ 1024) (hnm : nm.size ≤ maxLen) :
    Calls Try.prog 35 #[p, .string nm] w (SourcesNames w xs nm) := by
  obtain ⟨i0, hi0, hz0, hz1, hz2⟩ := info_parts info4
  have HFI := Lib.hid (find_any p B F xs nm w hb hnm)
  have HB := Lib.hid hb
  obtain ⟨bb, vi, r, fs, rfl, hbk⟩ := hb
  have hna := fun w' v ms (h : Below w.heap.size w w') (hr : Rd .bool w' (w.heap.size ≤ ·) v ms) (hl : ms.length = xs.length) => names_any (.pointer (some ⟨bb, 0, none⟩)) B F xs v ms _ w' (HB.out.below h) hr hl hxl
  have HNA := Lib.hid hna
  clear hna
  cases hi : idx xs nm with
  | none =>
    have hf : findErr xs nm = 5 := by simp [findErr, hi]
    have hx : idxI xs nm = 0 := by simp [idxI, hi]
    rw [hf, hx] at HFI
    have HF := Lib.hid hf
    clear hi hf hx hbk
    go_enter Try.func35, Try.ntmps35
    go_wp2_with (go_at_call 56; refine HFI.out.mono ?_; rintro e w' ⟨rfl, rfl⟩)
    go_ret2
    refine ⟨⟨_, by rw [HF.out]; rfl, ?_⟩, Below.refl _ _⟩
    rw [HF.out, if_neg (by decide)]
    exact Rd.none_ _ _ _
  | some i =>
    have hf : findErr xs nm = 0 := by simp [findErr, hi]
    have hx : idxI xs nm = i := by simp [idxI, hi]
    have hil := idx_lt hi
    rw [hf, hx] at HFI
    have HF := Lib.hid hf
    have HMS : Hid (srcMs xs nm = ancMs xs i) := by unfold srcMs Hid; simp only [hi]
    obtain ⟨A, cp, rfl⟩ := ownsRow_slice hbk.own
    have e0 := hbk.cell0
    obtain ⟨n, hn⟩ : ∃ n, n = xs.length := ⟨_, rfl⟩
    rw [← hn] at e0 hil
    have hn1024 : n ≤ 1024 := by omega
    have HN := Lib.hid hn
    have HGA := Lib.hid (fun (w1 : World) (hM : Marks w w.heap.size n n (List.replicate n false) w1) => gather_any (.pointer (some ⟨bb, 0, none⟩)) B F xs w HB.out hfd hu hxl w.heap.size n n (Nat.le_refl _) hn i (List.replicate n false) w1 hil (by simp) (by rw [hn]; exact clB_none xs i) hM)
    clear hi hf hx hbk hn
    go_enter Try.func35, Try.ntmps35
    go_wp2_with (first | (go_at_call 56; refine HFI.out.mono ?_; rintro e w' ⟨rfl, rfl⟩) | (at_make; refine wpList_make_full _ rfl _ _ 122 rfl w.heap.size 4 i0 (.bool false) 1 Try.underlying122 hi0 hz0 hz1 .i64 .i64 (n : Int) (n : Int) n rfl rfl rfl rfl (by rw [hz2]; omega) (by unfold maxLen; omega) (by simp) ?_; intro w1 hown hgrow; have hb1 : Below w.heap.size w w1 := (Below.refl _ w).grown hgrow (Nat.le_refl _) (fun k hk => by simp at hk); have HM1 := Lib.hid (Marks.new hown hb1); clear hown hgrow hb1))
    refine (HGA.out w1 HM1.out).mono ?_
    rintro e w2 ⟨⟨v, rfl⟩, m', hg, ho, hb2⟩
    have hma : m' = ancMs xs i := gath_all hu (by have := HN.out; omega) (by rw [← HN.out]; exact hg)
    subst hma
    have HNM := Lib.hid (HNA.out w2 _ (ancMs xs i) hb2 (Rd.of_own ho) (ancMs_len xs i))
    have HB2 := Lib.hid hb2
    clear hg ho hb2
    go_wp2_with fail
    refine HNM.out.mono ?_
    rintro e w3 ⟨⟨v3, rfl, hr3⟩, hb3⟩
    go_wp2_with fail
    go_ret2
    refine ⟨⟨_, by rw [HF.out]; rfl, ?_⟩, HB2.out.trans (hb3.mono HB2.out.size)⟩
    rw [HF.out, if_pos rfl, HMS.out]
    exact hr3.mono fun b hb => Nat.le_trans HB2.out.size hb
end Go.Proofs.Ytlanephpmoajiaa

namespace Go.Proofs.Ytlanephpmoajiaa
open Go.RowKit
set_option linter.unusedVariables false
theorem namesOf_cut {xs : List ItemD} {ms : List Bool} (hl : ms.length = xs.length) {i : Nat} (h : ∀ k, i ≤ k → k < xs.length → ms.getD k false = false) : namesOf xs ms = namesOf (xs.take i) (ms.take i) := by
  have key : ∀ d, namesOf (xs.take (i + d)) (ms.take (i + d)) = namesOf (xs.take i) (ms.take i) := by
    intro d
    induction d with
    | zero => rfl
    | succ d ih =>
      rcases Nat.lt_or_ge (i + d) xs.length with h1 | h1
      · have hx : xs[i + d]? = some xs[i + d] := List.getElem?_eq_getElem h1
        have hm : ms[i + d]? = some (ms[i + d]'(by omega)) := List.getElem?_eq_getElem (by omega)
        have hf := h (i + d) (by omega) h1
        rw [List.getD_eq_getElem?_getD, hm, Option.getD_some] at hf
        rw [hf] at hm
        rw [← Nat.add_assoc, namesOf_snoc hx hm, ih]
        simp
      · rw [← Nat.add_assoc, List.take_of_length_le (by omega : xs.length ≤ i + d + 1), List.take_of_length_le (by omega : ms.length ≤ i + d + 1)]
        rw [List.take_of_length_le (by omega : xs.length ≤ i + d), List.take_of_length_le (by omega : ms.length ≤ i + d)] at ih
        exact ih
  have := key xs.length
  rw [List.take_of_length_le (by omega : xs.length ≤ i + xs.length), List.take_of_length_le (by omega : ms.length ≤ i + xs.length)] at this
  exact this
theorem ancMs_cut {xs : List ItemD} (h : BookUq xs) {i : Nat} (hi : i < xs.length) : namesOf xs (ancMs xs i) = namesOf (xs.take i) ((ancMs xs i).take i) :=
  namesOf_cut (ancMs_len _ _) fun k hk hkl => by
    cases hq : (ancMs xs i).getD k false with
    | false => rfl
    | true => have := ((ancMs_iff h hi hkl).1 hq).lt h; omega
theorem fromSrc_eq {xs : List ItemD} (h : BookUq xs) {i j : Nat} (hi : i < xs.length) (hj : j < i) : (fromGo xs ((List.replicate xs.length false).set j true) xs.length).getD i false = (ancMs xs i).getD j false := by
  rw [Bool.eq_iff_iff, from_one h hi, ancMs_iff h hi (by omega)]
  constructor
  · rintro (rfl | h1)
    · omega
    · exact h1
  · exact .inr
/-- What the reference's Sources leaves. -/
def RefSrcPost (w : World) (xs : List ItemD) (nm : ByteArray) (e : Ending) (w' : World) : Prop :=
  ((idx xs nm = none ∧ e = .returned (.tuple #[.slice none 0 0, .int .i64 5])) ∨ ∃ (i : Nat) (v : Value), idx xs nm = some i ∧ e = .returned (.tuple #[v, .int .i64 0]) ∧ Rd .string w' (w.heap.size ≤ ·) v (namesOf xs (ancMs xs i))) ∧ Below w.heap.size w w'
set_option maxRecDepth 100000 in
set_option maxHeartbeats 2000000 in
theorem refSrc_any (v : Value) (xs : List ItemD) (nm : ByteArray) (S : Nat → Prop) (w : World) (hv : RdI w S v xs) (hu : BookUq xs) (hxl : xs.length ≤ 1024) :
    Calls Try.prog 36 #[v, .string nm] w (RefSrcPost w xs nm) := by
  obtain ⟨i0, hi0, hz0, hz1, hz2⟩ := info_parts info4
  obtain ⟨j0, hj0, hy0, hy1, hy2⟩ := info_parts info9
  have HF := Lib.hid (refFind_any v xs S nm w hv)
  have HV := Lib.hid hv
  obtain ⟨A, n, cap, rfl, hn, hcap, hmax, hc⟩ := hv.lt.open_
  have HC := Lib.hid hc
  have HXL := Lib.hid hxl
  have hn1024 : n ≤ 1024 := by omega
  cases hi : idx xs nm with
  | none =>
    have hf : findI xs nm = -1 := by simp [findI, hi]
    rw [hf] at HF
    have HI := Lib.hid hi
    clear hf hi hn hv hxl hc
    go_enter Try.func36, Try.ntmps36
    go_wp2_with (go_at_call 27; refine HF.out.mono ?_; rintro e w' ⟨rfl, rfl⟩)
    go_ret2
    exact ⟨.inl ⟨HI.out, rfl⟩, Below.refl _ _⟩
  | some i =>
    have hf : findI xs nm = i := by simp [findI, hi]
    have hil := idx_lt hi
    rw [hn] at hil
    rw [hf] at HF
    have HI := Lib.hid hi
    have HN := Lib.hid hn
    have hi1 : (0 : Int) ≤ (i : Int) := by omega
    have hi2 : (i : Int) < (n : Int) := by omega
    clear hf hi hn hv hxl hc
    go_enter Try.func36, Try.ntmps36
    go_wp2_with (go_at_call 27; refine HF.out.mono ?_; rintro e w' ⟨rfl, rfl⟩)
    go_loopw [7, 8] (fun o iv wr => ∃ j : Nat, j ≤ i ∧ iv = .int .i64 j ∧ wr.ownsRow w.heap.size 9 1 o (namesOf (xs.take j) ((ancMs xs i).take j)).length ((namesOf (xs.take j) ((ancMs xs i).take j)).map Value.string) ∧ Below w.heap.size w wr) (fun _ iv _ => i - (intOf iv).toNat)
    case atStart => exact ⟨0, Nat.zero_le _, rfl, World.ownsRow_nil _ _ _ _, Below.refl _ _⟩
    case round =>
      obtain ⟨j, hj, rfl, hown, hbel⟩ := hrel
      by_cases hlt : j < i
      · obtain ⟨b2, off2, x, fx, rfl, ⟨_, hbw2⟩, hx, c0, -⟩ := HC.out j (by omega)
        have hma : (ancMs xs i)[j]? = some ((ancMs xs i).getD j false) := by
          rw [List.getD_eq_getElem?_getD, List.getElem?_eq_getElem (by rw [ancMs_len]; have := HN.out; omega)]; rfl
        have hsn := namesOf_snoc hx hma
        have hlen := namesOf_len xs (ancMs xs i) j
        obtain ⟨L, hL⟩ : ∃ L, L = namesOf (xs.take j) ((ancMs xs i).take j) := ⟨_, rfl⟩
        rw [← hL] at hsn hown hlen
        have hEQ := fromSrc_eq hu (i := i) (j := j) (by have := HN.out; omega) hlt
        obtain ⟨mk, hmk⟩ : ∃ mk, mk = (ancMs xs i).getD j false := ⟨_, rfl⟩
        rw [← hmk] at hsn hEQ
        have HEQ := Lib.hid hEQ
        have HSN := Lib.hid hsn
        have HOWN := Lib.hid hown
        have HBEL := Lib.hid hbel
        have HC0 := Lib.hid c0
        obtain ⟨xn, xk, xa, xf⟩ := x
        have hj1 : (0 : Int) ≤ (j : Int) := by omega
        have hj2 : (j : Int) < (n : Int) := by omega
        obtain ⟨A7, c7, rfl⟩ := ownsRow_slice hown
        clear hL hx hma hmk hsn hEQ hown hbel c0
        go_wp2_with (at_make; refine wpList_make_full _ rfl _ _ 122 rfl wr.heap.size 4 i0 (.bool false) 1 Try.underlying122 hi0 hz0 hz1 .i64 .i64 (n : Int) (n : Int) n rfl rfl rfl rfl (by rw [hz2]; omega) (by unfold maxLen; omega) (by simp) ?_; intro w1 hown1 hgrow1; have hb1 : Below wr.heap.size wr w1 := (Below.refl _ wr).grown hgrow1 (Nat.le_refl _) (fun k hk => by simp at hk); have hF1 : FromW wr (.slice (some ⟨wr.heap.size, 0, none⟩) n n) n (List.replicate n false) w1 := ⟨(by have h := hown1; rw [made_false] at h; exact h), hb1⟩; obtain ⟨g0, hg0, -, -, hcc, hff⟩ := hF1.at_ (k := j) (by omega); simp only [Option.some.injEq, Addr.mk.injEq, and_true] at hg0; subst hg0; have HF1 := Lib.hid hF1; clear hF1 hown1 hgrow1 hb1)
        have hF2 := HF1.out.store (Nat.le_refl _) j
        have HF2 := Lib.hid hF2
        clear hF2 HF1
        obtain ⟨W2, hW2⟩ : ∃ W2, W2 = w1.setCell ⟨wr.heap.size, j, none⟩ (.bool true) := ⟨_, rfl⟩
        rw [← hW2] at HF2 ⊢
        clear hW2 hcc hff
        have hlm : ((List.replicate n false).set j true).length = xs.length := by rw [List.length_set, List.length_replicate]; exact HN.out.symm
        have HBW2 : Hid (Below w.heap.size w W2) := HBEL.out.trans (HF2.out.2.mono HBEL.out.size)
        refine (from_any _ _ xs ((List.replicate n false).set j true) S (wr.heap.size ≤ ·) W2 (HV.out.below HBW2.out) (Rd.of_own HF2.out.1) hlm HXL.out).mono ?_
        rintro e w3 ⟨⟨v3, rfl, ho3⟩, hb3⟩
        rw [HN.out] at ho3
        obtain ⟨A3, c3, rfl⟩ := ownsRow_slice ho3
        obtain ⟨g3, hA3, -, -, hcc3, -⟩ := FromW.at_ (w := W2) ⟨ho3, hb3⟩ hil
        subst hA3
        rw [show (fromGo xs ((List.replicate n false).set j true) n).getD i false = mk from by have h1 := HEQ.out; rw [HN.out] at h1; exact h1] at hcc3
        have HB3 : Hid (Below wr.heap.size wr w3) := HF2.out.2.trans (hb3.mono HF2.out.2.size)
        have d0 : w3.cell? ⟨b2, off2 + j * 4, none⟩ = some (.string xn) := ((HBEL.out.trans (HB3.out.mono HBEL.out.size)).cell (p := ⟨b2, _, none⟩) hbw2).trans HC0.out
        have HO3 := Lib.hid (HOWN.out.kept (row := none) ⟨HB3.out.os, HB3.out.tape, HB3.out.output, HB3.out.size, fun k hk _ => HB3.out.block k hk⟩ (Classical.em _))
        have HBL3 := Lib.hid (HBEL.out.trans (HB3.out.mono HBEL.out.size))
        clear ho3 hb3 hlm
        cases mk with
        | false =>
          go_wp2_with fail
          go_roundw
          case rel => exact ⟨j + 1, by omega, by go_num, by rw [HSN.out]; simpa using HO3.out, HBL3.out⟩
          case measure => simp [intOf]; omega
        | true =>
          have hown3 := HO3.out
          have hszw := HBL3.out.size
          go_wp2_with (at_builtin; refine wpList_append_own _ rfl _ _ 52 rfl w.heap.size 9 j0 (.string ⟨#[]⟩) 1 16 Try.underlying52 hj0 hy0 hy1 hy2 rfl (by decide) _ _ _ rfl (hown3.alloc _) ⟨w3.heap.size, 0, none⟩ 1 1 [.string xn] rfl rfl (cell_one_new _ _ _) (fun u hu => by simp at hu; subst hu; rfl) (by unfold maxLen; omega) (by omega) (by simp; omega) ?_; intro v' w4 hown' hgrow _)
          have hg := grown_below HO3.out hgrow hszw
          go_roundw
          case rel => exact ⟨j + 1, by omega, by go_num, by rw [HSN.out]; simp only [reduceIte]; rw [List.map_append, List.length_append]; exact hown', HBL3.out.trans hg.1⟩
          case measure => simp [intOf]; omega
      · have hji : j = i := by omega
        have HO := Lib.hid hown
        have HJ := Lib.hid hji
        clear hown hji
        go_wp2_with fail
        go_ret2
        have ho := HO.out
        rw [HJ.out] at ho
        refine ⟨.inr ⟨i, _, HI.out, rfl, ?_⟩, hbel⟩
        rw [ancMs_cut hu (by have := HN.out; omega)]
        exact Rd.of_own ho
end Go.Proofs.Ytlanephpmoajiaa

